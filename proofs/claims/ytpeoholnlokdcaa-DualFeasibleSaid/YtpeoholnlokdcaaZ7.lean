/- DUAL in memory: settle. -/
import Derived.Test.YtpeoholnlokdcaaZ6

set_option linter.unusedSimpArgs false
set_option linter.unusedVariables false

namespace Go.Proofs.Ytpeoholnlokdcaa
open Go
set_option linter.unusedSimpArgs false
set_option linter.unusedVariables false
set_option maxRecDepth 20000

section
variable {h : Hp} {L : RM} {x : DPt} {s : DS} {Q : Value → Hp → Prop}
theorem DQ.rem {h h2 : Hp} {L L' : RM} {x : DPt} {s' : DS} {l : Nat} (q : DQ h L x s' h2 L') (hl : h l = none) (ol : ∀ r, L' r ≠ some l) : DQ h L x s' (h2.rem l) L' :=
  ⟨q.at_.keep fun r c o e e2 => by rw [rem_ne (by rintro rfl; exact ol r e)]; exact e2, ⟨fun y o e n => by rw [rem_ne (ne_new e hl)]; exact q.fr.keep y o e n, q.fr.new, q.fr.kp⟩⟩

set_option maxHeartbeats 4000000 in
theorem settleTail {env : Env} {h g3 : Hp} {p : PK} {y1 : Kn} {b b2 b3 b4 : Nat} {w : Wy} {s1 : DS} {was now code : Int} (q3 : DQ h L x s1 g3 L) (hy : getM s1.px p = some y1) (hb : L (.kn p) = some b) (hl : s1.out.length + s1.lk.length ≤ 1000000)
    (e2 : env 2 = .pointer (some ⟨b2, 0, none⟩)) (e3 : env 3 = .pointer (some ⟨b3, 0, none⟩)) (e4 : env 4 = .pointer (some ⟨b4, 0, none⟩)) (e6 : env 6 = .int .i64 was) (e7 : env 7 = .int .i64 now) (hc : (if was < now then (2 : Int) else 1) = code)
    (f2 : g3 b2 = some (.cells #[ptrV x.p] 25 (0, 0))) (f3 : g3 b3 = some (.cells #[ptrV b] 72 (0, 0))) (f4 : g3 b4 = some (.cells w.cells T_way (0, 0))) (o2 : ∀ r, L r ≠ some b2) (o3 : ∀ r, L r ≠ some b3) (o4 : ∀ r, L r ≠ some b4)
    (hQ : ∀ h' L', DQ h L x (leastS ((nbrs s1.lk).foldl (askS p w code) s1) p code now) h' L' → (∀ r, r ≠ .ou → L' r = L r) → Q (.tuple #[]) h') :
    (sq (rg dual_Dual_settle_r6) (sq (sq (rg dual_Dual_settle_r7) (cnd (Operand.tmp 47) (rg dual_Dual_settle_r8) (ex Exit.normal)))
      (sq (sq (rg dual_Dual_settle_r9) (blk 0 (rfn Try.prog 92 (Operand.tmp 49) #[50, 51] dual_Dual_settle_F0_a dual_Dual_settle_F0_b)))
        (blk 2 (sq (rg dual_Dual_settle_r14) (cnd (Operand.tmp 69) (rg dual_Dual_settle_r15) (sq (rg dual_Dual_settle_r16) (cnd (Operand.tmp 80) (rg dual_Dual_settle_r17) (ex Exit.normal))))))))) (fin Try.prog [] Q) env g3 := by
  have A3 := q3.at_
  simp (disch := omega) [dual_Dual_settle_r6]
  intro b8 hb8
  simp (disch := omega)
  have o8 := A3.out_ hb8
  have key : ∀ (env : Env) (g : Hp), env 2 = .pointer (some ⟨b2, 0, none⟩) → env 3 = .pointer (some ⟨b3, 0, none⟩) → env 4 = .pointer (some ⟨b4, 0, none⟩) → env 7 = .int .i64 now → env 8 = .pointer (some ⟨b8, 0, none⟩) → Le g3 g → g b8 = some (.cells #[.int .i64 code] 3 (0, 0)) →
      (sq (sq (rg dual_Dual_settle_r9) (blk 0 (rfn Try.prog 92 (Operand.tmp 49) #[50, 51] dual_Dual_settle_F0_a dual_Dual_settle_F0_b)))
        (blk 2 (sq (rg dual_Dual_settle_r14) (cnd (Operand.tmp 69) (rg dual_Dual_settle_r15) (sq (rg dual_Dual_settle_r16) (cnd (Operand.tmp 80) (rg dual_Dual_settle_r17) (ex Exit.normal))))))) (fin Try.prog [] Q) env g := by
    intro env g e2 e3 e4 e7 e8 lg f8
    have f2 := lg _ _ f2
    have f3 := lg _ _ f3
    have f4 := lg _ _ f4
    simp (disch := omega) [dual_Dual_settle_r9, e2, f2]
    refine neighboursM (fun Bd g1 l1 hBd nBd => ?_)
    simp (disch := omega)
    refine ⟨F_dual_Dual_neighbours_1, #[], #[.pointer (some ⟨Bd, 0, none⟩)], by simp, fun l fn D hl2 hu => ?_⟩
    simp (disch := omega)
    have lg1 := lg.trans l1
    have f2 := l1 _ _ f2
    have f3 := l1 _ _ f3
    have f4 := l1 _ _ f4
    have f8 := l1 _ _ f8
    have n2 : b2 ≠ l := ne_new f2 hl2
    have n3 : b3 ≠ l := ne_new f3 hl2
    have n4 : b4 ≠ l := ne_new f4 hl2
    have n8 : b8 ≠ l := ne_new f8 hl2
    have nB : Bd ≠ l := ne_new hBd hl2
    have A4 := A3.le' lg1
    have ol := A4.out_ hl2
    have oB : ∀ r, L r ≠ some Bd := (A3.le' lg).out_ nBd
    have hl3 : g3 l = none := none_of_le lg1 hl2
    have key2 : ∀ (env : Env), env 2 = .pointer (some ⟨b2, 0, none⟩) → env 3 = .pointer (some ⟨b3, 0, none⟩) → env 4 = .pointer (some ⟨b4, 0, none⟩) → env 8 = .pointer (some ⟨b8, 0, none⟩) → (∀ t, 92 ≤ t → env t = undef) →
        Ok Try.prog F_dual_Dual_neighbours_1 #[.func (.yield l) #[] #[], .pointer (some ⟨Bd, 0, none⟩)] (g1.upd l (recOf 92 env #[50, 51] dual_Dual_settle_F0_a dual_Dual_settle_F0_b .ready none fn D)) (fun _ h2 =>
          StI (g1.upd l (recOf 92 env #[50, 51] dual_Dual_settle_F0_a dual_Dual_settle_F0_b .ready none fn D)) L x ((nbrs s1.lk).foldl (askS p w code) s1) l (recOf 92 env #[50, 51] dual_Dual_settle_F0_a dual_Dual_settle_F0_b .ready none fn D) h2) := by
      intro env e2 e3 e4 e8 hu
      have La : ∀ (o : Obj) (z : Nat) (ob : Obj), z ≠ l → g1 z = some ob → (g1.upd l o) z = some ob := fun o z ob n e => by rw [upd_ne n]; exact e
      have A5 := A4.putL ol (recOf 92 env #[50, 51] dual_Dual_settle_F0_a dual_Dual_settle_F0_b .ready none fn D)
      have fBd := La (recOf 92 env #[50, 51] dual_Dual_settle_F0_a dual_Dual_settle_F0_b .ready none fn D) _ _ nB hBd
      have E : StE env (g1.upd l (recOf 92 env #[50, 51] dual_Dual_settle_F0_a dual_Dual_settle_F0_b .ready none fn D)) L x w code b b2 b3 b4 b8 l :=
        ⟨e2, e3, e4, e8, hu, La _ _ _ n2 f2, La _ _ _ n3 f3, La _ _ _ n4 f4, La _ _ _ n8 f8, o2, o3, o4, o8, ol, n2, n3, n4, n8⟩
      refine nb1M fBd A5 (by omega) (fun V g => StI (g1.upd l (recOf 92 env #[50, 51] dual_Dual_settle_F0_a dual_Dual_settle_F0_b .ready none fn D)) L x (V.foldl (askS p w code) s1) l (recOf 92 env #[50, 51] dual_Dual_settle_F0_a dual_Dual_settle_F0_b .ready none fn D) g)
        ⟨⟨L, .same A5 (.refl _), fun _ _ => rfl⟩, upd_same⟩ (fun V g B => ?_) (fun V k rest g bl K hsp B hbl hK => ?_) (fun v g B => B)
      · obtain ⟨⟨L', q, st⟩, fl⟩ := B
        exact ⟨(q.fr.keep _ _ fBd oB).trans fBd.symm, L', _, q.at_, asks_lk, fun k b e => (st _ (by simp)).trans e, asks_px, fun k b e => (st _ (by simp)).trans e⟩
      · have hkm : (getM s1.lk k).isSome := nbrs_get.1 (by rw [hsp]; simp : k ∈ nbrs s1.lk)
        obtain ⟨ln, hln⟩ := Option.isSome_iff_exists.1 ((asks_lk (p := p) (w := w) (code := code) (V := V) k).trans hkm)
        obtain ⟨yV, hyV⟩ := Option.isSome_iff_exists.1 ((asks_px (p := p) (w := w) (code := code) (V := V) (s := s1) p).trans (by rw [hy]; rfl))
        have hV : V.length ≤ s1.lk.length := by rw [← nbrs_length, hsp, List.length_append]; omega
        have ho := asks_out (p := p) (w := w) (code := code) (V := V) (s := s1)
        refine settleStep hb E hyV hln (by omega) upd_same B (fun g' B' => hK g' ?_)
        rw [List.foldl_append]
        exact B'
    refine (key2 _ ?_ ?_ ?_ ?_ ?_).mono ?_
    · simp [e2]
    · simp [e3]
    · simp [e4]
    · simp [e8]
    · intro t ht; exact hu t ht
    · rintro _ h2 ⟨⟨L2, q4, st⟩, fl⟩
      refine .inl ⟨fl, ?_⟩
      have q5 : DQ g1 L x ((nbrs s1.lk).foldl (askS p w code) s1) (h2.rem l) L2 := DQ.rem (q4.le (.new hl2)) hl2 (q4.fr.old upd_same ol)
      have q6 := q3.trans (q5.le lg1)
      have o2' := q5.fr.keep _ _ f2 o2
      have o3' := q5.fr.keep _ _ f3 o3
      have o8' := q5.fr.keep _ _ f8 o8
      clear q4 fl
      generalize h2.rem l = h3 at *
      obtain ⟨y2, hy2⟩ := Option.isSome_iff_exists.1 ((asks_px (p := p) (w := w) (code := code) (V := nbrs s1.lk) (s := s1) p).trans (by rw [hy]; rfl))
      generalize (nbrs s1.lk).foldl (askS p w code) s1 = s2 at *
      have A6 := q5.at_
      have hb2 : L2 (.kn p) = some b := (st _ (by simp)).trans hb
      obtain ⟨r, oo, ov, K⟩ := A6.known hy2 hb2
      obtain ⟨v, pt, _, _⟩ := A6.pt
      have ptk := K.pt
      have ln := A6.lenL (R := 3)
      unfold leastS at hQ
      rw [hy2] at hQ
      simp only at hQ
      by_cases c1 : s2.lk = []
      · rw [if_pos c1] at hQ
        have cl : s2.lk.length = 0 := by rw [c1]; rfl
        rw [cl] at ln
        simp (disch := omega) [dual_Dual_settle_r14, e2, o2', pt, ln]
        simp (disch := omega) [dual_Dual_settle_r15, e3, e7, o3', ptk]
        have q7 := (A6.setTold hy2 K y2.told now).1
        exact .to _ (.refl _) (hQ _ L2 (q6.trans q7) st)
      · rw [if_neg c1] at hQ
        have cl : ¬ (s2.lk.length : Int) = 0 := fun q => c1 (List.length_eq_zero_iff.1 (by omega))
        by_cases c2 : code = 1
        · rw [if_pos c2] at hQ
          simp (disch := omega) [dual_Dual_settle_r14, e2, o2', pt, ln, cl, c1]
          simp (disch := omega) [dual_Dual_settle_r16, e8, o8', c2]
          simp (disch := omega) [dual_Dual_settle_r17, e3, e7, o3', ptk]
          have q7 := (A6.setTold hy2 K y2.told (min y2.least now)).1
          exact .to _ (.refl _) (hQ _ L2 (q6.trans q7) st)
        · rw [if_neg c2] at hQ
          simp (disch := omega) [dual_Dual_settle_r14, e2, o2', pt, ln, cl, c1]
          simp (disch := omega) [dual_Dual_settle_r16, e8, o8', c2]
          exact .to _ (.refl _) (hQ _ L2 q6 st)
  by_cases c : was < now
  · rw [if_pos c] at hc
    subst hc
    simp (disch := omega) [dual_Dual_settle_r7, dual_Dual_settle_r8, e6, e7, c]
    refine key _ (g3.upd b8 (.cells #[.int .i64 2] 3)) ?_ ?_ ?_ ?_ ?_ (.new hb8) upd_same <;> simp [e2, e3, e4, e7]
  · rw [if_neg c] at hc
    subst hc
    simp (disch := omega) [dual_Dual_settle_r7, e6, e7, c]
    refine key _ (g3.upd b8 (.cells #[.int .i64 1] 3)) ?_ ?_ ?_ ?_ ?_ (.new hb8) upd_same <;> simp [e2, e3, e4, e7]

set_option maxHeartbeats 4000000 in
theorem dsettleM {p : PK} {y : Kn} {b : Nat} (A : DualAt h L x s) (hy : getM s.px p = some y) (hb : L (.kn p) = some b) (hl : s.out.length + s.lk.length ≤ 1000000)
    (hQ : ∀ h' L', DQ h L x (settleS s p) h' L' → (∀ r, r ≠ .ou → L' r = L r) → Q (.tuple #[]) h') :
    Ok Try.prog F_dual_Dual_settle #[ptrV x.p, ptrV b] h Q := by
  refine dual_Dual_settle_ok (by simp) ?_
  unfold dual_Dual_settle_D
  simp (disch := omega) [dual_Dual_settle_r0]
  intro b2 hb2 b3 hb3
  obtain ⟨n32, h32⟩ := upd_none hb3
  show dual_Dual_settle_r1 _ ((h.upd b2 (.cells #[ptrV x.p] 25)).upd b3 (.cells #[ptrV b] 72)) _
  have l3 : Le h ((h.upd b2 (.cells #[ptrV x.p] 25)).upd b3 (.cells #[ptrV b] 72)) := (Le.new hb2).trans (Le.new hb3)
  have f2 : ((h.upd b2 (.cells #[ptrV x.p] 25)).upd b3 (.cells #[ptrV b] 72)) b2 = some (.cells #[ptrV x.p] 25 (0, 0)) := by rw [upd_ne (Ne.symm n32), upd_same]
  have f3 : ((h.upd b2 (.cells #[ptrV x.p] 25)).upd b3 (.cells #[ptrV b] 72)) b3 = some (.cells #[ptrV b] 72 (0, 0)) := upd_same
  have o2 := A.out_ hb2
  have o3 := A.out_ h32
  generalize (h.upd b2 (.cells #[ptrV x.p] 25)).upd b3 (.cells #[ptrV b] 72) = h1 at *
  simp (disch := omega) [dual_Dual_settle_r1, f2, f3]
  refine dbestM (A.le' l3) hy hb (by omega) (fun h2 l2 => ?_)
  have hw0 : (⟨(accW (bestS s.lk y 4294967295)).v, (accW (bestS s.lk y 4294967295)).tg, 0⟩ : Wy) = wayS s.lk y := rfl
  generalize accW (bestS s.lk y 4294967295) = w0 at *
  have l4 := l3.trans l2
  have f2 := l2 _ _ f2
  have f3 := l2 _ _ f3
  simp (disch := omega)
  intro b4 hb4
  simp (disch := omega) [dual_Dual_settle_r2]
  have n24 := ne_new f2 hb4
  have n34 := ne_new f3 hb4
  have h4 : h b4 = none := none_of_le l4 hb4
  have o4 := A.out_ h4
  generalize hw : wayS s.lk y = w at *
  show dual_Dual_settle_r3 _ (h2.upd b4 (.cells (⟨w0.v, w0.tg, 0⟩ : Wy).cells T_way)) _
  rw [hw0]
  have l5 := l4.trans (Le.new (o := .cells w.cells T_way) hb4)
  have f2 := (Le.new (o := .cells w.cells T_way) hb4) _ _ f2
  have f3 := (Le.new (o := .cells w.cells T_way) hb4) _ _ f3
  have f4 : (h2.upd b4 (.cells w.cells T_way)) b4 = some (.cells w.cells T_way (0, 0)) := upd_same
  generalize h2.upd b4 (.cells w.cells T_way) = g at *
  have A1 := A.le' l5
  obtain ⟨r, oo, ov, Kn⟩ := A1.known hy hb
  have pt := Kn.pt
  have ln := lenNd (R := 3) Kn.mo
  have hS : settleS s p = if y.opn ≠ [] ∨ w = y.told then s else leastS ((nbrs s.lk).foldl (askS p w (codeS y w)) (setK s p { y with told := w })) p (codeS y w) (ofV w.v) := by
    unfold settleS; rw [hy]; simp only [hw]
  have same : settleS s p = s → drp Q (.tuple #[]) g := fun e => .to _ (.refl _) (hQ _ L (by rw [e]; exact .same A l5) (fun _ _ => rfl))
  by_cases c1 : y.opn = []
  · have cl : y.opn.length = 0 := by rw [c1]; rfl
    rw [cl] at ln
    have pt' : g b = some (.cells #[.int .u32 (p.1 : Nat), .int .i64 p.2, ov, .map (some r), .int .i64 y.told.v.b, .int .i64 y.told.v.d, .int .i64 y.told.v.h, .int .u16 (y.told.tg : Nat), .int .i64 y.told.nx, .int .i64 y.least, .map (some oo)] T_known (0, 0)) := pt
    have hd : (decide (w.v.b = y.told.v.b) && (decide (w.v.d = y.told.v.d) && decide (w.v.h = y.told.v.h)) && (decide ((w.tg : Int) = (y.told.tg : Int)) && decide (w.nx = y.told.nx))) = decide (w = y.told) := by
      rw [Bool.eq_iff_iff]
      simp only [Bool.and_eq_true, decide_eq_true_eq]
      generalize y.told = z
      rcases w with ⟨⟨a1, a2, a3⟩, a4, a5⟩
      rcases z with ⟨⟨b1, b2, b3⟩, b4, b5⟩
      simp only [Wy.mk.injEq, Vec.mk.injEq]
      constructor
      · rintro ⟨⟨h1, h2, h3⟩, h4, h5⟩; exact ⟨⟨h1, h2, h3⟩, by omega, h5⟩
      · rintro ⟨⟨h1, h2, h3⟩, h4, h5⟩; exact ⟨⟨h1, h2, h3⟩, by omega, h5⟩
    simp (disch := omega) [dual_Dual_settle_r3, f3, f4, pt', ln]
    simp only [hd]
    by_cases c2 : w = y.told
    · rw [if_pos (.inr c2)] at hS
      rw [decide_eq_true c2]
      simp (disch := omega)
      exact same hS
    · rw [if_neg (fun q => q.elim (fun q => q c1) c2)] at hS
      rw [decide_eq_false c2]
      simp (disch := omega) [dual_Dual_settle_r4, f3, f4, pt']
      refine ofVM (v := y.told.v) (fun g1 l6 => ?_)
      simp (disch := omega) [l6 _ _ f4]
      refine ofVM (v := w.v) (fun g2 l7 => ?_)
      have l8 := l6.trans l7
      have f2 := l8 _ _ f2
      have f3 := l8 _ _ f3
      have f4 := l8 _ _ f4
      have pt2 := l8 _ _ pt'
      have A2 := A1.le' l8
      obtain ⟨q3, K3⟩ := A2.setTold hy (Kn.keep (fun _ _ => rfl) (fun r b o _ _ e => l8 _ _ e)) w y.least
      simp (disch := omega) [dual_Dual_settle_r5, f3, f4]
      refine stA_mid [.int .u32 (p.1 : Nat), .int .i64 p.2, ov, .map (some r)] [.int .i64 y.told.v.b, .int .i64 y.told.v.d, .int .i64 y.told.v.h, .int .u16 (y.told.tg : Nat), .int .i64 y.told.nx] [.int .i64 y.least, .map (some oo)] pt2 (by rfl) (by rfl) (by rfl) ?_
      have hy3 : getM (setK s p { y with told := w }).px p = some { y with told := w } := setK_get
      have pt3 := K3.pt
      have nb2 : b2 ≠ b := fun q => o2 _ (by rw [q]; exact hb)
      have nb3 : b3 ≠ b := fun q => o3 _ (by rw [q]; exact hb)
      have nb4 : b4 ≠ b := fun q => o4 _ (by rw [q]; exact hb)
      show sq (rg dual_Dual_settle_r6) _ _ _ (g2.upd b (.cells (kcells p { y with told := w, least := y.least } ov r oo) T_known (0, 0)))
      have f2 : (g2.upd b (.cells (kcells p { y with told := w, least := y.least } ov r oo) T_known (0, 0))) b2 = some (.cells #[ptrV x.p] 25 (0, 0)) := by rw [upd_ne nb2]; exact f2
      have f3 : (g2.upd b (.cells (kcells p { y with told := w, least := y.least } ov r oo) T_known (0, 0))) b3 = some (.cells #[ptrV b] 72 (0, 0)) := by rw [upd_ne nb3]; exact f3
      have f4 : (g2.upd b (.cells (kcells p { y with told := w, least := y.least } ov r oo) T_known (0, 0))) b4 = some (.cells w.cells T_way (0, 0)) := by rw [upd_ne nb4]; exact f4
      generalize g2.upd b (.cells (kcells p { y with told := w, least := y.least } ov r oo) T_known (0, 0)) = g3 at *
      have q3' : DQ h L x (setK s p { y with told := w }) g3 L := (q3.le l8).le l5
      refine settleTail (b := b) (b2 := b2) (b3 := b3) (b4 := b4) (was := ofV y.told.v) (now := ofV w.v) (code := codeS y w) q3' hy3 hb hl ?_ ?_ ?_ ?_ ?_ rfl f2 f3 f4 o2 o3 o4 (fun h' L' q st => hQ h' L' (by rw [hS]; exact q) st) <;> simp
  · rw [if_pos (.inl c1)] at hS
    have cl : 0 < y.opn.length := List.length_pos_iff.2 c1
    simp (disch := omega) [dual_Dual_settle_r3, f3, f4, pt, ln, cl, c1]
    exact same hS
end
end Go.Proofs.Ytpeoholnlokdcaa

/- DUAL in memory: add, report. -/
namespace Go.Proofs.Ytpeoholnlokdcaa
open Go
set_option linter.unusedSimpArgs false
set_option linter.unusedVariables false
set_option maxRecDepth 20000

section
variable {h : Hp} {L : RM} {x : DPt} {s : DS} {Q : Value → Hp → Prop}

set_option maxHeartbeats 2000000 in
theorem daddM {p : PK} (A : DualAt h L x s) (hQ1 : ∀ h' L' y b, DQ h L x (addS s p) h' L' → getM (addS s p).px p = some y → L' (.kn p) = some b → Q (ptrV b) h')
    (hQ0 : ∀ h', Le h h' → getM s.px p = none → addS s p = s → Q (.pointer none) h') :
    Ok Try.prog F_dual_Dual_add #[ptrV x.p, .agg #[.int .u32 (p.1 : Nat), .int .i64 p.2]] h Q := by
  refine dual_Dual_add_ok (by simp) ?_
  unfold dual_Dual_add_D
  simp (disch := omega) [dual_Dual_add_r0]
  intro b3 hb3
  have f3 : (h.upd b3 (.cells #[.int .u32 (p.1 : Nat), .int .i64 p.2] 35)) b3 = some (.cells #[.int .u32 (p.1 : Nat), .int .i64 p.2] 35 (0, 0)) := upd_same
  have l1 : Le h (h.upd b3 (.cells #[.int .u32 (p.1 : Nat), .int .i64 p.2] 35)) := .new hb3
  show dual_Dual_add_r1 _ (h.upd b3 (.cells #[.int .u32 (p.1 : Nat), .int .i64 p.2] 35)) _
  have A1 := A.le' l1
  have o3 : ∀ r, L r ≠ some b3 := A.out_ hb3
  generalize h.upd b3 (.cells #[.int .u32 (p.1 : Nat), .int .i64 p.2] 35) = h1 at *
  obtain ⟨v, pt, _, _⟩ := A1.pt
  unfold addS at hQ1 hQ0
  cases hy : getM s.px p with
  | some y =>
    rw [hy] at hQ1
    simp only at hQ1
    obtain ⟨b, hb⟩ := A1.knB hy
    have lk := A1.lookK hy hb
    simp (disch := omega) [dual_Dual_add_r1, dual_Dual_add_r2, dual_Dual_add_r5, pt, f3, lk]
    exact .to _ (.refl _) (hQ1 _ L y b (.same A l1) hy hb)
  | none =>
    rw [hy] at hQ1 hQ0
    simp only at hQ1 hQ0
    have lk := A1.look0 hy
    have ln := A1.lenP (R := 3)
    by_cases c : (s.px.length : Int) < s.most
    · rw [if_pos c] at hQ1
      simp (disch := omega) [dual_Dual_add_r1, dual_Dual_add_r2, pt, f3, lk, ln, c]
      simp (disch := omega) [dual_Dual_add_r3, f3]
      refine makeRd (fun r hr MR => ?_)
      simp (disch := omega)
      refine makeNd (fun o ho MO => ?_)
      simp (disch := omega)
      intro b hb
      obtain ⟨nbo, hb1⟩ := upd_none hb
      obtain ⟨nbr, hb2⟩ := upd_none hb1
      obtain ⟨nor, ho1⟩ := upd_none ho
      have L2 : Le h1 (((h1.upd r (.map #[] 0)).upd o (.map #[] 0)).upd b (.cells (kcells p kn0 (.pointer none) r o) T_known)) := ((Le.new hr).trans (Le.new ho)).trans (Le.new hb)
      have fb : (((h1.upd r (.map #[] 0)).upd o (.map #[] 0)).upd b (.cells (kcells p kn0 (.pointer none) r o) T_known)) b = some (.cells (kcells p kn0 (.pointer none) r o) T_known (0, 0)) := upd_same
      have mr := (MR.le (.new (o := .map #[] 0) ho)).le (.new (o := .cells (kcells p kn0 (.pointer none) r o) T_known) hb)
      have mo := MO.le (.new (o := .cells (kcells p kn0 (.pointer none) r o) T_known) hb)
      show dual_Dual_add_r4 _ (((h1.upd r (.map #[] 0)).upd o (.map #[] 0)).upd b (.cells (kcells p kn0 (.pointer none) r o) T_known)) _
      generalize ((h1.upd r (.map #[] 0)).upd o (.map #[] 0)).upd b (.cells (kcells p kn0 (.pointer none) r o) T_known) = h2 at *
      have A2 := A1.le' L2
      have pt2 := L2 _ _ pt
      have f32 := L2 _ _ f3
      simp (disch := omega) [dual_Dual_add_r4, pt2, f32]
      refine putPd A2.mp (fun ob M => ?_)
      simp (disch := omega) [dual_Dual_add_r5]
      have q := A1.addKn (y := kn0) hy rfl L2 hb2 hr ho1 nbr nbo (Ne.symm nor) fb mr mo (by simp [kn0, Uniq]) (by simp [kn0, Uniq]) M
      exact .to _ (.refl _) (hQ1 _ _ kn0 b (q.le l1) setK_get (by rw [RM.set_ne (by simp), RM.set_ne (by simp), RM.set_same]))
    · rw [if_neg c] at hQ0
      simp (disch := omega) [dual_Dual_add_r1, dual_Dual_add_r2, dual_Dual_add_r5, pt, f3, lk, ln, c]
      exact .to _ (.refl _) (hQ0 _ l1 trivial rfl)

theorem addS_dom {s : DS} {p : PK} : (addS s p).dom = s.dom ∧ (addS s p).lk = s.lk ∧ (addS s p).out = s.out := by
  unfold addS
  split
  · exact ⟨rfl, rfl, rfl⟩
  · split <;> exact ⟨rfl, rfl, rfl⟩

set_option maxHeartbeats 4000000 in
theorem dreportM {p : PK} {k : Int} {v : Vec} {tg : Nat} (A : DualAt h L x s) (ht : tg < 2 ^ 16) (hQ1 : ∀ h' L' y b, DQ h L x (repS s k p v tg) h' L' → getM (repS s k p v tg).px p = some y → L' (.kn p) = some b → Q (.tuple #[ptrV b, .int .i64 (repErr s p v tg)]) h')
    (hQ0 : ∀ h', Le h h' → getM s.px p = none → repS s k p v tg = s → Q (.tuple #[.pointer none, .int .i64 (repErr s p v tg)]) h') :
    Ok Try.prog F_dual_Dual_report #[ptrV x.p, .int .i64 k, .agg #[.int .u32 (p.1 : Nat), .int .i64 p.2, .int .i64 v.b, .int .i64 v.d, .int .i64 v.h, .int .u16 (tg : Nat)]] h Q := by
  refine dual_Dual_report_ok (by simp) ?_
  unfold dual_Dual_report_D
  simp (disch := omega) [dual_Dual_report_r0]
  intro b5 hb5
  show dual_Dual_report_r1 _ (h.upd b5 (.cells #[.int .u32 (p.1 : Nat), .int .i64 p.2, .int .i64 v.b, .int .i64 v.d, .int .i64 v.h, .int .u16 (tg : Nat)] 38)) _
  have f5 : (h.upd b5 (.cells #[.int .u32 (p.1 : Nat), .int .i64 p.2, .int .i64 v.b, .int .i64 v.d, .int .i64 v.h, .int .u16 (tg : Nat)] 38)) b5 = some (.cells #[.int .u32 (p.1 : Nat), .int .i64 p.2, .int .i64 v.b, .int .i64 v.d, .int .i64 v.h, .int .u16 (tg : Nat)] 38 (0, 0)) := upd_same
  have l1 : Le h (h.upd b5 (.cells #[.int .u32 (p.1 : Nat), .int .i64 p.2, .int .i64 v.b, .int .i64 v.d, .int .i64 v.h, .int .u16 (tg : Nat)] 38)) := .new hb5
  have o5 : ∀ r, L r ≠ some b5 := A.out_ hb5
  generalize h.upd b5 (.cells #[.int .u32 (p.1 : Nat), .int .i64 p.2, .int .i64 v.b, .int .i64 v.d, .int .i64 v.h, .int .u16 (tg : Nat)] 38) = h1 at *
  simp (disch := omega) [dual_Dual_report_r1, f5]
  refine reachVM (v := v) (fun h2 l2 => ?_)
  have l3 := l1.trans l2
  have f5 := l2 _ _ f5
  have A2 := A.le' l3
  obtain ⟨dv, pt, _, _⟩ := A2.pt
  clear l1 l2
  simp (disch := omega) [dual_Dual_report_r2, f5, pt]
  refine thas_spec ht ?_
  -- the end
  have fin9 : ∀ (env : Env) (g : Hp) (L1 : RM) (s1 : DS) (y : Kn) (b : Nat) (f : Bool), DQ h L x s1 g L1 → g b5 = some (.cells #[.int .u32 (p.1 : Nat), .int .i64 p.2, .int .i64 v.b, .int .i64 v.d, .int .i64 v.h, .int .u16 (tg : Nat)] 38 (0, 0)) →
      getM s1.px p = some y → L1 (.kn p) = some b → env 0 = ptrV x.p → env 1 = .int .i64 k → env 5 = .pointer (some ⟨b5, 0, none⟩) → env 6 = ptrV b → env 7 = .int .i64 (repErr s p v tg) → env 8 = .bool f →
      repS s k p v tg = setK s1 p { y with rep := if f then setM k ⟨v, tg, 0⟩ y.rep else delM k y.rep } →
      (sq (blk 0 (sq (rg dual_Dual_report_r9) (cnd (.tmp 42) (ex .normal) (sq (rg dual_Dual_report_r10) (cnd (.tmp 45) (rg dual_Dual_report_r11) (rg dual_Dual_report_r12)))))) (sq (rg dual_Dual_report_r13) (ex .ret))) (fin Try.prog [.tmp 6, .tmp 7] Q) env g := by
    intro env g L1 s1 y b f q fe hy hb e0 e1 e5 e6 e7 e8 hS
    obtain ⟨r, o, ov, K⟩ := q.at_.known hy hb
    have ptk := K.pt
    cases f with
    | true =>
      simp (disch := omega) [dual_Dual_report_r9, dual_Dual_report_r10, e6, e8]
      simp (disch := omega) [dual_Dual_report_r11, e1, e5, e6, ptk, fe]
      refine putRd (v := ⟨v, tg, 0⟩) K.mr (fun ob M => ?_)
      simp (disch := omega) [dual_Dual_report_r13, e6, e7]
      have q2 := q.trans (q.at_.setRep hy K M K.ur.set).1
      exact .to _ (.refl _) (hQ1 _ L1 _ b (by rw [hS]; exact q2) (by rw [hS]; exact setK_get) hb)
    | false =>
      simp (disch := omega) [dual_Dual_report_r9, dual_Dual_report_r10, e6, e8]
      simp (disch := omega) [dual_Dual_report_r12, e1, e5, e6, ptk, fe]
      refine delRd K.mr (fun ob M => ?_)
      simp (disch := omega) [dual_Dual_report_r13, e6, e7]
      have q2 := q.trans (q.at_.setRep hy K M K.ur.del).1
      exact .to _ (.refl _) (hQ1 _ L1 _ b (by rw [hS]; exact q2) (by rw [hS]; exact setK_get) hb)
  have fin0 : ∀ (env : Env) (g : Hp), Le h g → getM s.px p = none → repS s k p v tg = s → env 6 = .pointer none → env 7 = .int .i64 (repErr s p v tg) →
      (sq (blk 0 (sq (rg dual_Dual_report_r9) (cnd (.tmp 42) (ex .normal) (sq (rg dual_Dual_report_r10) (cnd (.tmp 45) (rg dual_Dual_report_r11) (rg dual_Dual_report_r12)))))) (sq (rg dual_Dual_report_r13) (ex .ret))) (fin Try.prog [.tmp 6, .tmp 7] Q) env g := by
    intro env g lg hy hS e6 e7
    simp (disch := omega) [dual_Dual_report_r9, dual_Dual_report_r13, e6, e7]
    exact .to _ (.refl _) (hQ0 _ lg hy hS)
  have addSome : ∀ y, getM s.px p = some y → addS s p = s := fun y e => by unfold addS; rw [e]
  cases hy : getM s.px p with
  | some y =>
    obtain ⟨b, hb⟩ := A2.knB hy
    have lk := A2.lookK hy hb
    have hhas : hasS (addS s p) p = true := by rw [addSome y hy]; unfold hasS; rw [hy]; rfl
    cases c1 : hasT tg s.dom with
    | true =>
      have hE : repErr s p v tg = 6 := by unfold repErr; rw [if_pos c1]
      have hS : repS s k p v tg = setK s p { y with rep := if false = true then setM k ⟨v, tg, 0⟩ y.rep else delM k y.rep } := by
        unfold repS repFine; rw [c1, hy]; simp
      simp (disch := omega) [dual_Dual_report_r3]
      simp (disch := omega) [dual_Dual_report_r4, dual_Dual_report_r5, pt, f5, lk]
      refine fin9 _ h2 L s y b false (.same A l3) f5 hy hb ?_ ?_ ?_ ?_ ?_ ?_ hS <;> simp [hE]
    | false =>
      have hE : repErr s p v tg = 0 := by unfold repErr; rw [c1, hhas]; simp
      have hS : repS s k p v tg = setK s p { y with rep := if reachV v = true then setM k ⟨v, tg, 0⟩ y.rep else delM k y.rep } := by
        unfold repS repFine; rw [c1, addSome y hy, hy]; cases reachV v <;> simp
      simp (disch := omega)
      simp (disch := omega) [dual_Dual_report_r4, dual_Dual_report_r5, pt, f5, lk]
      refine fin9 _ h2 L s y b (reachV v) (.same A l3) f5 hy hb ?_ ?_ ?_ ?_ ?_ ?_ hS <;> simp [hE]
  | none =>
    have lk := A2.look0 hy
    cases c1 : hasT tg s.dom with
    | true =>
      have hE : repErr s p v tg = 6 := by unfold repErr; rw [if_pos c1]
      have hS : repS s k p v tg = s := by unfold repS repFine; rw [c1, hy]; simp
      simp (disch := omega) [dual_Dual_report_r3]
      simp (disch := omega) [dual_Dual_report_r4, dual_Dual_report_r5, pt, f5, lk]
      refine fin0 _ h2 l3 hy hS ?_ ?_ <;> simp [hE]
    | false =>
      cases c2 : reachV v with
      | false =>
        have hE : repErr s p v tg = 0 := by unfold repErr; rw [c1, c2]; simp
        have hS : repS s k p v tg = s := by unfold repS repFine; rw [c1, c2, hy]; simp
        simp (disch := omega)
        simp (disch := omega) [dual_Dual_report_r4, dual_Dual_report_r5, pt, f5, lk]
        refine fin0 _ h2 l3 hy hS ?_ ?_ <;> simp [hE]
      | true =>
        simp (disch := omega)
        simp (disch := omega) [dual_Dual_report_r4, dual_Dual_report_r5, pt, f5, lk]
        simp (disch := omega) [dual_Dual_report_r6, f5]
        refine daddM A2 (fun h3 L3 y b q hy3 hb3 => ?_) (fun h3 l4 hy3 hS3 => ?_)
        · have hE : repErr s p v tg = 0 := by unfold repErr hasS; rw [c1, c2, hy3]; simp
          have hS : repS s k p v tg = setK (addS s p) p { y with rep := if true = true then setM k ⟨v, tg, 0⟩ y.rep else delM k y.rep } := by
            unfold repS repFine; rw [c1, c2, hy3]; simp
          simp (disch := omega) [dual_Dual_report_r7]
          refine fin9 _ h3 L3 (addS s p) y b true (q.le l3) (q.fr.keep _ _ f5 o5) hy3 hb3 ?_ ?_ ?_ ?_ ?_ ?_ hS <;> simp [hE]
        · have hE : repErr s p v tg = 4 := by unfold repErr hasS; rw [c1, c2, hS3, hy]; simp
          have hS : repS s k p v tg = s := by unfold repS repFine; rw [c1, c2, hS3, hy]; simp
          simp (disch := omega) [dual_Dual_report_r7, dual_Dual_report_r8]
          refine fin0 _ h3 (l3.trans l4) hy hS ?_ ?_ <;> simp [hE]
end
end Go.Proofs.Ytpeoholnlokdcaa

/- DUAL in memory: Own, Drop. -/
namespace Go.Proofs.Ytpeoholnlokdcaa
open Go
set_option linter.unusedSimpArgs false
set_option linter.unusedVariables false
set_option maxRecDepth 20000

section
variable {h : Hp} {L : RM} {x : DPt} {s : DS} {Q : Value → Hp → Prop}

theorem outS_self (ho : s.out = []) : outS s = s := by unfold outS; rw [← ho]
theorem TQ.none_ (A : DualAt h L x s) (ho : s.out = []) {h' : Hp} (l : Le h h') : TQ h L x (outS s) s.out (.slice none 0 0) h' L :=
  ⟨by rw [outS_self ho]; exact A.le' l, .of_le l, .inl ⟨rfl, ho⟩, fun _ e => by simp [blkOf] at e, fun _ e => by simp [blkOf] at e⟩

set_option maxHeartbeats 4000000 in
theorem downM {p : PK} {v : Vec} {tg : Nat} (A : DualAt h L x s) (ho : s.out = []) (hl : s.lk.length ≤ 1000) (hp : p.1 < 2 ^ 32) (ht : tg < 2 ^ 16)
    (hQ : ∀ w h' L', TQ h L x (outS (ownS s p v tg)) (ownS s p v tg).out w h' L' → Q (.tuple #[w, .int .i64 (ownErr s p v tg)]) h') :
    Ok Try.prog F_dual_Dual_Own #[ptrV x.p, .agg #[.int .u32 (p.1 : Nat), .int .i64 p.2], v.v, .int .u16 (tg : Nat)] h Q := by
  refine dual_Dual_Own_ok (by simp) ?_
  unfold dual_Dual_Own_D
  simp (disch := omega) [dual_Dual_Own_r0]
  intro b5 hb5 b6 hb6
  obtain ⟨n65, h65⟩ := upd_none hb6
  have l1 : Le h ((h.upd b5 (.cells #[.int .u32 (p.1 : Nat), .int .i64 p.2] 35)).upd b6 (.cells v.cells 23)) := (Le.new hb5).trans (Le.new hb6)
  have f5 : ((h.upd b5 (.cells #[.int .u32 (p.1 : Nat), .int .i64 p.2] 35)).upd b6 (.cells v.cells 23)) b5 = some (.cells #[.int .u32 (p.1 : Nat), .int .i64 p.2] 35 (0, 0)) := by rw [upd_ne (Ne.symm n65), upd_same]
  have f6 : ((h.upd b5 (.cells #[.int .u32 (p.1 : Nat), .int .i64 p.2] 35)).upd b6 (.cells v.cells 23)) b6 = some (.cells v.cells 23 (0, 0)) := upd_same
  show dual_Dual_Own_r1 _ ((h.upd b5 (.cells #[.int .u32 (p.1 : Nat), .int .i64 p.2] 35)).upd b6 (.cells v.cells 23)) _
  have o6 := A.out_ h65
  generalize (h.upd b5 (.cells #[.int .u32 (p.1 : Nat), .int .i64 p.2] 35)).upd b6 (.cells v.cells 23) = h1 at *
  have bad : ∀ e g, Le h g → ownErr s p v tg = e → e ≠ 0 → drp Q (.tuple #[.slice none 0 0, .int .i64 e]) g := fun e g lg he hn => by
    refine .to _ (.refl _) ?_
    have := hQ (.slice none 0 0) g L (by unfold ownS; rw [he, if_neg hn]; exact .none_ A ho lg)
    rw [he] at this; exact this
  have hE : ownErr s p v tg = if mayB p.1 p.2 = false ∨ reachV v = false then 1 else if hasT tg s.dom then 6 else if hasS (addS s p) p then 0 else 4 := rfl
  simp (disch := omega) [dual_Dual_Own_r1, f5]
  refine may_spec hp ?_
  cases c1 : mayB p.1 p.2 with
  | false =>
    rw [if_pos (.inl c1)] at hE
    simp (disch := omega) [dual_Dual_Own_r2]
    exact bad _ _ l1 hE (by omega)
  | true =>
  simp (disch := omega) [f6]
  refine reachVM (v := v) (fun h2 l2 => ?_)
  have l3 := l1.trans l2
  have f5 := l2 _ _ f5
  have f6 := l2 _ _ f6
  cases c2 : reachV v with
  | false =>
    rw [if_pos (.inr c2)] at hE
    simp (disch := omega) [dual_Dual_Own_r2]
    exact bad _ _ l3 hE (by omega)
  | true =>
  rw [if_neg (by rw [c1, c2]; simp)] at hE
  have A2 := A.le' l3
  obtain ⟨dv, pt, _, _⟩ := A2.pt
  simp (disch := omega) [dual_Dual_Own_r3, pt]
  refine thas_spec ht ?_
  cases c3 : hasT tg s.dom with
  | true =>
    rw [if_pos c3] at hE
    simp (disch := omega) [dual_Dual_Own_r4]
    exact bad _ _ l3 hE (by omega)
  | false =>
  rw [if_neg (by rw [c3]; simp)] at hE
  simp (disch := omega) [dual_Dual_Own_r5, f5]
  refine daddM A2 (fun h3 L3 y b q hy hb => ?_) (fun h3 l4 hy hS => ?_)
  · have hh : hasS (addS s p) p = true := by unfold hasS; rw [hy]; rfl
    rw [if_pos hh] at hE
    have hS : ownS s p v tg = settleS (setK (addS s p) p { y with own := some ⟨v, tg, 0⟩ }) p := by unfold ownS; rw [if_pos hE, hy]
    rw [hE, hS] at hQ
    have f6 := q.fr.keep _ _ f6 o6
    obtain ⟨r, oo, ov, K⟩ := q.at_.known hy hb
    have ptk := K.pt
    simp (disch := omega) [dual_Dual_Own_r6]
    simp (disch := omega) [dual_Dual_Own_r8, f6]
    intro a ha
    have q2 := q.at_.setOwn hy K ⟨v, tg, 0⟩ ha
    have nba := ne_new ptk ha
    have ptk' : h3 b = some (.cells #[.int .u32 (p.1 : Nat), .int .i64 p.2, ov, .map (some r), .int .i64 y.told.v.b, .int .i64 y.told.v.d, .int .i64 y.told.v.h, .int .u16 (y.told.tg : Nat), .int .i64 y.told.nx, .int .i64 y.least, .map (some oo)] T_known (0, 0)) := ptk
    simp (disch := omega) [nba, ptk']
    have q3 := (q.trans q2).le l3
    have hb' : (L3.set (.ow p) (some a)) (.kn p) = some b := (RM.set_ne (by simp)).trans hb
    show dual_Dual_Own_r9 _ ((h3.upd a (.cells (⟨v, tg, 0⟩ : Wy).cells T_way (0, 0))).upd b (.cells (kcells p { y with own := some ⟨v, tg, 0⟩ } (ptrV a) r oo) T_known (0, 0))) _
    generalize (h3.upd a (.cells (⟨v, tg, 0⟩ : Wy).cells T_way (0, 0))).upd b (.cells (kcells p { y with own := some ⟨v, tg, 0⟩ } (ptrV a) r oo) T_known (0, 0)) = h4 at *
    simp (disch := omega) [dual_Dual_Own_r9]
    have ho1 : (setK (addS s p) p { y with own := some ⟨v, tg, 0⟩ }).out = [] := by
      show (addS s p).out = []
      rw [addS_dom.2.2]; exact ho
    have hl1 : (setK (addS s p) p { y with own := some ⟨v, tg, 0⟩ }).lk.length ≤ 1000 := by
      show (addS s p).lk.length ≤ 1000
      rw [addS_dom.2.1]; exact hl
    refine dsettleM q3.at_ setK_get hb' (by rw [ho1]; simp; omega) (fun h5 L5 q5 st => ?_)
    simp (disch := omega) [dual_Dual_Own_r10]
    refine dtakeM q5.at_ (fun w h6 L6 T => ?_)
    simp (disch := omega)
    exact .to _ (.refl _) (hQ w h6 L6 (T.pre (q3.trans q5).fr))
  · have hh : ¬ hasS (addS s p) p = true := by rw [hS]; unfold hasS; rw [hy]; simp
    rw [if_neg hh] at hE
    simp (disch := omega) [dual_Dual_Own_r6, dual_Dual_Own_r7]
    exact bad _ _ (l3.trans l4) hE (by omega)

set_option maxHeartbeats 4000000 in
theorem ddropM {p : PK} (A : DualAt h L x s) (ho : s.out = []) (hl : s.lk.length ≤ 1000)
    (hQ : ∀ w h' L', TQ h L x (outS (dropS s p)) (dropS s p).out w h' L' → Q (.tuple #[w, .int .i64 (dropErr s p)]) h') :
    Ok Try.prog F_dual_Dual_Drop #[ptrV x.p, .agg #[.int .u32 (p.1 : Nat), .int .i64 p.2]] h Q := by
  refine dual_Dual_Drop_ok (by simp) ?_
  unfold dual_Dual_Drop_D
  simp (disch := omega) [dual_Dual_Drop_r0]
  intro b3 hb3
  have f3 : (h.upd b3 (.cells #[.int .u32 (p.1 : Nat), .int .i64 p.2] 35)) b3 = some (.cells #[.int .u32 (p.1 : Nat), .int .i64 p.2] 35 (0, 0)) := upd_same
  have l1 : Le h (h.upd b3 (.cells #[.int .u32 (p.1 : Nat), .int .i64 p.2] 35)) := .new hb3
  show dual_Dual_Drop_r1 _ (h.upd b3 (.cells #[.int .u32 (p.1 : Nat), .int .i64 p.2] 35)) _
  generalize h.upd b3 (.cells #[.int .u32 (p.1 : Nat), .int .i64 p.2] 35) = h1 at *
  have A1 := A.le' l1
  obtain ⟨v, pt, _, _⟩ := A1.pt
  unfold dropErr dropS at hQ
  cases hy : getM s.px p with
  | none =>
    rw [hy] at hQ
    have lk := A1.look0 hy
    simp (disch := omega) [dual_Dual_Drop_r1, dual_Dual_Drop_r2, dual_Dual_Drop_r3, pt, f3, lk]
    exact .to _ (.refl _) (hQ _ _ L (.none_ A ho l1))
  | some y =>
    rw [hy] at hQ
    simp only at hQ
    obtain ⟨b, r, oo, ov, K⟩ := A1.kn p y hy
    have ptk := K.pt
    have lk := A1.lookK hy K.kb
    rcases K.ow with ⟨q1, q2⟩ | ⟨w, a, q1, q2, q3, q4⟩
    · subst q2
      rw [if_pos q1, if_pos q1] at hQ
      simp (disch := omega) [dual_Dual_Drop_r1, dual_Dual_Drop_r2, dual_Dual_Drop_r3, pt, f3, lk, ptk]
      exact .to _ (.refl _) (hQ _ _ L (.none_ A ho l1))
    · subst q2
      rw [if_neg (by rw [q1]; simp), if_neg (by rw [q1]; simp)] at hQ
      simp (disch := omega) [dual_Dual_Drop_r1, dual_Dual_Drop_r2, pt, f3, lk, ptk]
      have q5 := (A1.setOwn0 hy K).le l1
      simp (disch := omega) [dual_Dual_Drop_r4, ptk]
      show dual_Dual_Drop_r5 _ (h1.upd b (.cells (kcells p { y with own := none } (.pointer none) r oo) T_known (0, 0))) _
      have hb := K.kb
      generalize h1.upd b (.cells (kcells p { y with own := none } (.pointer none) r oo) T_known (0, 0)) = h2 at *
      simp (disch := omega) [dual_Dual_Drop_r5]
      refine dsettleM q5.at_ setK_get hb (by show s.out.length + s.lk.length ≤ 1000000; rw [ho]; simp; omega) (fun h5 L5 q6 st => ?_)
      simp (disch := omega) [dual_Dual_Drop_r6]
      refine dtakeM q6.at_ (fun w h6 L6 T => ?_)
      simp (disch := omega)
      exact .to _ (.refl _) (hQ w h6 L6 (T.pre (q5.trans q6).fr))
end
end Go.Proofs.Ytpeoholnlokdcaa

/- DUAL in memory: Hear. -/
namespace Go.Proofs.Ytpeoholnlokdcaa
open Go
set_option linter.unusedSimpArgs false
set_option linter.unusedVariables false
set_option maxRecDepth 20000

theorem setK_dom {s : DS} {p : PK} {y : Kn} : (setK s p y).lk = s.lk ∧ (setK s p y).out = s.out ∧ (setK s p y).dom = s.dom := ⟨rfl, rfl, rfl⟩
theorem repS_lk {s : DS} {k : Int} {p : PK} {v : Vec} {tg : Nat} : (repS s k p v tg).lk = s.lk ∧ (repS s k p v tg).out = s.out := by
  unfold repS
  split
  · split
    · exact ⟨addS_dom.2.1, addS_dom.2.2⟩
    · exact ⟨addS_dom.2.1, addS_dom.2.2⟩
  · split <;> exact ⟨rfl, rfl⟩

theorem hasS_lk {s : DS} {p : PK} {m : List (Int × Ln)} : hasS (addS { s with lk := m } p) p = hasS (addS s p) p := by
  unfold hasS addS
  cases h : getM s.px p with
  | some y => simp
  | none =>
    simp only
    split <;> simp [setK, getM_setM]

section
variable {h : Hp} {L : RM} {x : DPt} {s : DS} {Q : Value → Hp → Prop}

set_option maxHeartbeats 8000000 in
theorem dhearM {k : Int} {l : Lt} (A : DualAt h L x s) (ho : s.out = []) (hl : s.lk.length ≤ 1000) (hp : l.p.1 < 2 ^ 32) (ht : l.tg < 2 ^ 16)
    (hQ : ∀ w h' L', TQ h L x (outS (hearS s k l)) (hearS s k l).out w h' L' → Q (.tuple #[w, .int .i64 (hearErr s k l)]) h') :
    Ok Try.prog F_dual_Dual_Hear #[ptrV x.p, .int .i64 k, l.val] h Q := by
  refine dual_Dual_Hear_ok (by simp) ?_
  unfold dual_Dual_Hear_D
  simp (disch := omega) [dual_Dual_Hear_r0]
  intro b5 hb5
  have f5 : (h.upd b5 (.cells l.cells T_letter)) b5 = some (.cells l.cells T_letter (0, 0)) := upd_same
  have l1 : Le h (h.upd b5 (.cells l.cells T_letter)) := .new hb5
  show dual_Dual_Hear_r1 _ (h.upd b5 (.cells l.cells T_letter)) _
  have o5 := A.out_ hb5
  generalize h.upd b5 (.cells l.cells T_letter) = h1 at *
  have A1 := A.le' l1
  obtain ⟨v, pt, _, _⟩ := A1.pt
  have bad : ∀ e g, Le h g → hearErr s k l = e → hearOk s k l = false → drp Q (.tuple #[.slice none 0 0, .int .i64 e]) g := fun e g lg he hn => by
    refine .to _ (.refl _) ?_
    have := hQ (.slice none 0 0) g L (by unfold hearS; rw [hn, if_neg (by simp)]; exact .none_ A ho lg)
    rw [he] at this; exact this
  cases hk : getM s.lk k with
  | none =>
    have lk := A1.lookL0 hk
    simp (disch := omega) [dual_Dual_Hear_r1, dual_Dual_Hear_r2, dual_Dual_Hear_r3, pt, lk]
    exact bad _ _ l1 (by unfold hearErr; rw [hk]) (by unfold hearOk; rw [hk])
  | some f =>
  obtain ⟨bf, hbf, ff⟩ := A1.li k f hk
  have lk := A1.lookLk hk hbf
  have hE : hearErr s k l = if l.code < 1 ∨ 3 < l.code ∨ mayB l.p.1 l.p.2 = false then 1 else if l.seq ≤ f.got then 5 else repErr s l.p l.v l.tg := by unfold hearErr; rw [hk]
  have hO : hearOk s k l = (decide (1 ≤ l.code) && (decide (l.code ≤ 3) && (mayB l.p.1 l.p.2 && decide (f.got < l.seq)))) := by unfold hearOk; rw [hk]
  simp (disch := omega) [dual_Dual_Hear_r1, pt, lk]
  by_cases c1 : l.code < 1
  · rw [if_pos (.inl c1)] at hE
    rw [decide_eq_false (by omega)] at hO
    simp (disch := omega) [dual_Dual_Hear_r2, dual_Dual_Hear_r3, f5, c1]
    exact bad _ _ l1 hE hO
  by_cases c2 : 3 < l.code
  · rw [if_pos (.inr (.inl c2))] at hE
    rw [decide_eq_true (by omega), decide_eq_false (by omega)] at hO
    simp (disch := omega) [dual_Dual_Hear_r2, dual_Dual_Hear_r3, f5, c1, c2]
    exact bad _ _ l1 hE hO
  simp (disch := omega) [dual_Dual_Hear_r2, f5, c1, c2]
  refine may_spec hp ?_
  rw [decide_eq_true (by omega), decide_eq_true (by omega), Bool.true_and, Bool.true_and] at hO
  cases c3 : mayB l.p.1 l.p.2 with
  | false =>
    rw [if_pos (.inr (.inr c3))] at hE
    rw [c3] at hO
    simp (disch := omega) [dual_Dual_Hear_r3]
    exact bad _ _ l1 hE hO
  | true =>
  rw [if_neg (by rw [c3]; simp; omega)] at hE
  rw [c3, Bool.true_and] at hO
  simp (disch := omega) [dual_Dual_Hear_r4, f5, ff]
  by_cases c4 : l.seq ≤ f.got
  · rw [if_pos c4] at hE
    rw [decide_eq_false (by omega)] at hO
    have c4' : (l.seq : Int) ≤ (f.got : Int) := by omega
    simp (disch := omega) [dual_Dual_Hear_r5, c4, c4']
    exact bad _ _ l1 hE hO
  rw [if_neg c4] at hE
  rw [decide_eq_true (by omega)] at hO
  have c4' : ¬ (l.seq : Int) ≤ (f.got : Int) := by omega
  have hS : hearS s k l = endS (replyS (repS (gotS s k l.seq) k l.p l.v l.tg) k l) k l := by unfold hearS; rw [hO, if_pos rfl]
  have hG : gotS s k l.seq = { s with lk := setM k { f with got := l.seq } s.lk } := by unfold gotS; rw [hk]
  rw [hS, hE] at hQ
  clear bad hE hO hS
  simp (disch := omega) [c4, c4']
  simp (disch := omega) [dual_Dual_Hear_r6, f5, ff]
  have q2 := A1.setLk (l' := { f with got := l.seq }) hk hbf
  show dual_Dual_Hear_r7 _ (h1.upd bf (.cells ({ f with got := l.seq } : Ln).cells T_link (0, 0))) _
  have f5' : (h1.upd bf (.cells ({ f with got := l.seq } : Ln).cells T_link (0, 0))) b5 = some (.cells l.cells T_letter (0, 0)) := by rw [upd_ne (by rintro rfl; exact o5 _ hbf)]; exact f5
  generalize h1.upd bf (.cells ({ f with got := l.seq } : Ln).cells T_link (0, 0)) = h2 at *
  rw [← hG] at q2
  have hlG : (gotS s k l.seq).lk.length = s.lk.length ∧ (gotS s k l.seq).out = [] := by rw [hG]; exact ⟨by simp only [setM_length, hk]; rfl, ho⟩
  have hEG : repErr (gotS s k l.seq) l.p l.v l.tg = repErr s l.p l.v l.tg := by rw [hG]; unfold repErr; rw [hasS_lk]
  have hkG : getM (gotS s k l.seq).lk k = some { f with got := l.seq } := by rw [hG]; simp [getM_setM]
  generalize gotS s k l.seq = s1 at *
  rw [← hEG] at hQ
  simp (disch := omega) [dual_Dual_Hear_r7, f5']
  have hR := repS_lk (s := s1) (k := k) (p := l.p) (v := l.v) (tg := l.tg)
  -- the end, by what was found
  have fin1 : ∀ (env : Env) (g : Hp) (L3 : RM) (s3 : DS) (b : Nat) (y : Kn) (e : Int), DQ h1 L x s3 g L3 → g b5 = some (.cells l.cells T_letter (0, 0)) → getM s3.px l.p = some y → L3 (.kn l.p) = some b → s3.out.length + s3.lk.length ≤ 1000000 →
      env 0 = ptrV x.p → env 1 = .int .i64 k → env 5 = .pointer (some ⟨b5, 0, none⟩) → env 9 = ptrV b → env 10 = .int .i64 e →
      (∀ w h' L', TQ h L x (outS (endS s3 k l)) (endS s3 k l).out w h' L' → Q (.tuple #[w, .int .i64 e]) h') →
      (sq (sq (rg dual_Dual_Hear_r13) (cnd (.tmp 80) (sq (sq (rg dual_Dual_Hear_r14) (sq (rg dual_Dual_Hear_r15) (cnd (.tmp 101) (rg dual_Dual_Hear_r16) (ex .normal)))) (rg dual_Dual_Hear_r17)) (ex .normal))) (sq (rg dual_Dual_Hear_r18) (ex .ret))) (fin Try.prog [.tmp 6, .tmp 7] Q) env g := by
    intro env g L3 s3 b y e q fe hy hb hlen e0 e1 e5 e9 e10 go
    obtain ⟨r, oo, ov, K⟩ := q.at_.known hy hb
    have ptk := K.pt
    have lko := lookNd (p := k) K.mo
    have hEn : endS s3 k l = settleS (if getM y.opn k = some l.ack ∧ l.code = 3 then setK s3 l.p (closeK y k) else s3) l.p := by unfold endS; rw [hy]
    rw [hEn] at go
    have last : ∀ (env : Env) (g : Hp) (s4 : DS) (y4 : Kn), DQ h1 L x s4 g L3 → getM s4.px l.p = some y4 → s4.out.length + s4.lk.length ≤ 1000000 → env 0 = ptrV x.p → env 9 = ptrV b → env 10 = .int .i64 e →
        (∀ w h' L', TQ h L x (outS (settleS s4 l.p)) (settleS s4 l.p).out w h' L' → Q (.tuple #[w, .int .i64 e]) h') →
        dual_Dual_Hear_r17 env g (thenK (sq (rg dual_Dual_Hear_r18) (ex .ret)) (fin Try.prog [.tmp 6, .tmp 7] Q) .normal) := by
      intro env g s4 y4 q hy4 hlen e0 e9 e10 go
      simp (disch := omega) [dual_Dual_Hear_r17, e0, e9]
      refine dsettleM q.at_ hy4 hb hlen (fun h5 L5 q6 st => ?_)
      simp (disch := omega) [dual_Dual_Hear_r18, e0, e10]
      refine dtakeM q6.at_ (fun w h6 L6 T => ?_)
      simp (disch := omega) [e10]
      exact .to _ (.refl _) (go w h6 L6 (T.pre ((DF.of_le l1).trans (q.trans q6).fr)))
    simp (disch := omega) [dual_Dual_Hear_r13, e9]
    simp (disch := omega) [dual_Dual_Hear_r14, e1, e9, ptk, lko]
    cases hg : getM y.opn k with
    | none =>
      rw [hg, if_neg (by simp)] at go
      simp (disch := omega) [dual_Dual_Hear_r15]
      refine last _ g s3 y q hy hlen ?_ ?_ ?_ go <;> simp [e0, e9, e10]
    | some n =>
      rw [hg] at go
      by_cases c5 : l.code = 3
      · by_cases c6 : l.ack = n
        · rw [if_pos ⟨by rw [c6], c5⟩] at go
          simp (disch := omega) [dual_Dual_Hear_r15, e5, fe, c5, c6]
          simp (disch := omega) [dual_Dual_Hear_r16, e1, e9]
          refine dcloseM (k := k) q.at_ hy hb (fun g2 q5 => ?_)
          simp (disch := omega)
          refine last _ g2 _ _ (q.trans q5) setK_get hlen ?_ ?_ ?_ go <;> simp [e0, e9, e10]
        · have c6' : ¬ (l.ack : Int) = (n : Int) := by omega
          rw [if_neg (fun q => c6 (by have := q.1; simp at this; exact this.symm))] at go
          simp (disch := omega) [dual_Dual_Hear_r15, e5, fe, c5, c6, c6']
          refine last _ g s3 y q hy hlen ?_ ?_ ?_ go <;> simp [e0, e9, e10]
      · rw [if_neg (fun q => c5 q.2)] at go
        simp (disch := omega) [dual_Dual_Hear_r15, e5, fe, c5]
        refine last _ g s3 y q hy hlen ?_ ?_ ?_ go <;> simp [e0, e9, e10]
  have fin0 : ∀ (env : Env) (g : Hp) (L3 : RM) (s3 : DS) (e : Int), DQ h1 L x s3 g L3 → getM s3.px l.p = none → env 0 = ptrV x.p → env 9 = .pointer none → env 10 = .int .i64 e →
      (∀ w h' L', TQ h L x (outS (endS s3 k l)) (endS s3 k l).out w h' L' → Q (.tuple #[w, .int .i64 e]) h') →
      (sq (sq (rg dual_Dual_Hear_r13) (cnd (.tmp 80) (sq (sq (rg dual_Dual_Hear_r14) (sq (rg dual_Dual_Hear_r15) (cnd (.tmp 101) (rg dual_Dual_Hear_r16) (ex .normal)))) (rg dual_Dual_Hear_r17)) (ex .normal))) (sq (rg dual_Dual_Hear_r18) (ex .ret))) (fin Try.prog [.tmp 6, .tmp 7] Q) env g := by
    intro env g L3 s3 e q hy e0 e9 e10 go
    have hEn : endS s3 k l = s3 := by unfold endS; rw [hy]
    rw [hEn] at go
    simp (disch := omega) [dual_Dual_Hear_r13, dual_Dual_Hear_r18, e0, e9, e10]
    refine dtakeM q.at_ (fun w h6 L6 T => ?_)
    simp (disch := omega) [e10]
    exact .to _ (.refl _) (go w h6 L6 (T.pre ((DF.of_le l1).trans q.fr)))
  -- the reply
  have mid : ∀ (env : Env) (g : Hp) (L3 : RM) (s3 : DS) (b11 : Nat) (e : Int), DQ h1 L x s3 g L3 → g b5 = some (.cells l.cells T_letter (0, 0)) → g b11 = some (.cells (toldOf s3 l.p).cells T_way (0, 0)) → getM s3.lk k = some { f with got := l.seq } → s3.out = [] → s3.lk.length ≤ 1000 →
      env 0 = ptrV x.p → env 1 = .int .i64 k → env 5 = .pointer (some ⟨b5, 0, none⟩) → env 10 = .int .i64 e → env 11 = .pointer (some ⟨b11, 0, none⟩) →
      (∀ y, getM s3.px l.p = some y → ∃ b, L3 (.kn l.p) = some b ∧ env 9 = ptrV b) → (getM s3.px l.p = none → env 9 = .pointer none) →
      (∀ w h' L', TQ h L x (outS (endS (replyS s3 k l) k l)) (endS (replyS s3 k l) k l).out w h' L' → Q (.tuple #[w, .int .i64 e]) h') →
      (sq (sq (rg dual_Dual_Hear_r11) (cnd (.tmp 69) (rg dual_Dual_Hear_r12) (ex .normal))) (sq (sq (rg dual_Dual_Hear_r13) (cnd (.tmp 80) (sq (sq (rg dual_Dual_Hear_r14) (sq (rg dual_Dual_Hear_r15) (cnd (.tmp 101) (rg dual_Dual_Hear_r16) (ex .normal)))) (rg dual_Dual_Hear_r17)) (ex .normal))) (sq (rg dual_Dual_Hear_r18) (ex .ret)))) (fin Try.prog [.tmp 6, .tmp 7] Q) env g := by
    intro env g L3 s3 b11 e q fe f11 hk3 ho3 hl3 e0 e1 e5 e10 e11 es en go
    by_cases c5 : l.code = 2
    · have hRp : replyS s3 k l = sendS s3 k 3 l.seq l.p (toldOf s3 l.p) := by unfold replyS; rw [if_pos c5]
      rw [hRp] at go
      simp (disch := omega) [dual_Dual_Hear_r11, e5, fe, c5]
      simp (disch := omega) [dual_Dual_Hear_r12, e0, e1, e5, e11, fe, f11]
      refine dsendM (w := toldOf s3 l.p) q.at_ hk3 (by rw [ho3]; simp) (fun g4 L4 q4 st => ?_)
      have fe4 := q4.fr.keep _ _ fe (q.fr.old f5 o5)
      have hpx : (sendS s3 k 3 l.seq l.p (toldOf s3 l.p)).px = s3.px := sendS_px
      have hlen : (sendS s3 k 3 l.seq l.p (toldOf s3 l.p)).out.length + (sendS s3 k 3 l.seq l.p (toldOf s3 l.p)).lk.length ≤ 1000000 := by
        have := sendS_out (s := s3) (k := k) (code := 3) (ack := l.seq) (p := l.p) (w := toldOf s3 l.p)
        rw [ho3] at this
        rw [sendS_len]
        simp at this; omega
      cases hy : getM s3.px l.p with
      | none =>
        refine fin0 _ g4 L4 _ e (q.trans q4) (by rw [hpx]; exact hy) ?_ ?_ ?_ go <;> simp [e0, e10, en hy]
      | some y =>
        obtain ⟨b, hb, e9⟩ := es y hy
        refine fin1 _ g4 L4 _ b y e (q.trans q4) fe4 (by rw [hpx]; exact hy) ((st _ (by simp)).trans hb) hlen ?_ ?_ ?_ ?_ ?_ go <;> simp [e0, e1, e5, e9, e10]
    · have hRp : replyS s3 k l = s3 := by unfold replyS; rw [if_neg c5]
      rw [hRp] at go
      simp (disch := omega) [dual_Dual_Hear_r11, e5, fe, c5]
      cases hy : getM s3.px l.p with
      | none =>
        refine fin0 _ g L3 s3 e q hy ?_ ?_ ?_ go <;> simp [e0, e10, en hy]
      | some y =>
        obtain ⟨b, hb, e9⟩ := es y hy
        refine fin1 _ g L3 s3 b y e q fe hy hb (by rw [ho3]; simp; omega) ?_ ?_ ?_ ?_ ?_ go <;> simp [e0, e1, e5, e9, e10]
  refine dreportM q2.at_ ht (fun h3 L3 y b q hy hb => ?_) (fun h3 l4 hy hS => ?_)
  · have q3 := q2.trans q
    have f53 := q.fr.keep _ _ f5' o5
    have told : toldOf (repS s1 k l.p l.v l.tg) l.p = y.told := by unfold toldOf; rw [hy]
    obtain ⟨r, oo, ov, K⟩ := q3.at_.known hy hb
    have ptk := K.pt
    simp (disch := omega) [dual_Dual_Hear_r8]
    intro b11 hb11
    have n11 := ne_new ptk hb11
    have ptk' : h3 b = some (.cells #[.int .u32 (l.p.1 : Nat), .int .i64 l.p.2, ov, .map (some r), .int .i64 y.told.v.b, .int .i64 y.told.v.d, .int .i64 y.told.v.h, .int .u16 (y.told.tg : Nat), .int .i64 y.told.nx, .int .i64 y.least, .map (some oo)] T_known (0, 0)) := ptk
    simp (disch := omega) [dual_Dual_Hear_r9]
    simp (disch := omega) [dual_Dual_Hear_r10, ptk', n11]
    have l11 : Le h3 (h3.upd b11 (.cells y.told.cells T_way)) := .new hb11
    refine mid _ (h3.upd b11 (.cells y.told.cells T_way)) L3 _ b11 (repErr s1 l.p l.v l.tg) (q3.fin l11 (q3.at_.le' l11)) (l11 _ _ f53) (by rw [told]; exact upd_same) (by rw [hR.1]; exact hkG) (by rw [hR.2]; exact hlG.2) (by rw [hR.1, hlG.1]; exact hl) ?_ ?_ ?_ ?_ ?_ (fun y2 hy2 => ?_) (fun hy2 => ?_) hQ
    · simp
    · simp
    · simp
    · simp
    · simp
    · rw [hy] at hy2; cases hy2
      exact ⟨b, hb, by simp⟩
    · rw [hy] at hy2; cases hy2
  · have f53 := l4 _ _ f5'
    have told : toldOf (repS s1 k l.p l.v l.tg) l.p = Wy.zero := by unfold toldOf; rw [hS, hy]
    have q3 : DQ h1 L x (repS s1 k l.p l.v l.tg) h3 L := by rw [hS]; exact q2.fin l4 (q2.at_.le' l4)
    simp (disch := omega) [dual_Dual_Hear_r8]
    intro b11 hb11
    simp (disch := omega) [dual_Dual_Hear_r9]
    have l11 : Le h3 (h3.upd b11 (.cells Wy.zero.cells T_way)) := .new hb11
    refine mid _ (h3.upd b11 (.cells Wy.zero.cells T_way)) L _ b11 (repErr s1 l.p l.v l.tg) (q3.fin l11 (q3.at_.le' l11)) (l11 _ _ f53) (by rw [told]; exact upd_same) (by rw [hR.1]; exact hkG) (by rw [hR.2]; exact hlG.2) (by rw [hR.1, hlG.1]; exact hl) ?_ ?_ ?_ ?_ ?_ (fun y2 hy2 => ?_) (fun hy2 => ?_) hQ
    · simp
    · simp
    · simp
    · simp
    · simp
    · rw [hS, hy] at hy2; cases hy2
    · simp
end
end Go.Proofs.Ytpeoholnlokdcaa

/- DUAL in memory: rounds over all prefixes; Up, Down. -/
namespace Go.Proofs.Ytpeoholnlokdcaa
open Go
set_option linter.unusedSimpArgs false
set_option linter.unusedVariables false
set_option maxRecDepth 20000

theorem leastS_ {s : DS} {p : PK} {code now : Int} : (leastS s p code now).lk = s.lk ∧ (leastS s p code now).out = s.out ∧ (∀ q, (getM (leastS s p code now).px q).isSome = (getM s.px q).isSome) ∧ (leastS s p code now).px.length = s.px.length := by
  unfold leastS
  split
  · rename_i y hy
    split
    · exact ⟨rfl, rfl, setK_px hy, setK_length hy⟩
    · split
      · exact ⟨rfl, rfl, setK_px hy, setK_length hy⟩
      · exact ⟨rfl, rfl, fun _ => rfl, rfl⟩
  · exact ⟨rfl, rfl, fun _ => rfl, rfl⟩
theorem settleS_lk {s : DS} {p : PK} (j : Int) : (getM (settleS s p).lk j).isSome = (getM s.lk j).isSome := by
  unfold settleS
  split
  · split
    · rfl
    · rw [leastS_.1, asks_lk]; rfl
  · rfl
theorem settleS_px {s : DS} {p : PK} (q : PK) : (getM (settleS s p).px q).isSome = (getM s.px q).isSome := by
  unfold settleS
  split
  · rename_i y hy
    split
    · rfl
    · rw [leastS_.2.2.1, asks_px, setK_px hy]
  · rfl
theorem settleS_len {s : DS} {p : PK} : (settleS s p).lk.length = s.lk.length ∧ (settleS s p).px.length = s.px.length := by
  unfold settleS
  split
  · rename_i y hy
    split
    · exact ⟨rfl, rfl⟩
    · rw [leastS_.1, leastS_.2.2.2, asks_len.1, asks_len.2]; exact ⟨rfl, setK_length hy⟩
  · exact ⟨rfl, rfl⟩
theorem settleS_out {s : DS} {p : PK} : (settleS s p).out.length ≤ s.out.length + s.lk.length := by
  unfold settleS
  split
  · split
    · omega
    · rename_i y hy _
      rw [leastS_.2.1]
      have := asks_out (p := p) (w := wayS s.lk y) (code := codeS y (wayS s.lk y)) (V := nbrs s.lk) (s := setK s p { y with told := wayS s.lk y })
      rw [nbrs_length] at this
      exact this
  · omega

/-- A round keeps what is there. -/
structure OneOk (one : DS → PK → DS) : Prop where
  lk : ∀ s p j, (getM (one s p).lk j).isSome = (getM s.lk j).isSome
  px : ∀ s p q, (getM (one s p).px q).isSome = (getM s.px q).isSome
  len : ∀ s p, (one s p).lk.length = s.lk.length
theorem OneOk.lks {one : DS → PK → DS} (o : OneOk one) : ∀ {V : List PK} {s : DS} (j : Int), (getM (V.foldl one s).lk j).isSome = (getM s.lk j).isSome
  | [], _, _ => rfl
  | k :: V, s, j => by rw [List.foldl_cons, o.lks, o.lk]
theorem OneOk.pxs {one : DS → PK → DS} (o : OneOk one) : ∀ {V : List PK} {s : DS} (j : PK), (getM (V.foldl one s).px j).isSome = (getM s.px j).isSome
  | [], _, _ => rfl
  | k :: V, s, j => by rw [List.foldl_cons, o.pxs, o.px]
theorem OneOk.lens {one : DS → PK → DS} (o : OneOk one) : ∀ {V : List PK} {s : DS}, (V.foldl one s).lk.length = s.lk.length
  | [], _ => rfl
  | k :: V, s => by rw [List.foldl_cons, o.lens, o.len]
theorem OneOk.outs {one : DS → PK → DS} (o : OneOk one) (ho : ∀ s p, (one s p).out.length ≤ s.out.length + (s.lk.length + 1)) : ∀ {V : List PK} {s : DS}, (V.foldl one s).out.length ≤ s.out.length + V.length * (s.lk.length + 1)
  | [], _ => by simp
  | k :: V, s => by
    rw [List.foldl_cons, List.length_cons, Nat.add_mul]
    have h1 := o.outs ho (V := V) (s := one s k)
    rw [o.len] at h1
    have := ho s k
    omega

theorem upOne_ok {k : Int} : OneOk (upOne k) := by
  refine ⟨fun s p j => ?_, fun s p q => ?_, fun s p => ?_⟩ <;> unfold upOne <;> split
  · split
    · exact sendS_lk j
    · rfl
  · rfl
  · split
    · rw [sendS_px]
    · rfl
  · rfl
  · split
    · exact sendS_len
    · rfl
  · rfl
theorem upOne_out {k : Int} (s : DS) (p : PK) : (upOne k s p).out.length ≤ s.out.length + (s.lk.length + 1) := by
  unfold upOne
  split
  · split
    · have := sendS_out (s := s) (k := k) (code := 1) (ack := 0) (p := p) (w := (by assumption : Kn).told); omega
    · omega
  · omega
theorem downOne_ok {k : Int} : OneOk (downOne k) := by
  refine ⟨fun s p j => ?_, fun s p q => ?_, fun s p => ?_⟩ <;> unfold downOne <;> split
  · rw [settleS_lk]; rfl
  · rfl
  · rename_i y hy; rw [settleS_px, setK_px hy]
  · rfl
  · rw [settleS_len.1]; rfl
  · rfl
theorem downOne_out {k : Int} (s : DS) (p : PK) : (downOne k s p).out.length ≤ s.out.length + (s.lk.length + 1) := by
  unfold downOne
  split
  · rename_i y hy
    have := settleS_out (s := setK s p (closeK { y with rep := delM k y.rep } k)) (p := p)
    have e1 : (setK s p (closeK { y with rep := delM k y.rep } k)).out = s.out := rfl
    have e2 : (setK s p (closeK { y with rep := delM k y.rep } k)).lk = s.lk := rfl
    rw [e1, e2] at this; omega
  · omega

section
variable {h : Hp} {L : RM} {x : DPt} {s : DS} {Q : Value → Hp → Prop}

theorem roundsM {h0 : Hp} {l Bd : Nat} {oR : Obj} {E : TypeId} {fr : Nat × Nat} (A : DualAt h0 L x s) (hl : s.px.length ≤ 1000000) (hB : h0 Bd = some (.cells #[ptrV x.p] E fr)) (oB : ∀ r, L r ≠ some Bd) (f0 : h0 l = some oR) {one : DS → PK → DS} (o : OneOk one)
    (step : ∀ V p rest g b y K, pfx s.px = V ++ p :: rest → StI h0 L x (V.foldl one s) l oR g → getM (V.foldl one s).px p = some y → L (.kn p) = some b → (∀ g', StI h0 L x (one (V.foldl one s) p) l oR g' → K (.bool true) g') → YOk Try.prog l #[ptrV b] g K) :
    Ok Try.prog F_dual_Dual_all_1 #[.func (.yield l) #[] #[], .pointer (some ⟨Bd, 0, none⟩)] h0 (fun _ h2 => StI h0 L x ((pfx s.px).foldl one s) l oR h2) := by
  refine all1M hB A hl (fun V g => StI h0 L x (V.foldl one s) l oR g) ⟨⟨L, .same A (.refl _), fun _ _ => rfl⟩, f0⟩ (fun V g B => ?_) (fun V p rest g b K hsp B hb hK => ?_) (fun v g B => B)
  · obtain ⟨⟨L', q, st⟩, fl⟩ := B
    exact ⟨(q.fr.keep _ _ hB oB).trans hB.symm, L', _, q.at_, o.lks, fun k b e => (st _ (by simp)).trans e, o.pxs, fun k b e => (st _ (by simp)).trans e⟩
  · have hkm : (getM s.px p).isSome := pfx_get.1 (by rw [hsp]; simp)
    obtain ⟨y, hy⟩ := Option.isSome_iff_exists.1 ((o.pxs (V := V) p).trans hkm)
    refine step V p rest g b y K hsp B hy hb (fun g' B' => hK g' ?_)
    rw [List.foldl_append]
    exact B'

def upErr (s : DS) (k : Int) (v : Vec) : Int := if upOk s k v then 0 else 1
def upX (s : DS) (k : Int) (v : Vec) : DS := if upOk s k v then upS s k v else s

set_option maxHeartbeats 2000000 in
theorem upStep {env : Env} {fn D l b3 b4 b : Nat} {h0 : Hp} {p : PK} {k : Int} {sV : DS} {y : Kn} (e3 : env 3 = .pointer (some ⟨b3, 0, none⟩)) (e4 : env 4 = .pointer (some ⟨b4, 0, none⟩)) (hu : ∀ t, 59 ≤ t → env t = undef)
    (f3 : h0 b3 = some (.cells #[ptrV x.p] 25 (0, 0))) (f4 : h0 b4 = some (.cells #[.int .i64 k] 3 (0, 0))) (o3 : ∀ r, L r ≠ some b3) (o4 : ∀ r, L r ≠ some b4) (ol : ∀ r, L r ≠ some l) (n3 : b3 ≠ l) (n4 : b4 ≠ l)
    (hb : L (.kn p) = some b) (hy : getM sV.px p = some y) (hk : (getM sV.lk k).isSome) (ho : sV.out.length ≤ 1000000) (f0 : h0 l = some (recOf 59 env #[39] dual_Dual_Up_F0_a dual_Dual_Up_F0_b .ready none fn D)) {g : Hp} {K : Value → Hp → Prop}
    (B : StI h0 L x sV l (recOf 59 env #[39] dual_Dual_Up_F0_a dual_Dual_Up_F0_b .ready none fn D) g)
    (hK : ∀ g', StI h0 L x (upOne k sV p) l (recOf 59 env #[39] dual_Dual_Up_F0_a dual_Dual_Up_F0_b .ready none fn D) g' → K (.bool true) g') : YOk Try.prog l #[ptrV b] g K := by
  obtain ⟨⟨L1, ⟨A1, F1⟩, st⟩, fl⟩ := B
  refine dual_Dual_Up_F0_yok fl hu ?_
  generalize hR : recOf 59 env #[39] dual_Dual_Up_F0_a dual_Dual_Up_F0_b .ready none fn D = oR at *
  generalize hB2 : recOf 59 env #[39] dual_Dual_Up_F0_a dual_Dual_Up_F0_b .busy none fn D = oB
  unfold rnd
  unfold dual_Dual_Up_F0_A
  simp (disch := omega) [dual_Dual_Up_r5]
  refine ⟨fl, ?_⟩
  have ol1 := F1.old f0 ol
  have A2 := A1.putL ol1 oB
  have g3 : (g.upd l oB) b3 = some (.cells #[ptrV x.p] 25 (0, 0)) := by rw [upd_ne n3]; exact F1.keep _ _ f3 o3
  have g4 : (g.upd l oB) b4 = some (.cells #[.int .i64 k] 3 (0, 0)) := by rw [upd_ne n4]; exact F1.keep _ _ f4 o4
  have bk : ∀ (s' : DS) (g' : Hp) (L' : RM), DQ (g.upd l oB) L1 x s' g' L' → DQ h0 L x s' (g'.upd l oR) L' ∧ g' l = some oB := fun s' g' L' q => back f0 ol F1 q
  generalize g.upd l oB = g1 at *
  have hb1 : L1 (.kn p) = some b := (st _ (by simp)).trans hb
  obtain ⟨r, oo, ov, Kn⟩ := A2.known hy hb1
  have pt := Kn.pt
  obtain ⟨ln, hln⟩ := Option.isSome_iff_exists.1 hk
  have hU : upOne k sV p = if reachV y.told.v then sendS sV k 1 0 p y.told else sV := by unfold upOne; rw [hy]
  unfold dual_Dual_Up_F0_B
  simp (disch := omega) [dual_Dual_Up_r6, pt]
  refine reachVM (v := y.told.v) (fun g5 l5 => ?_)
  cases c : reachV y.told.v with
  | true =>
    rw [c, if_pos rfl] at hU
    have g35 := l5 _ _ g3
    have g45 := l5 _ _ g4
    have pt5 := l5 _ _ pt
    simp (disch := omega) [dual_Dual_Up_r7, e3, e4, g35, g45, pt5]
    refine dsendM (p := p) (ack := 0) (w := y.told) (A2.le' l5) hln ho (fun g6 L6 q6 st6 => ?_)
    simp (disch := omega)
    obtain ⟨q8, f8'⟩ := bk _ _ _ (q6.le l5)
    unfold rndK
    simp only [hR, hB2]
    exact ⟨f8', hK _ ⟨⟨L6, by rw [hU]; exact q8, fun r n => (st6 r n).trans (st r n)⟩, upd_same⟩⟩
  | false =>
    rw [c, if_neg (by simp)] at hU
    simp (disch := omega)
    obtain ⟨q8, f8'⟩ := bk _ _ _ (DQ.same A2 l5)
    unfold rndK
    simp only [hR, hB2]
    exact ⟨f8', hK _ ⟨⟨L1, by rw [hU]; exact q8, st⟩, upd_same⟩⟩

set_option maxHeartbeats 4000000 in
theorem dupM {k : Int} {v : Vec} (A : DualAt h L x s) (ho : s.out = []) (hl : s.lk.length ≤ 1000) (hpl : s.px.length ≤ 100)
    (hQ : ∀ w h' L', TQ h L x (outS (upX s k v)) (upX s k v).out w h' L' → Q (.tuple #[w, .int .i64 (upErr s k v)]) h') :
    Ok Try.prog F_dual_Dual_Up #[ptrV x.p, .int .i64 k, v.v] h Q := by
  refine dual_Dual_Up_ok (by simp) ?_
  unfold dual_Dual_Up_D
  simp (disch := omega) [dual_Dual_Up_r0]
  intro b3 hb3 b4 hb4 b5 hb5
  obtain ⟨n54, h54⟩ := upd_none hb5
  obtain ⟨n53, h53⟩ := upd_none h54
  obtain ⟨n43, h43⟩ := upd_none hb4
  have l1 : Le h (((h.upd b3 (.cells #[ptrV x.p] 25)).upd b4 (.cells #[.int .i64 k] 3)).upd b5 (.cells v.cells 23)) := ((Le.new hb3).trans (Le.new hb4)).trans (Le.new hb5)
  show dual_Dual_Up_r1 _ (((h.upd b3 (.cells #[ptrV x.p] 25)).upd b4 (.cells #[.int .i64 k] 3)).upd b5 (.cells v.cells 23)) _
  have f3 : (((h.upd b3 (.cells #[ptrV x.p] 25)).upd b4 (.cells #[.int .i64 k] 3)).upd b5 (.cells v.cells 23)) b3 = some (.cells #[ptrV x.p] 25 (0, 0)) := by rw [upd_ne (Ne.symm n53), upd_ne (Ne.symm n43), upd_same]
  have f4 : (((h.upd b3 (.cells #[ptrV x.p] 25)).upd b4 (.cells #[.int .i64 k] 3)).upd b5 (.cells v.cells 23)) b4 = some (.cells #[.int .i64 k] 3 (0, 0)) := by rw [upd_ne (Ne.symm n54), upd_same]
  have f5 : (((h.upd b3 (.cells #[ptrV x.p] 25)).upd b4 (.cells #[.int .i64 k] 3)).upd b5 (.cells v.cells 23)) b5 = some (.cells v.cells 23 (0, 0)) := upd_same
  have o3 := A.out_ hb3
  have o4 := A.out_ h43
  generalize ((h.upd b3 (.cells #[ptrV x.p] 25)).upd b4 (.cells #[.int .i64 k] 3)).upd b5 (.cells v.cells 23) = h1 at *
  have A1 := A.le' l1
  obtain ⟨dv, pt, _, _⟩ := A1.pt
  have bad : ∀ g, Le h g → upOk s k v = false → drp Q (.tuple #[.slice none 0 0, .int .i64 1]) g := fun g lg hn => by
    refine .to _ (.refl _) ?_
    have := hQ (.slice none 0 0) g L (by unfold upX; rw [hn, if_neg (by simp)]; exact .none_ A ho lg)
    unfold upErr at this
    rw [hn, if_neg (by simp)] at this; exact this
  have hO : upOk s k v = (decide (1 ≤ k) && decide (k ≤ 32) && (getM s.lk k).isNone && mayV v) := rfl
  by_cases c1 : k < 1
  · rw [decide_eq_false (by omega)] at hO
    simp (disch := omega) [dual_Dual_Up_r1, dual_Dual_Up_r2, f4, c1]
    exact bad _ l1 hO
  by_cases c2 : 32 < k
  · rw [decide_eq_true (by omega), decide_eq_false (by omega)] at hO
    simp (disch := omega) [dual_Dual_Up_r1, dual_Dual_Up_r2, f4, c1, c2]
    exact bad _ l1 hO
  rw [decide_eq_true (by omega), decide_eq_true (by omega)] at hO
  cases hk : getM s.lk k with
  | some f =>
    obtain ⟨bf, hbf, _⟩ := A1.li k f hk
    have lk := A1.lookLk hk hbf
    rw [hk] at hO
    simp (disch := omega) [dual_Dual_Up_r1, dual_Dual_Up_r2, f3, f4, pt, lk, c1, c2]
    exact bad _ l1 hO
  | none =>
  have lk := A1.lookL0 hk
  rw [hk] at hO
  simp (disch := omega) [dual_Dual_Up_r1, f3, f4, f5, pt, lk, c1, c2]
  refine mayVM (v := v) (fun h2 l2 => ?_)
  have l3 := l1.trans l2
  cases c3 : mayV v with
  | false =>
    rw [c3] at hO
    simp (disch := omega) [dual_Dual_Up_r2]
    exact bad _ l3 hO
  | true =>
  rw [c3] at hO
  have hU : upX s k v = upS s k v := by unfold upX; rw [hO]; rfl
  have hE : upErr s k v = 0 := by unfold upErr; rw [hO]; rfl
  rw [hU, hE] at hQ
  clear bad
  have A2 := A1.le' l2
  have f3 := l2 _ _ f3
  have f4 := l2 _ _ f4
  have f5 := l2 _ _ f5
  have pt2 := l2 _ _ pt
  simp (disch := omega) [dual_Dual_Up_r3, f3, f4, f5, pt2]
  intro bl hbl
  have m3 := ne_new f3 hbl
  have m4 := ne_new f4 hbl
  have mp := ne_new pt2 hbl
  have m3' : ¬ bl = b3 := Ne.symm m3
  simp (disch := omega) [m3, m4, mp, f3, f4, pt2]
  have ll : Le h2 (h2.upd bl (.cells (⟨v, 0, 0⟩ : Ln).cells T_link)) := .new hbl
  have fbl : (h2.upd bl (.cells (⟨v, 0, 0⟩ : Ln).cells T_link)) bl = some (.cells (⟨v, 0, 0⟩ : Ln).cells T_link (0, 0)) := upd_same
  show arun _ _ (h2.upd bl (.cells (⟨v, 0, 0⟩ : Ln).cells T_link)) _
  have f3 := ll _ _ f3
  have f4 := ll _ _ f4
  generalize h2.upd bl (.cells (⟨v, 0, 0⟩ : Ln).cells T_link) = h3 at *
  refine putLd (A2.le' ll).ml (fun ob M => ?_)
  have q4 := A2.addLk (l' := ⟨v, 0, 0⟩) hk ll hbl fbl M
  have nx3 : b3 ≠ x.lm := fun q => o3 _ (by rw [q]; exact A.t1)
  have nx4 : b4 ≠ x.lm := fun q => o4 _ (by rw [q]; exact A.t1)
  have f3 : (h3.upd x.lm ob) b3 = some (.cells #[ptrV x.p] 25 (0, 0)) := by rw [upd_ne nx3]; exact f3
  have f4 : (h3.upd x.lm ob) b4 = some (.cells #[.int .i64 k] 3 (0, 0)) := by rw [upd_ne nx4]; exact f4
  have o3' : ∀ r, (L.set (.li k) (some bl)) r ≠ some b3 := fun r e => by
    unfold RM.set at e; split at e
    · cases e; exact m3 rfl
    · exact o3 r e
  have o4' : ∀ r, (L.set (.li k) (some bl)) r ≠ some b4 := fun r e => by
    unfold RM.set at e; split at e
    · cases e; exact m4 rfl
    · exact o4 r e
  generalize h3.upd x.lm ob = h4 at *
  generalize L.set (.li k) (some bl) = L4 at *
  have A4 := q4.at_
  have q4' := q4.le l3
  unfold upS at hQ
  generalize hs1 : ({ s with lk := setM k ⟨v, 0, 0⟩ s.lk } : DS) = s1 at *
  have e1 : s1.out = [] := by rw [← hs1]; exact ho
  have e2 : s1.lk.length ≤ 1001 := by rw [← hs1]; simp only [setM_length, hk]; simp; omega
  have e3 : s1.px = s.px := by rw [← hs1]
  have e4 : (getM s1.lk k).isSome := by rw [← hs1]; simp [getM_setM]
  simp (disch := omega) [dual_Dual_Up_r4, f3]
  refine allM (fun Bd g1 lB hBd nBd => ?_)
  simp (disch := omega)
  refine ⟨F_dual_Dual_all_1, #[], #[.pointer (some ⟨Bd, 0, none⟩)], by simp, fun l fn D hl2 hu => ?_⟩
  simp (disch := omega)
  have oBd := A4.out_ nBd
  have A5 := A4.le' lB
  have ol := A5.out_ hl2
  have f3 := lB _ _ f3
  have f4 := lB _ _ f4
  have n3 := ne_new f3 hl2
  have n4 := ne_new f4 hl2
  have nB := ne_new hBd hl2
  have key2 : ∀ (env : Env), env 3 = .pointer (some ⟨b3, 0, none⟩) → env 4 = .pointer (some ⟨b4, 0, none⟩) → (∀ t, 59 ≤ t → env t = undef) →
      Ok Try.prog F_dual_Dual_all_1 #[.func (.yield l) #[] #[], .pointer (some ⟨Bd, 0, none⟩)] (g1.upd l (recOf 59 env #[39] dual_Dual_Up_F0_a dual_Dual_Up_F0_b .ready none fn D)) (fun _ h2 =>
        StI (g1.upd l (recOf 59 env #[39] dual_Dual_Up_F0_a dual_Dual_Up_F0_b .ready none fn D)) L4 x ((pfx s1.px).foldl (upOne k) s1) l (recOf 59 env #[39] dual_Dual_Up_F0_a dual_Dual_Up_F0_b .ready none fn D) h2) := by
    intro env e3' e4' hu
    refine roundsM (A5.putL ol _) (by rw [e3]; omega) (by rw [upd_ne nB]; exact hBd) oBd upd_same upOne_ok (fun V p rest g b y K hsp B hy hb hK => ?_)
    have hV : V.length ≤ 100 := by
      have := pfx_length (m := s1.px)
      rw [hsp, e3, List.length_append] at this; omega
    have hout := upOne_ok.outs (upOne_out (k := k)) (V := V) (s := s1)
    have hmul : V.length * (s1.lk.length + 1) ≤ 100 * 1002 := Nat.mul_le_mul hV (by omega)
    exact upStep e3' e4' hu (by rw [upd_ne n3]; exact f3) (by rw [upd_ne n4]; exact f4) o3' o4' ol n3 n4 hb hy (by rw [upOne_ok.lks]; exact e4) (by rw [e1] at hout; simp at hout; omega) upd_same B hK
  refine (key2 _ ?_ ?_ ?_).mono ?_
  · simp
  · simp
  · intro t ht; exact hu t ht
  · rintro _ h5 ⟨⟨L5, q5, st⟩, fl⟩
    refine .inl ⟨fl, ?_⟩
    have q6 : DQ g1 L4 x ((pfx s1.px).foldl (upOne k) s1) (h5.rem l) L5 := DQ.rem (q5.le (.new hl2)) hl2 (q5.fr.old upd_same ol)
    have f36 := q6.fr.keep _ _ f3 o3'
    have q7 := q4'.trans (q6.le lB)
    rw [← e3] at hQ
    clear q5 fl
    generalize h5.rem l = h6 at *
    simp (disch := omega) [dual_Dual_Up_r8, f36]
    refine dtakeM q7.at_ (fun w h7 L7 T => ?_)
    simp (disch := omega)
    exact .to _ (.refl _) (hQ w h7 L7 (T.pre q7.fr))
end
end Go.Proofs.Ytpeoholnlokdcaa

/- DUAL in memory: Down, Again. -/
namespace Go.Proofs.Ytpeoholnlokdcaa
open Go
set_option linter.unusedSimpArgs false
set_option linter.unusedVariables false
set_option maxRecDepth 20000

def downX (s : DS) (k : Int) : DS := if (getM s.lk k).isSome then downS s k else s
def againOne (s : DS) (p : PK) : DS := match getM s.px p with
  | some y => (srtI (y.opn.map (·.1))).foldl (askS p y.told 2) s
  | none => s
def againS (s : DS) : DS := (pfx s.px).foldl againOne s
/-- Queries are open to neighbours that are there alone. -/
def OpnIn (s : DS) : Prop := ∀ p y, getM s.px p = some y → ∀ k, (getM y.opn k).isSome → (getM s.lk k).isSome

theorem againOne_ok : OneOk againOne := by
  refine ⟨fun s p j => ?_, fun s p q => ?_, fun s p => ?_⟩ <;> unfold againOne <;> split
  · exact asks_lk j
  · rfl
  · exact asks_px q
  · rfl
  · exact asks_len.1
  · rfl

section
variable {h : Hp} {L : RM} {x : DPt} {s : DS} {Q : Value → Hp → Prop}

set_option maxHeartbeats 2000000 in
theorem downStep {env : Env} {fn D l b2 b3 b : Nat} {h0 : Hp} {p : PK} {k : Int} {sV : DS} {y : Kn} (e2 : env 2 = .pointer (some ⟨b2, 0, none⟩)) (e3 : env 3 = .pointer (some ⟨b3, 0, none⟩)) (hu : ∀ t, 34 ≤ t → env t = undef)
    (f2 : h0 b2 = some (.cells #[ptrV x.p] 25 (0, 0))) (f3 : h0 b3 = some (.cells #[.int .i64 k] 3 (0, 0))) (o2 : ∀ r, L r ≠ some b2) (o3 : ∀ r, L r ≠ some b3) (ol : ∀ r, L r ≠ some l) (n2 : b2 ≠ l) (n3 : b3 ≠ l)
    (hb : L (.kn p) = some b) (hy : getM sV.px p = some y) (ho : sV.out.length + sV.lk.length ≤ 1000000) (f0 : h0 l = some (recOf 34 env #[20] dual_Dual_Down_F0_a dual_Dual_Down_F0_b .ready none fn D)) {g : Hp} {K : Value → Hp → Prop}
    (B : StI h0 L x sV l (recOf 34 env #[20] dual_Dual_Down_F0_a dual_Dual_Down_F0_b .ready none fn D) g)
    (hK : ∀ g', StI h0 L x (downOne k sV p) l (recOf 34 env #[20] dual_Dual_Down_F0_a dual_Dual_Down_F0_b .ready none fn D) g' → K (.bool true) g') : YOk Try.prog l #[ptrV b] g K := by
  obtain ⟨⟨L1, ⟨A1, F1⟩, st⟩, fl⟩ := B
  refine dual_Dual_Down_F0_yok fl hu ?_
  generalize hR : recOf 34 env #[20] dual_Dual_Down_F0_a dual_Dual_Down_F0_b .ready none fn D = oR at *
  generalize hB2 : recOf 34 env #[20] dual_Dual_Down_F0_a dual_Dual_Down_F0_b .busy none fn D = oB
  unfold rnd
  unfold dual_Dual_Down_F0_A
  simp (disch := omega) [dual_Dual_Down_r5]
  refine ⟨fl, ?_⟩
  have ol1 := F1.old f0 ol
  have p2 := F1.old f2 o2
  have p3 := F1.old f3 o3
  have A2 := A1.putL ol1 oB
  have g2 : (g.upd l oB) b2 = some (.cells #[ptrV x.p] 25 (0, 0)) := by rw [upd_ne n2]; exact F1.keep _ _ f2 o2
  have g3 : (g.upd l oB) b3 = some (.cells #[.int .i64 k] 3 (0, 0)) := by rw [upd_ne n3]; exact F1.keep _ _ f3 o3
  have bk : ∀ (s' : DS) (g' : Hp) (L' : RM), DQ (g.upd l oB) L1 x s' g' L' → DQ h0 L x s' (g'.upd l oR) L' ∧ g' l = some oB := fun s' g' L' q => back f0 ol F1 q
  generalize g.upd l oB = g1 at *
  have hb1 : L1 (.kn p) = some b := (st _ (by simp)).trans hb
  obtain ⟨r, oo, ov, Kn⟩ := A2.known hy hb1
  have pt := Kn.pt
  have hU : downOne k sV p = settleS (setK sV p (closeK { y with rep := delM k y.rep } k)) p := by unfold downOne; rw [hy]
  unfold dual_Dual_Down_F0_B
  simp (disch := omega) [dual_Dual_Down_r6, e3, g3, pt]
  refine delRd Kn.mr (fun ob M => ?_)
  obtain ⟨q3, K3⟩ := A2.setRep hy Kn M Kn.ur.del
  have g22 := q3.fr.keep _ _ g2 p2
  have g32 := q3.fr.keep _ _ g3 p3
  generalize g1.upd r ob = g4 at *
  simp (disch := omega) [dual_Dual_Down_r7, e3, g32]
  refine dcloseM (k := k) q3.at_ setK_get hb1 (fun g5 q5 => ?_)
  rw [setK_setK] at q5
  have g25 := q5.fr.keep _ _ g22 p2
  simp (disch := omega) [dual_Dual_Down_r8, e2, g25]
  refine dsettleM q5.at_ setK_get hb1 ho (fun g6 L6 q6 st6 => ?_)
  simp (disch := omega)
  obtain ⟨q8, f8'⟩ := bk _ _ _ ((q3.trans q5).trans q6)
  unfold rndK
  simp only [hR, hB2]
  exact ⟨f8', hK _ ⟨⟨L6, by rw [hU]; exact q8, fun r n => (st6 r n).trans (st r n)⟩, upd_same⟩⟩

set_option maxHeartbeats 4000000 in
theorem ddownM {k : Int} (A : DualAt h L x s) (ho : s.out = []) (hl : s.lk.length ≤ 1000) (hpl : s.px.length ≤ 100)
    (hQ : ∀ w h' L', TQ h L x (outS (downX s k)) (downX s k).out w h' L' → Q w h') :
    Ok Try.prog F_dual_Dual_Down #[ptrV x.p, .int .i64 k] h Q := by
  refine dual_Dual_Down_ok (by simp) ?_
  unfold dual_Dual_Down_D
  simp (disch := omega) [dual_Dual_Down_r0]
  intro b2 hb2 b3 hb3
  obtain ⟨n32, h32⟩ := upd_none hb3
  have l1 : Le h ((h.upd b2 (.cells #[ptrV x.p] 25)).upd b3 (.cells #[.int .i64 k] 3)) := (Le.new hb2).trans (Le.new hb3)
  show dual_Dual_Down_r1 _ ((h.upd b2 (.cells #[ptrV x.p] 25)).upd b3 (.cells #[.int .i64 k] 3)) _
  have f2 : ((h.upd b2 (.cells #[ptrV x.p] 25)).upd b3 (.cells #[.int .i64 k] 3)) b2 = some (.cells #[ptrV x.p] 25 (0, 0)) := by rw [upd_ne (Ne.symm n32), upd_same]
  have f3 : ((h.upd b2 (.cells #[ptrV x.p] 25)).upd b3 (.cells #[.int .i64 k] 3)) b3 = some (.cells #[.int .i64 k] 3 (0, 0)) := upd_same
  have o2 := A.out_ hb2
  have o3 := A.out_ h32
  generalize (h.upd b2 (.cells #[ptrV x.p] 25)).upd b3 (.cells #[.int .i64 k] 3) = h1 at *
  have A1 := A.le' l1
  obtain ⟨dv, pt, _, _⟩ := A1.pt
  cases hk : getM s.lk k with
  | none =>
    have lk := A1.lookL0 hk
    simp (disch := omega) [dual_Dual_Down_r1, dual_Dual_Down_r2, f2, f3, pt, lk]
    refine .to _ (.refl _) (hQ _ _ L (by unfold downX; rw [hk, if_neg (by simp)]; exact .none_ A ho l1))
  | some ln =>
  have hD : downX s k = downS s k := by unfold downX; rw [hk]; rfl
  rw [hD] at hQ
  obtain ⟨bl, hbl, _⟩ := A1.li k ln hk
  have lk := A1.lookLk hk hbl
  simp (disch := omega) [dual_Dual_Down_r1, f2, f3, pt, lk]
  simp (disch := omega) [dual_Dual_Down_r3, f2, f3, pt]
  refine delLd A1.ml (fun ob M => ?_)
  have q4 := A1.delLk M
  have f2 := q4.fr.keep _ _ f2 o2
  have f3 := q4.fr.keep _ _ f3 o3
  generalize h1.upd x.lm ob = h4 at *
  have A4 := q4.at_
  have q4' := q4.le l1
  unfold downS at hQ
  generalize hs1 : ({ s with lk := delM k s.lk } : DS) = s1 at *
  have e1 : s1.out = [] := by rw [← hs1]; exact ho
  have e2 : s1.lk.length ≤ 1000 := by rw [← hs1]; simp only [delM_length, hk]; simp; omega
  have e3 : s1.px = s.px := by rw [← hs1]
  simp (disch := omega) [dual_Dual_Down_r4, f2]
  refine allM (fun Bd g1 lB hBd nBd => ?_)
  simp (disch := omega)
  refine ⟨F_dual_Dual_all_1, #[], #[.pointer (some ⟨Bd, 0, none⟩)], by simp, fun l fn D hl2 hu => ?_⟩
  simp (disch := omega)
  have oBd := A4.out_ nBd
  have A5 := A4.le' lB
  have ol := A5.out_ hl2
  have f2 := lB _ _ f2
  have f3 := lB _ _ f3
  have n2 := ne_new f2 hl2
  have n3 := ne_new f3 hl2
  have nB := ne_new hBd hl2
  have key2 : ∀ (env : Env), env 2 = .pointer (some ⟨b2, 0, none⟩) → env 3 = .pointer (some ⟨b3, 0, none⟩) → (∀ t, 34 ≤ t → env t = undef) →
      Ok Try.prog F_dual_Dual_all_1 #[.func (.yield l) #[] #[], .pointer (some ⟨Bd, 0, none⟩)] (g1.upd l (recOf 34 env #[20] dual_Dual_Down_F0_a dual_Dual_Down_F0_b .ready none fn D)) (fun _ h2 =>
        StI (g1.upd l (recOf 34 env #[20] dual_Dual_Down_F0_a dual_Dual_Down_F0_b .ready none fn D)) L x ((pfx s1.px).foldl (downOne k) s1) l (recOf 34 env #[20] dual_Dual_Down_F0_a dual_Dual_Down_F0_b .ready none fn D) h2) := by
    intro env e2' e3' hu
    refine roundsM (A5.putL ol _) (by rw [e3]; omega) (by rw [upd_ne nB]; exact hBd) oBd upd_same downOne_ok (fun V p rest g b y K hsp B hy hb hK => ?_)
    have hV : V.length ≤ 100 := by
      have := pfx_length (m := s1.px)
      rw [hsp, e3, List.length_append] at this; omega
    have hout := downOne_ok.outs (downOne_out (k := k)) (V := V) (s := s1)
    have hlen := downOne_ok.lens (V := V) (s := s1) (one := downOne k)
    have hmul : V.length * (s1.lk.length + 1) ≤ 100 * 1001 := Nat.mul_le_mul hV (by omega)
    exact downStep e2' e3' hu (by rw [upd_ne n2]; exact f2) (by rw [upd_ne n3]; exact f3) o2 o3 ol n2 n3 hb hy (by rw [e1] at hout; simp at hout; rw [hlen]; omega) upd_same B hK
  refine (key2 _ ?_ ?_ ?_).mono ?_
  · simp
  · simp
  · intro t ht; exact hu t ht
  · rintro _ h5 ⟨⟨L5, q5, st⟩, fl⟩
    refine .inl ⟨fl, ?_⟩
    have q6 : DQ g1 L x ((pfx s1.px).foldl (downOne k) s1) (h5.rem l) L5 := DQ.rem (q5.le (.new hl2)) hl2 (q5.fr.old upd_same ol)
    have f26 := q6.fr.keep _ _ f2 o2
    have q7 := q4'.trans (q6.le lB)
    rw [← e3] at hQ
    clear q5 fl
    generalize h5.rem l = h6 at *
    simp (disch := omega) [dual_Dual_Down_r9, f26]
    refine dtakeM q7.at_ (fun w h7 L7 T => ?_)
    simp (disch := omega)
    exact .to _ (.refl _) (hQ w h7 L7 (T.pre q7.fr))

theorem asks_told {p : PK} {w : Wy} {code : Int} : ∀ {V : List Int} {s : DS} {y : Kn}, getM s.px p = some y → ∃ y', getM (V.foldl (askS p w code) s).px p = some y' ∧ y'.told = y.told
  | [], _, y, h => ⟨y, h, rfl⟩
  | k :: V, s, y, h => by
    rw [List.foldl_cons]
    have : ∃ y1, getM (askS p w code s k).px p = some y1 ∧ y1.told = y.told := by
      rw [askS_some h]
      split
      · exact ⟨_, setK_get, rfl⟩
      · exact ⟨y, by rw [sendS_px]; exact h, rfl⟩
    obtain ⟨y1, h1, h2⟩ := this
    obtain ⟨y2, h3, h4⟩ := asks_told (V := V) h1
    exact ⟨y2, h3, h4.trans h2⟩

def AgInv (h0 : Hp) (L : RM) (x : DPt) (p : PK) (w : Wy) (s : DS) (b1 b : Nat) (ks : List Int) (kv : Value) (G0 : Hp) (n : Nat) (env : Env) (g : Hp) : Prop :=
  ∃ (i : Nat) (L' : RM), i + n = ks.length ∧ DQ G0 L x ((ks.take i).foldl (askS p w 2) s) g L' ∧ (∀ r, r ≠ .ou → L' r = L r) ∧
    env 1 = .pointer (some ⟨b1, 0, none⟩) ∧ env 3 = ptrV b ∧ env 14 = kv ∧ env 15 = .int .i64 (ks.length : Nat) ∧ env 16 = .int .i64 (i : Nat)

set_option maxHeartbeats 4000000 in
theorem againStep {env : Env} {fn D l b1 b : Nat} {h0 : Hp} {p : PK} {sV : DS} {y : Kn} (e1 : env 1 = .pointer (some ⟨b1, 0, none⟩)) (hu : ∀ t, 39 ≤ t → env t = undef)
    (f1 : h0 b1 = some (.cells #[ptrV x.p] 25 (0, 0))) (o1 : ∀ r, L r ≠ some b1) (ol : ∀ r, L r ≠ some l) (n1 : b1 ≠ l)
    (hb : L (.kn p) = some b) (hy : getM sV.px p = some y) (hin : ∀ k, (getM y.opn k).isSome → (getM sV.lk k).isSome) (ho : sV.out.length + y.opn.length ≤ 1000000) (f0 : h0 l = some (recOf 39 env #[8] dual_Dual_Again_F0_a dual_Dual_Again_F0_b .ready none fn D)) {g : Hp} {K : Value → Hp → Prop}
    (B : StI h0 L x sV l (recOf 39 env #[8] dual_Dual_Again_F0_a dual_Dual_Again_F0_b .ready none fn D) g)
    (hK : ∀ g', StI h0 L x (againOne sV p) l (recOf 39 env #[8] dual_Dual_Again_F0_a dual_Dual_Again_F0_b .ready none fn D) g' → K (.bool true) g') : YOk Try.prog l #[ptrV b] g K := by
  obtain ⟨⟨L1, ⟨A1, F1⟩, st⟩, fl⟩ := B
  refine dual_Dual_Again_F0_yok fl hu ?_
  generalize hR : recOf 39 env #[8] dual_Dual_Again_F0_a dual_Dual_Again_F0_b .ready none fn D = oR at *
  generalize hB2 : recOf 39 env #[8] dual_Dual_Again_F0_a dual_Dual_Again_F0_b .busy none fn D = oB
  unfold rnd
  unfold dual_Dual_Again_F0_A
  simp (disch := omega) [dual_Dual_Again_r2]
  refine ⟨fl, ?_⟩
  have ol1 := F1.old f0 ol
  have p1 := F1.old f1 o1
  have A2 := A1.putL ol1 oB
  have g2 : (g.upd l oB) b1 = some (.cells #[ptrV x.p] 25 (0, 0)) := by rw [upd_ne n1]; exact F1.keep _ _ f1 o1
  have bk : ∀ (s' : DS) (g' : Hp) (L' : RM), DQ (g.upd l oB) L1 x s' g' L' → DQ h0 L x s' (g'.upd l oR) L' ∧ g' l = some oB := fun s' g' L' q => back f0 ol F1 q
  generalize g.upd l oB = g1 at *
  have hb1 : L1 (.kn p) = some b := (st _ (by simp)).trans hb
  obtain ⟨r, oo, ov, Kn⟩ := A2.known hy hb1
  have pt := Kn.pt
  have hU : againOne sV p = (srtI (y.opn.map (·.1))).foldl (askS p y.told 2) sV := by unfold againOne; rw [hy]
  unfold dual_Dual_Again_F0_B
  simp (disch := omega) [dual_Dual_Again_r3, pt]
  refine keysNM (fun Bm g3 l3 hBm nBm => ?_)
  simp (disch := omega)
  refine sortedN hBm (Kn.mo.le l3) Kn.uo (by omega) (fun kv g4 l4 S nv => ?_)
  have hks : ∀ k, k ∈ srtI (y.opn.map (·.1)) → (getM y.opn k).isSome := fun k hk => by
    rw [srtI_mem] at hk
    cases hg : getM y.opn k with
    | none => exact absurd hk (getM_none.1 hg)
    | some v => rfl
  have hksl : (srtI (y.opn.map (·.1))).length = y.opn.length := by rw [srtI_length, List.length_map]
  generalize srtI (y.opn.map (·.1)) = ks at *
  obtain ⟨sp, cap, hv⟩ := S.shape'
  subst hv
  simp (disch := omega)
  have l5 := l3.trans l4
  have A4 := A2.le' l5
  have g24 := l5 _ _ g2
  have nkv : ∀ c, blkOf (.slice sp ks.length cap) = some c → ∀ r, L1 r ≠ some c := fun c e r q => by
    obtain ⟨ob, hob⟩ := A2.al r c q
    have := nv c e
    rw [l3 _ _ hob] at this; cases this
  refine ⟨AgInv h0 L1 x p y.told sV b1 b ks (.slice sp ks.length cap) g4, ⟨ks.length, 0, L1, by omega, by rw [List.take_zero]; exact .same A4 (.refl _), fun _ _ => rfl, by simp [e1], by simp, by simp, by simp, by simp⟩, ?_⟩
  rintro n env2 g5 ⟨i, L5, hin2, q5, st5, e1', e3', e14, e15, e16⟩
  unfold dual_Dual_Again_L0
  by_cases hm : n = 0
  · have : i = ks.length := by omega
    subst this
    rw [List.take_of_length_le (Nat.le_refl _)] at q5
    simp (disch := omega) [dual_Dual_Again_r4, e15, e16]
    obtain ⟨q8, f8'⟩ := bk _ _ _ (q5.le l5)
    unfold rndK
    simp only [hR, hB2]
    exact ⟨f8', hK _ ⟨⟨L5, by rw [hU]; exact q8, fun r n => (st5 r n).trans (st r n)⟩, upd_same⟩⟩
  · obtain ⟨k, hk⟩ : ∃ k, ks[i]? = some k := ⟨_, List.getElem?_eq_getElem (by omega)⟩
    have hi' : i < ks.length := by omega
    have S5 : SlAt g5 3 1 kencL (.slice sp ks.length cap) ks := S.keep fun c o e e2 => q5.fr.keep c o e2 (nkv c e)
    obtain ⟨bb, cap', c, hv', hbb, c0⟩ := kl_at S5 hk
    simp only [Value.slice.injEq, true_and] at hv'
    obtain ⟨rfl, rfl⟩ := hv'
    obtain ⟨yV, hyV, htV⟩ := asks_told (w := y.told) (code := 2) (V := ks.take i) hy
    have hb5 : L5 (.kn p) = some b := (st5 _ (by simp)).trans hb1
    obtain ⟨r5, oo5, ov5, K5⟩ := q5.at_.known hyV hb5
    have pt5 := K5.pt
    have g25 := q5.fr.keep _ _ g24 p1
    obtain ⟨ln, hln⟩ := Option.isSome_iff_exists.1 ((asks_lk (p := p) (w := y.told) (code := 2) (V := ks.take i) (s := sV) k).trans (hin k (hks k (List.mem_of_getElem? hk))))
    have hout := asks_out (p := p) (w := y.told) (code := 2) (V := ks.take i) (s := sV)
    have htl : (ks.take i).length ≤ ks.length := by rw [List.length_take]; omega
    have hsn : (ks.take (i + 1)).foldl (askS p y.told 2) sV = setK (sendS ((ks.take i).foldl (askS p y.told 2) sV) k 2 0 p y.told) p { yV with opn := setM k (seqS ((ks.take i).foldl (askS p y.told 2) sV).lk k) yV.opn } := by
      rw [take_snoc hk, List.foldl_append, List.foldl_cons, List.foldl_nil, askS_some hyV, if_pos rfl]
    generalize (ks.take i).foldl (askS p y.told 2) sV = sI at *
    simp (disch := omega) [dual_Dual_Again_r4, e15, e16, hi']
    simp (disch := omega) [dual_Dual_Again_r5, e14, e16, hi', hbb, c0]
    simp (disch := omega) [dual_Dual_Again_r6, e1', e3', pt5, g25]
    refine dsendM (p := p) (ack := 0) (w := yV.told) q5.at_ hln (by omega) (fun g6 L6 q6 st6 => ?_)
    have hb6 : L6 (.kn p) = some b := (st6 _ (by simp)).trans hb5
    have hy6 : getM (sendS sI k 2 0 p yV.told).px p = some yV := by rw [sendS_px]; exact hyV
    obtain ⟨r6, oo6, ov6, K6⟩ := q6.at_.known hy6 hb6
    have pt6 := K6.pt
    have eo : oo6 = oo5 := by have h1 := K6.ko; rw [st6 _ (by simp), K5.ko] at h1; cases h1; rfl
    subst eo
    simp (disch := omega) [pt6]
    refine putNd K6.mo (fun ob M => ?_)
    obtain ⟨q7, K7⟩ := q6.at_.setOpn hy6 K6 M K6.uo.set
    simp (disch := omega) [dual_Dual_Again_r7, e16, wrap_i64]
    refine ⟨n - 1, by omega, i + 1, L6, by omega, ?_, fun r n => (st6 r n).trans (st5 r n), by simp [e1'], by simp [e3'], by simp [e14], by simp [e15], by simp⟩
    rw [hsn]
    unfold seqS
    rw [hln, ← htV]
    exact (q5.trans q6).trans q7
end
end Go.Proofs.Ytpeoholnlokdcaa

/- DUAL: queries are open to neighbours that are there alone; Again in memory. -/
namespace Go.Proofs.Ytpeoholnlokdcaa
open Go
set_option linter.unusedSimpArgs false
set_option linter.unusedVariables false
set_option maxRecDepth 20000

theorem getM_isIn {α β : Type} [DecidableEq α] {m : List (α × β)} {a : α} : (getM m a).isSome ↔ a ∈ m.map (·.1) := by
  rw [← Decidable.not_iff_not, ← getM_none]
  cases getM m a <;> simp
theorem delM_isSome {α β : Type} [DecidableEq α] {m : List (α × β)} {a b : α} (h : (getM (delM a m) b).isSome) : (getM m b).isSome := by
  rw [getM_isIn] at *
  exact (delM_sub.map _).subset h
theorem setM_isSome {α β : Type} [DecidableEq α] {m : List (α × β)} {a b : α} {v : β} (h : (getM (setM a v m) b).isSome) : b = a ∨ (getM m b).isSome := by
  rw [getM_setM] at h
  split at h
  · exact .inl (by assumption)
  · exact .inr h

theorem againOne_some {s : DS} {p : PK} {y : Kn} (hy : getM s.px p = some y) : againOne s p = (srtI (y.opn.map (·.1))).foldl (askS p y.told 2) s := by unfold againOne; rw [hy]
theorem opn_send {s : DS} {k code : Int} {ack : Nat} {p : PK} {w : Wy} (o : OpnIn s) : OpnIn (sendS s k code ack p w) := by
  intro q y hy j hj
  rw [sendS_px] at hy
  rw [sendS_lk]
  exact o q y hy j hj
theorem opn_setK {s : DS} {p : PK} {y : Kn} (o : OpnIn s) (h : ∀ k, (getM y.opn k).isSome → (getM s.lk k).isSome) : OpnIn (setK s p y) := by
  intro q z hz j hj
  unfold setK at hz
  simp only [getM_setM] at hz
  split at hz
  · cases hz; exact h j hj
  · exact o q z hz j hj
theorem opn_ask {s : DS} {p : PK} {w : Wy} {code k : Int} (o : OpnIn s) (hk : (getM s.lk k).isSome) : OpnIn (askS p w code s k) := by
  unfold askS
  split
  · split
    · rename_i y hy
      refine opn_setK (opn_send o) fun j hj => ?_
      rw [sendS_lk]
      rcases setM_isSome hj with rfl | hj
      · exact hk
      · exact o p y hy j hj
    · exact o
  · exact opn_send o
theorem opn_asks {p : PK} {w : Wy} {code : Int} : ∀ {V : List Int} {s : DS}, OpnIn s → (∀ k ∈ V, (getM s.lk k).isSome) → OpnIn (V.foldl (askS p w code) s)
  | [], _, o, _ => o
  | k :: V, s, o, h => by
    rw [List.foldl_cons]
    exact opn_asks (opn_ask o (h k (by simp))) (fun j hj => by rw [askS_lk]; exact h j (by simp [hj]))
theorem opn_least {s : DS} {p : PK} {code now : Int} (o : OpnIn s) : OpnIn (leastS s p code now) := by
  unfold leastS
  split
  · rename_i y hy
    split
    · exact opn_setK o (fun k hk => o p y hy k hk)
    · split
      · exact opn_setK o (fun k hk => o p y hy k hk)
      · exact o
  · exact o
theorem opn_settle {s : DS} {p : PK} (o : OpnIn s) : OpnIn (settleS s p) := by
  unfold settleS
  split
  · rename_i y hy
    split
    · exact o
    · exact opn_least (opn_asks (opn_setK o (fun k hk => o p y hy k hk)) (fun k hk => nbrs_get.1 hk))
  · exact o
theorem closeK_opn {y : Kn} {k j : Int} (h : (getM (closeK y k).opn j).isSome) : (getM y.opn j).isSome := by
  unfold closeK at h
  split at h
  · exact delM_isSome h
  · exact h
theorem closeK_opn_ne {y : Kn} {k j : Int} (u : Uniq y.opn) (h : (getM (closeK y k).opn j).isSome) : j ≠ k := by
  rintro rfl
  unfold closeK at h
  split at h
  · simp only [getM_delM u] at h; simp at h
  · rename_i q; rw [q] at h; simp at h

theorem len_of_sub {β γ : Type} {m : List (Int × β)} {m' : List (Int × γ)} (u : Uniq m) (h : ∀ k, (getM m k).isSome → (getM m' k).isSome) : m.length ≤ m'.length := by
  have := List.Nodup.length_le_of_subset (l₁ := m.map (·.1)) (l₂ := m'.map (·.1)) (by unfold Uniq at u; exact u) (fun k hk => getM_isIn.1 (h k (getM_isIn.2 hk)))
  simpa using this

section
variable {h : Hp} {L : RM} {x : DPt} {s : DS} {Q : Value → Hp → Prop}
theorem roundsP {h0 : Hp} {l Bd : Nat} {oR : Obj} {E : TypeId} {fr : Nat × Nat} (A : DualAt h0 L x s) (hl : s.px.length ≤ 1000000) (hB : h0 Bd = some (.cells #[ptrV x.p] E fr)) (oB : ∀ r, L r ≠ some Bd) (f0 : h0 l = some oR) {one : DS → PK → DS} (o : OneOk one)
    (P : List PK → DS → Prop) (P0 : P [] s)
    (step : ∀ V p rest g b y K, pfx s.px = V ++ p :: rest → StI h0 L x (V.foldl one s) l oR g → P V (V.foldl one s) → getM (V.foldl one s).px p = some y → L (.kn p) = some b → (∀ g', StI h0 L x (one (V.foldl one s) p) l oR g' → P (V ++ [p]) (one (V.foldl one s) p) → K (.bool true) g') → YOk Try.prog l #[ptrV b] g K) :
    Ok Try.prog F_dual_Dual_all_1 #[.func (.yield l) #[] #[], .pointer (some ⟨Bd, 0, none⟩)] h0 (fun _ h2 => StI h0 L x ((pfx s.px).foldl one s) l oR h2) := by
  refine all1M hB A hl (fun V g => StI h0 L x (V.foldl one s) l oR g ∧ P V (V.foldl one s)) ⟨⟨⟨L, .same A (.refl _), fun _ _ => rfl⟩, f0⟩, P0⟩ (fun V g B => ?_) (fun V p rest g b K hsp B hb hK => ?_) (fun v g B => B.1)
  · obtain ⟨⟨⟨L', q, st⟩, fl⟩, _⟩ := B
    exact ⟨(q.fr.keep _ _ hB oB).trans hB.symm, L', _, q.at_, o.lks, fun k b e => (st _ (by simp)).trans e, o.pxs, fun k b e => (st _ (by simp)).trans e⟩
  · have hkm : (getM s.px p).isSome := pfx_get.1 (by rw [hsp]; simp)
    obtain ⟨y, hy⟩ := Option.isSome_iff_exists.1 ((o.pxs (V := V) p).trans hkm)
    refine step V p rest g b y K hsp B.1 B.2 hy hb (fun g' B' P' => hK g' ?_)
    rw [List.foldl_append]
    exact ⟨B', P'⟩

set_option maxHeartbeats 4000000 in
theorem dagainM (A : DualAt h L x s) (ho : s.out = []) (hl : s.lk.length ≤ 1000) (hpl : s.px.length ≤ 100) (oi : OpnIn s)
    (hQ : ∀ w h' L', TQ h L x (outS (againS s)) (againS s).out w h' L' → Q w h') :
    Ok Try.prog F_dual_Dual_Again #[ptrV x.p] h Q := by
  refine dual_Dual_Again_ok (by simp) ?_
  unfold dual_Dual_Again_D
  simp (disch := omega) [dual_Dual_Again_r0]
  intro b1 hb1
  have l1 : Le h (h.upd b1 (.cells #[ptrV x.p] 25)) := .new hb1
  have f1 : (h.upd b1 (.cells #[ptrV x.p] 25)) b1 = some (.cells #[ptrV x.p] 25 (0, 0)) := upd_same
  have o1 := A.out_ hb1
  show sq (rg dual_Dual_Again_r1) _ _ _ (h.upd b1 (.cells #[ptrV x.p] 25))
  generalize h.upd b1 (.cells #[ptrV x.p] 25) = h1 at *
  have A1 := A.le' l1
  simp (disch := omega) [dual_Dual_Again_r1, f1]
  refine allM (fun Bd g1 lB hBd nBd => ?_)
  simp (disch := omega)
  refine ⟨F_dual_Dual_all_1, #[], #[.pointer (some ⟨Bd, 0, none⟩)], by simp, fun l fn D hl2 hu => ?_⟩
  simp (disch := omega)
  have oBd := A1.out_ nBd
  have A5 := A1.le' lB
  have ol := A5.out_ hl2
  have f1 := lB _ _ f1
  have n1 := ne_new f1 hl2
  have nB := ne_new hBd hl2
  have key2 : ∀ (env : Env), env 1 = .pointer (some ⟨b1, 0, none⟩) → (∀ t, 39 ≤ t → env t = undef) →
      Ok Try.prog F_dual_Dual_all_1 #[.func (.yield l) #[] #[], .pointer (some ⟨Bd, 0, none⟩)] (g1.upd l (recOf 39 env #[8] dual_Dual_Again_F0_a dual_Dual_Again_F0_b .ready none fn D)) (fun _ h2 =>
        StI (g1.upd l (recOf 39 env #[8] dual_Dual_Again_F0_a dual_Dual_Again_F0_b .ready none fn D)) L x ((pfx s.px).foldl againOne s) l (recOf 39 env #[8] dual_Dual_Again_F0_a dual_Dual_Again_F0_b .ready none fn D) h2) := by
    intro env e1' hu
    refine roundsP (A5.putL ol _) (by omega) (by rw [upd_ne nB]; exact hBd) oBd upd_same againOne_ok (fun V sV => OpnIn sV ∧ sV.out.length ≤ V.length * s.lk.length) ⟨oi, by rw [ho]; simp⟩ (fun V p rest g b y K hsp B P hy hb hK => ?_)
    have hV : V.length ≤ 100 := by
      have := pfx_length (m := s.px)
      rw [hsp, List.length_append] at this; omega
    have hlen := againOne_ok.lens (V := V) (s := s)
    have hmul : V.length * s.lk.length ≤ 100 * 1000 := Nat.mul_le_mul hV (by omega)
    obtain ⟨⟨L1, q1, st1⟩, _⟩ := id B
    obtain ⟨b', r', o', ov', Kn⟩ := q1.at_.kn p y hy
    have hin := P.1 p y hy
    have hol : y.opn.length ≤ s.lk.length := by rw [← hlen]; exact len_of_sub Kn.uo hin
    have hS : againOne (V.foldl againOne s) p = (srtI (y.opn.map (·.1))).foldl (askS p y.told 2) (V.foldl againOne s) := againOne_some hy
    refine againStep e1' hu (by rw [upd_ne n1]; exact f1) o1 ol n1 hb hy hin (by omega) upd_same B (fun g' B' => hK g' B' ⟨?_, ?_⟩)
    · rw [hS]
      exact opn_asks P.1 (fun k hk => hin k (getM_isIn.2 (srtI_mem.1 hk)))
    · rw [hS]
      have := asks_out (p := p) (w := y.told) (code := 2) (V := srtI (y.opn.map (·.1))) (s := V.foldl againOne s)
      rw [srtI_length, List.length_map] at this
      rw [List.length_append, List.length_singleton, Nat.add_mul]
      omega
  refine (key2 _ ?_ ?_).mono ?_
  · simp
  · intro t ht; exact hu t ht
  · rintro _ h5 ⟨⟨L5, q5, st⟩, fl⟩
    refine .inl ⟨fl, ?_⟩
    have q6 : DQ g1 L x ((pfx s.px).foldl againOne s) (h5.rem l) L5 := DQ.rem (q5.le (.new hl2)) hl2 (q5.fr.old upd_same ol)
    have f16 := q6.fr.keep _ _ f1 o1
    have q7 := (q6.le lB).le l1
    clear q5 fl
    generalize h5.rem l = h6 at *
    simp (disch := omega) [dual_Dual_Again_r8, f16]
    refine dtakeM q7.at_ (fun w h7 L7 T => ?_)
    simp (disch := omega)
    exact .to _ (.refl _) (hQ w h7 L7 (T.pre q7.fr))
end
end Go.Proofs.Ytpeoholnlokdcaa

/- Rt: a flat struct (printed by wip/lib/struct.py). -/
namespace Go.Proofs.Ytpeoholnlokdcaa
open Go
set_option linter.unusedSimpArgs false
set_option linter.unusedVariables false

structure Rt where
  a : Nat
  l : Int
  d : Int
  ds : Int
  m : Int
  nx : Int
  tg : Nat
deriving DecidableEq

def Rt.enc (x : Rt) : List Value := [.int .u32 (x.a : Nat), .int .i64 x.l, .int .i64 x.d, .int .i64 x.ds, .int .i64 x.m, .int .i64 x.nx, .int .u16 (x.tg : Nat)]
abbrev rv (x : Rt) : Value := .agg #[.int .u32 (x.a : Nat), .int .i64 x.l, .int .i64 x.d, .int .i64 x.ds, .int .i64 x.m, .int .i64 x.nx, .int .u16 (x.tg : Nat)]
abbrev Rt.cells (x : Rt) : Array Value := #[.int .u32 (x.a : Nat), .int .i64 x.l, .int .i64 x.d, .int .i64 x.ds, .int .i64 x.m, .int .i64 x.nx, .int .u16 (x.tg : Nat)]
structure Rt.Good (x : Rt) : Prop where
  a : x.a < 2 ^ 32
  tg : x.tg < 2 ^ 16
theorem Rt.one (x : Rt) : (Rt.enc x).length = 7 ∧ ∀ u ∈ Rt.enc x, oneCell u = true := ⟨rfl, by simp [Rt.enc]⟩

theorem rt_at {h : Hp} {v : Value} {xs : List Rt} {i : Nat} {x : Rt} (S : SlAt h 49 7 Rt.enc v xs) (hx : xs[i]? = some x) :
    ∃ b cap c, v = .slice (some ⟨b, 0, none⟩) xs.length cap ∧ h b = some (.cells c 49 (0, 0)) ∧ c[i * 7]? = some (.int .u32 (x.a : Nat)) ∧ c[i * 7 + 1]? = some (.int .i64 x.l) ∧ c[i * 7 + 2]? = some (.int .i64 x.d) ∧ c[i * 7 + 3]? = some (.int .i64 x.ds) ∧ c[i * 7 + 4]? = some (.int .i64 x.m) ∧ c[i * 7 + 5]? = some (.int .i64 x.nx) ∧ c[i * 7 + 6]? = some (.int .u16 (x.tg : Nat)) := by
  obtain ⟨b, cap, c, e, hb, H⟩ := SlAt.at' S hx
  exact ⟨b, cap, c, e, hb, H 0 (by omega), H 1 (by omega), H 2 (by omega), H 3 (by omega), H 4 (by omega), H 5 (by omega), H 6 (by omega)⟩
end Go.Proofs.Ytpeoholnlokdcaa

/- DUAL in memory: All. -/
namespace Go.Proofs.Ytpeoholnlokdcaa
open Go
set_option linter.unusedSimpArgs false
set_option linter.unusedVariables false
set_option maxRecDepth 20000

def routeOf (s : DS) (p : PK) (w : Wy) : Rt := ⟨p.1, p.2, s.dom, 90, ofV w.v, w.nx, w.tg⟩
def allOne (s : DS) (p : PK) : List Rt := match getM s.px p with
  | some y => match bestS s.lk y y.least with
    | some w => [routeOf s p w]
    | none => []
  | none => []
def allR (s : DS) (ks : List PK) : List Rt := ks.flatMap (allOne s)
theorem allR_snoc {s : DS} {ks : List PK} {p : PK} : allR s (ks ++ [p]) = allR s ks ++ allOne s p := by unfold allR; simp
theorem allR_length {s : DS} : ∀ {ks : List PK}, (allR s ks).length ≤ ks.length
  | [] => by simp [allR]
  | p :: ks => by
    have h1 := allR_length (s := s) (ks := ks)
    have h2 : (allOne s p).length ≤ 1 := by
      unfold allOne
      split
      · split <;> simp
      · simp
    unfold allR at *
    rw [List.flatMap_cons, List.length_append, List.length_cons]; omega

section
variable {h : Hp} {L : RM} {x : DPt} {s : DS} {Q : Value → Hp → Prop}

/-- What the rounds of All keep. -/
structure AlI (h0 : Hp) (b3 l : Nat) (oR : Obj) (rs : List Rt) (g : Hp) : Prop where
  f3 : ∃ v, g b3 = some (.cells #[v] 45 (0, 0)) ∧ SlAt g 49 7 Rt.enc v rs ∧ (∀ c, blkOf v = some c → h0 c = none)
  fl : g l = some oR
  st : ∀ z ob, z ≠ b3 → z ≠ l → h0 z = some ob → g z = some ob
theorem AlI.le {h0 g g' : Hp} {b3 l : Nat} {oR : Obj} {rs : List Rt} (B : AlI h0 b3 l oR rs g) (e : Le g g') : AlI h0 b3 l oR rs g' := by
  obtain ⟨⟨v, h1, h2, h3⟩, fl, st⟩ := B
  exact ⟨⟨v, e _ _ h1, h2.le' e, h3⟩, e _ _ fl, fun z ob z1 z2 q => e _ _ (st z ob z1 z2 q)⟩
theorem AlI.upd {h0 g : Hp} {b3 l b : Nat} {oR : Obj} {rs : List Rt} {o : Obj} (B : AlI h0 b3 l oR rs g) (n3 : b ≠ b3) (nl : b ≠ l) (n0 : h0 b = none) (nv : ∀ v, g b3 = some (.cells #[v] 45 (0, 0)) → blkOf v ≠ some b) : AlI h0 b3 l oR rs (g.upd b o) := by
  obtain ⟨⟨v, h1, h2, h3⟩, fl, st⟩ := B
  exact ⟨⟨v, by rw [upd_ne n3.symm]; exact h1, h2.keep (fun c o e e2 => by rw [upd_ne (by rintro rfl; exact nv v h1 e)]; exact e2), h3⟩, by rw [upd_ne nl.symm]; exact fl, fun z ob z1 z2 q => by rw [upd_ne (ne_new q n0)]; exact st z ob z1 z2 q⟩

set_option maxHeartbeats 4000000 in
theorem allStep {env : Env} {fn D l b1 b3 b : Nat} {h0 : Hp} {p : PK} {y : Kn} {rs : List Rt} (A : DualAt h0 L x s) (hy : getM s.px p = some y) (hb : L (.kn p) = some b) (hl : s.lk.length ≤ 1000000) (hrs : rs.length ≤ 1000)
    (e1 : env 1 = .pointer (some ⟨b1, 0, none⟩)) (e3 : env 3 = .pointer (some ⟨b3, 0, none⟩)) (hu : ∀ t, 41 ≤ t → env t = undef) (f1 : h0 b1 = some (.cells #[ptrV x.p] 25 (0, 0))) (o3 : ∀ r, L r ≠ some b3) (ol : ∀ r, L r ≠ some l) (n13 : b1 ≠ b3) (n1l : b1 ≠ l) (n3l : b3 ≠ l)
    {g : Hp} {K : Value → Hp → Prop} (f30 : ∃ o, h0 b3 = some o) (fl0 : ∃ o, h0 l = some o) (B : AlI h0 b3 l (recOf 41 env #[9] dual_Dual_All_F0_a dual_Dual_All_F0_b .ready none fn D) rs g)
    (hK : ∀ g', AlI h0 b3 l (recOf 41 env #[9] dual_Dual_All_F0_a dual_Dual_All_F0_b .ready none fn D) (rs ++ allOne s p) g' → K (.bool true) g') : YOk Try.prog l #[ptrV b] g K := by
  refine dual_Dual_All_F0_yok B.fl hu ?_
  generalize hR : recOf 41 env #[9] dual_Dual_All_F0_a dual_Dual_All_F0_b .ready none fn D = oR at *
  generalize hB2 : recOf 41 env #[9] dual_Dual_All_F0_a dual_Dual_All_F0_b .busy none fn D = oB
  unfold rnd
  unfold dual_Dual_All_F0_A
  simp (disch := omega) [dual_Dual_All_r3]
  refine ⟨B.fl, ?_⟩
  have sw : ∀ (rs : List Rt) (o o' : Obj) (g : Hp), AlI h0 b3 l o rs g → AlI h0 b3 l o' rs (g.upd l o') := fun rs o o' g B => by
    obtain ⟨⟨v, h1, h2, h3⟩, fl, st⟩ := B
    refine ⟨⟨v, by rw [upd_ne n3l]; exact h1, h2.keep (fun c ob e e2 => ?_), h3⟩, upd_same, fun z ob z1 z2 q => by rw [upd_ne z2]; exact st z ob z1 z2 q⟩
    rw [upd_ne (by rintro rfl; obtain ⟨o9, e9⟩ := fl0; rw [h3 _ e] at e9; cases e9)]; exact e2
  have B1 := sw rs oR oB g B
  generalize g.upd l oB = g1 at *
  have A1 : ∀ {rs g'}, AlI h0 b3 l oB rs g' → DualAt g' L x s := fun B => A.keep fun r c ob e e2 => B.st c ob (fun q => o3 r (by rw [← q]; exact e)) (fun q => ol r (by rw [← q]; exact e)) e2
  have F1 : ∀ {rs g'}, AlI h0 b3 l oB rs g' → g' b1 = some (.cells #[ptrV x.p] 25 (0, 0)) := fun B => B.st _ _ n13 n1l f1
  have fin1 : ∀ (rs' : List Rt) (g' : Hp), AlI h0 b3 l oB rs' g' → rs ++ allOne s p = rs' → g' l = some oB ∧ K (.bool true) (g'.upd l oR) := by
    intro rs' g' B' e
    exact ⟨B'.fl, hK _ (by rw [e]; exact sw rs' oB oR g' B')⟩
  have g11 := F1 B1
  obtain ⟨r, oo, ov, Kn⟩ := (A1 B1).known hy hb
  have pt := Kn.pt
  have hOne : allOne s p = match bestS s.lk y y.least with | some w => [routeOf s p w] | none => [] := by unfold allOne; rw [hy]
  -- behind best
  have rest : ∀ (env2 : Env) (g5 : Hp) (b5 : Nat) (w : Wy), AlI h0 b3 l oB rs g5 → g5 b5 = some (.cells w.cells T_way (0, 0)) → w = accW (bestS s.lk y y.least) → env2 1 = .pointer (some ⟨b1, 0, none⟩) → env2 3 = .pointer (some ⟨b3, 0, none⟩) → env2 4 = ptrV b → env2 5 = .pointer (some ⟨b5, 0, none⟩) → env2 6 = .bool (bestS s.lk y y.least).isSome →
      (sq (rg dual_Dual_All_r5) (cnd (.tmp 20) (rg dual_Dual_All_r6) (ex .normal))) (inBlk 1 (rndK l 41 env #[9] dual_Dual_All_F0_a dual_Dual_All_F0_b fn D K)) env2 g5 := by
    intro env2 g5 b5 w B5 f5 hw e1 e3 e4 e5 e6
    cases hb5 : bestS s.lk y y.least with
    | none =>
      rw [hb5] at e6 hOne
      simp (disch := omega) [dual_Dual_All_r5, e6]
      unfold rndK
      simp only [hR, hB2]
      exact fin1 rs g5 B5 (by rw [hOne]; simp)
    | some w' =>
      rw [hb5] at e6 hOne hw
      have hw' : w = w' := hw
      subst hw'
      have g15 := F1 B5
      obtain ⟨dv, ptd, _, _⟩ := (A1 B5).pt
      obtain ⟨r5, oo5, ov5, K5⟩ := (A1 B5).known hy hb
      have pt5 := K5.pt
      obtain ⟨v, f3, S, nv⟩ := B5.f3
      obtain ⟨sp, cap, hv⟩ := S.shape'
      simp (disch := omega) [dual_Dual_All_r5, e6]
      simp (disch := omega) [dual_Dual_All_r6, e1, e3, e4, e5, f3, pt5, g15, ptd, f5, hv]
      refine ofVM (v := w.v) (fun g6 l6 => ?_)
      have B6 := B5.le l6
      have f36 := l6 _ _ f3
      have f16 := l6 _ _ g15
      have pt6 := l6 _ _ pt5
      have ptd6 := l6 _ _ ptd
      have f56 := l6 _ _ f5
      have S6 := S.le' l6
      simp (disch := omega) [e1, e3, f36, pt6, f16, ptd6, f56, hv]
      intro b9 hb9
      have n39 := ne_new f36 hb9
      refine ⟨by simp [e3, n39, f36, hv], ?_⟩
      rw [← hv]
      refine arun_mono _ (fun w' g' HH => ?_) (snoc_api_Route (k := fun _ v' g => SlAt g 49 7 Rt.enc v' (rs ++ [routeOf s p w]) ∧ Grew g6 g v v') (y := routeOf s p w) S6 rfl (by simp [Rt.enc]) (by omega) (fun b10 w' g' S' G hb10 => ⟨S', G⟩) b9 hb9)
      obtain ⟨S', G⟩ := HH
      have nv3 : blkOf v ≠ some b3 := fun e => by obtain ⟨o, q⟩ := f30; rw [nv _ e] at q; cases q
      have nvl : blkOf v ≠ some l := fun e => by obtain ⟨o, q⟩ := fl0; rw [nv _ e] at q; cases q
      have f37 := G.keep _ _ f36 (fun e => nv3 e.symm)
      have fl7 := G.keep _ _ B6.fl (fun e => nvl e.symm)
      obtain ⟨wp, wcap, hw2⟩ := S'.shape'
      replace hw2 : w' = .slice wp (rs.length + 1) wcap := by rw [hw2]; simp
      have nv' : ∀ c, blkOf w' = some c → h0 c = none ∧ c ≠ b3 := fun c e => by
        rcases G.fresh with q | q
        · exact ⟨nv c (by rw [← q]; exact e), fun q2 => nv3 (by rw [← q2, ← q]; exact e)⟩
        · have h6 := q c e
          refine ⟨?_, fun q2 => by rw [q2, f36] at h6; cases h6⟩
          cases h00 : h0 c with
          | none => rfl
          | some o =>
            exfalso
            by_cases c1 : c = b3
            · rw [c1, f36] at h6; cases h6
            · by_cases c2 : c = l
              · rw [c2, B6.fl] at h6; cases h6
              · rw [B6.st c o c1 c2 h00] at h6; cases h6
      simp (disch := omega) [e3, f37, hw2]
      rw [← hw2]
      unfold rndK
      simp only [hR, hB2]
      refine fin1 (rs ++ [routeOf s p w]) (g'.upd b3 (.cells #[w'] 45 (0, 0))) ⟨⟨w', upd_same, S'.keep (fun c o e e2 => by rw [upd_ne (nv' c e).2]; exact e2), fun c e => (nv' c e).1⟩, by rw [upd_ne n3l.symm]; exact fl7, fun z ob z1 z2 q => ?_⟩ (by rw [hOne])
      rw [upd_ne z1]
      exact G.keep _ _ (B6.st z ob z1 z2 q) (fun e => by rw [nv z e.symm] at q; cases q)
  unfold dual_Dual_All_F0_B
  simp (disch := omega) [dual_Dual_All_r4, e1, g11, pt]
  refine ⟨?_, ?_⟩
  · refine dbestM (A1 B1) hy hb hl (fun g4 l4 => ?_)
    simp (disch := omega)
    intro b5 hb5
    have B5 := (B1.le l4).le (.new (o := .cells (accW (bestS s.lk y y.least)).cells T_way (0, 0)) hb5)
    simp (disch := omega)
    refine rest _ (g4.upd b5 (.cells (accW (bestS s.lk y y.least)).cells T_way (0, 0))) b5 _ B5 upd_same rfl ?_ ?_ ?_ ?_ ?_ <;> simp [e1, e3]
  · intro b5 hb5
    have m1 := ne_new g11 hb5
    have mb := ne_new pt hb5
    have B3 := B1.le (.new (o := .cells Wy.zero.cells T_way (0, 0)) hb5)
    have pt' : g1 b = some (.cells #[.int .u32 (p.1 : Nat), .int .i64 p.2, ov, .map (some r), .int .i64 y.told.v.b, .int .i64 y.told.v.d, .int .i64 y.told.v.h, .int .u16 (y.told.tg : Nat), .int .i64 y.told.nx, .int .i64 y.least, .map (some oo)] T_known (0, 0)) := pt
    simp (disch := omega) [m1, mb, g11, pt']
    refine dbestM (A1 B3) hy hb hl (fun g4 l4 => ?_)
    have f5 : g4 b5 = some (.cells Wy.zero.cells T_way (0, 0)) := l4 _ _ upd_same
    simp (disch := omega)
    refine (stA_of f5 (by rfl) (by rfl)).mpr ?_
    obtain ⟨v, f3, S, nv⟩ := B1.f3
    have m3 : b5 ≠ b3 := (ne_new f3 hb5).symm
    have ml : b5 ≠ l := (ne_new B1.fl hb5).symm
    have m0 : h0 b5 = none := by
      cases h00 : h0 b5 with
      | none => rfl
      | some o => rw [B1.st b5 o m3 ml h00] at hb5; cases hb5
    have B5 := (B3.le l4).upd (b := b5) (o := .cells (accW (bestS s.lk y y.least)).cells T_way (0, 0)) m3 ml m0 (fun v2 q e => by
      have q1 : g4 b3 = some (.cells #[v] 45 (0, 0)) := l4 _ _ (by rw [upd_ne (Ne.symm m3)]; exact f3)
      rw [q1] at q
      cases q
      obtain ⟨o, q2⟩ := S.alive e
      rw [hb5] at q2; cases q2)
    refine ⟨trivial, ?_⟩
    refine rest _ (g4.upd b5 (.cells (accW (bestS s.lk y y.least)).cells T_way (0, 0))) b5 _ B5 upd_same rfl ?_ ?_ ?_ ?_ ?_ <;> simp [e1, e3]

set_option maxHeartbeats 4000000 in
theorem dallM (A : DualAt h L x s) (hl : s.lk.length ≤ 1000) (hpl : s.px.length ≤ 100)
    (hQ : ∀ w h', Le h h' → SlAt h' 49 7 Rt.enc w (allR s (pfx s.px)) → (∀ c, blkOf w = some c → h c = none) → Q w h') :
    Ok Try.prog F_dual_Dual_All #[ptrV x.p] h Q := by
  refine dual_Dual_All_ok (by simp) ?_
  unfold dual_Dual_All_D
  simp (disch := omega) [dual_Dual_All_r0]
  intro b1 hb1
  have l1 : Le h (h.upd b1 (.cells #[ptrV x.p] 25)) := .new hb1
  have f1 : (h.upd b1 (.cells #[ptrV x.p] 25)) b1 = some (.cells #[ptrV x.p] 25 (0, 0)) := upd_same
  show dual_Dual_All_r1 _ (h.upd b1 (.cells #[ptrV x.p] 25)) _
  generalize h.upd b1 (.cells #[ptrV x.p] 25) = h1 at *
  simp (disch := omega) [dual_Dual_All_r1]
  intro b3 hb3
  have l3 : Le h1 (h1.upd b3 (.cells #[.slice none 0 0] 45)) := .new hb3
  have f3 : (h1.upd b3 (.cells #[.slice none 0 0] 45)) b3 = some (.cells #[.slice none 0 0] 45 (0, 0)) := upd_same
  show sq (rg dual_Dual_All_r2) _ _ _ (h1.upd b3 (.cells #[.slice none 0 0] 45))
  have h3n : h b3 = none := none_of_le l1 hb3
  have n13 := ne_new f1 hb3
  have f1 := l3 _ _ f1
  have l2 := l1.trans l3
  generalize h1.upd b3 (.cells #[.slice none 0 0] 45) = h2 at *
  have A1 := A.le' l2
  simp (disch := omega) [dual_Dual_All_r2, f1]
  refine allM (fun Bd g1 lB hBd nBd => ?_)
  simp (disch := omega)
  refine ⟨F_dual_Dual_all_1, #[], #[.pointer (some ⟨Bd, 0, none⟩)], by simp, fun l fn D hl2 hu => ?_⟩
  simp (disch := omega)
  have A5 := A1.le' lB
  have ol := A5.out_ hl2
  have nB3 : Bd ≠ b3 := (ne_new f3 nBd).symm
  have f1 := lB _ _ f1
  have f3 := lB _ _ f3
  have n1 := ne_new f1 hl2
  have n3 := ne_new f3 hl2
  have nB := ne_new hBd hl2
  have o3 := A.out_ h3n
  have hlh : h l = none := none_of_le (l2.trans lB) hl2
  have key2 : ∀ (env : Env), env 1 = .pointer (some ⟨b1, 0, none⟩) → env 3 = .pointer (some ⟨b3, 0, none⟩) → (∀ t, 41 ≤ t → env t = undef) →
      Ok Try.prog F_dual_Dual_all_1 #[.func (.yield l) #[] #[], .pointer (some ⟨Bd, 0, none⟩)] (g1.upd l (recOf 41 env #[9] dual_Dual_All_F0_a dual_Dual_All_F0_b .ready none fn D)) (fun _ h2 =>
        AlI (g1.upd l (recOf 41 env #[9] dual_Dual_All_F0_a dual_Dual_All_F0_b .ready none fn D)) b3 l (recOf 41 env #[9] dual_Dual_All_F0_a dual_Dual_All_F0_b .ready none fn D) (allR s (pfx s.px)) h2) := by
    intro env e1' e3' hu
    have A6 := A5.putL ol (recOf 41 env #[9] dual_Dual_All_F0_a dual_Dual_All_F0_b .ready none fn D)
    have fBd : (g1.upd l (recOf 41 env #[9] dual_Dual_All_F0_a dual_Dual_All_F0_b .ready none fn D)) Bd = some (.cells #[ptrV x.p] 25 (0, 0)) := by rw [upd_ne nB]; exact hBd
    refine all1M fBd A6 (by omega) (fun V g => AlI (g1.upd l (recOf 41 env #[9] dual_Dual_All_F0_a dual_Dual_All_F0_b .ready none fn D)) b3 l (recOf 41 env #[9] dual_Dual_All_F0_a dual_Dual_All_F0_b .ready none fn D) (allR s V) g)
      ⟨⟨_, by rw [upd_ne n3]; exact f3, .inl ⟨rfl, rfl⟩, fun c e => by simp [blkOf] at e⟩, upd_same, fun z ob _ _ e => e⟩ (fun V g B => ?_) (fun V p rest g b K hsp B hb hK => ?_) (fun v g B => B)
    · exact stays_of ((B.st _ _ nB3 nB fBd).trans fBd.symm) (A6.keep fun r c ob e e2 => B.st c ob (fun q => o3 r (by rw [← q]; exact e)) (fun q => ol r (by rw [← q]; exact e)) e2)
    · obtain ⟨y, hy⟩ := Option.isSome_iff_exists.1 (pfx_get.1 (by rw [hsp]; simp : p ∈ pfx s.px))
      have hV : V.length ≤ 100 := by
        have := pfx_length (m := s.px)
        rw [hsp, List.length_append] at this; omega
      have hrl := allR_length (s := s) (ks := V)
      refine allStep A6 hy hb (by omega) (by omega) e1' e3' hu (by rw [upd_ne n1]; exact f1) o3 ol n13 n1 n3 ⟨_, by rw [upd_ne n3]; exact f3⟩ ⟨_, upd_same⟩ B (fun g' B' => hK g' ?_)
      rw [allR_snoc]
      exact B'
  refine (key2 _ ?_ ?_ ?_).mono ?_
  · simp
  · simp
  · intro t ht; exact hu t ht
  · intro _ h5 B
    refine .inl ⟨B.fl, ?_⟩
    obtain ⟨v, f35, S, nv⟩ := B.f3
    have nvl : ∀ c, blkOf v = some c → c ≠ l := fun c e q => by have := nv c e; rw [q, upd_same] at this; cases this
    have f3r : (h5.rem l) b3 = some (.cells #[v] 45 (0, 0)) := by rw [rem_ne n3]; exact f35
    have Sr : SlAt (h5.rem l) 49 7 Rt.enc v (allR s (pfx s.px)) := S.keep fun c o e e2 => by rw [rem_ne (nvl c e)]; exact e2
    have Lr : Le h (h5.rem l) := fun z ob e => by
      have z3 := ne_new e h3n
      have zl := ne_new e hlh
      rw [rem_ne zl]; exact B.st z ob z3 zl (by rw [upd_ne zl]; exact lB _ _ (l2 _ _ e))
    generalize h5.rem l = h6 at *
    obtain ⟨sp, cap, hv⟩ := Sr.shape'
    simp (disch := omega) [dual_Dual_All_r7, f3r, hv]
    rw [← hv]
    refine .to _ (.refl _) (hQ v h6 Lr Sr (fun c e => ?_))
    have hc := nv c e
    rw [upd_ne (nvl c e)] at hc
    exact none_of_le (l2.trans lB) hc
end
end Go.Proofs.Ytpeoholnlokdcaa

/- Op18: a flat struct (printed by wip/lib/struct.py). -/
namespace Go.Proofs.Ytpeoholnlokdcaa
open Go
set_option linter.unusedSimpArgs false
set_option linter.unusedVariables false

structure Op18 where
  kd : Int
  k : Int
  to : Int
  code : Int
  seq : Nat
  ack : Nat
  pa : Nat
  pl : Int
  vb : Int
  vd : Int
  vh : Int
  tg : Nat
deriving DecidableEq

def Op18.enc (x : Op18) : List Value := [.int .i64 x.kd, .int .i64 x.k, .int .i64 x.to, .int .i64 x.code, .int .u32 (x.seq : Nat), .int .u32 (x.ack : Nat), .int .u32 (x.pa : Nat), .int .i64 x.pl, .int .i64 x.vb, .int .i64 x.vd, .int .i64 x.vh, .int .u16 (x.tg : Nat)]
abbrev Op18v (x : Op18) : Value := .agg #[.int .i64 x.kd, .int .i64 x.k, .int .i64 x.to, .int .i64 x.code, .int .u32 (x.seq : Nat), .int .u32 (x.ack : Nat), .int .u32 (x.pa : Nat), .int .i64 x.pl, .int .i64 x.vb, .int .i64 x.vd, .int .i64 x.vh, .int .u16 (x.tg : Nat)]
abbrev Op18.cells (x : Op18) : Array Value := #[.int .i64 x.kd, .int .i64 x.k, .int .i64 x.to, .int .i64 x.code, .int .u32 (x.seq : Nat), .int .u32 (x.ack : Nat), .int .u32 (x.pa : Nat), .int .i64 x.pl, .int .i64 x.vb, .int .i64 x.vd, .int .i64 x.vh, .int .u16 (x.tg : Nat)]
structure Op18.Good (x : Op18) : Prop where
  seq : x.seq < 2 ^ 32
  ack : x.ack < 2 ^ 32
  pa : x.pa < 2 ^ 32
  tg : x.tg < 2 ^ 16
theorem Op18.one (x : Op18) : (Op18.enc x).length = 12 ∧ ∀ u ∈ Op18.enc x, oneCell u = true := ⟨rfl, by simp [Op18.enc]⟩

theorem Op18_at {h : Hp} {v : Value} {xs : List Op18} {i : Nat} {x : Op18} (S : SlAt h 55 12 Op18.enc v xs) (hx : xs[i]? = some x) :
    ∃ b cap c, v = .slice (some ⟨b, 0, none⟩) xs.length cap ∧ h b = some (.cells c 55 (0, 0)) ∧ c[i * 12]? = some (.int .i64 x.kd) ∧ c[i * 12 + 1]? = some (.int .i64 x.k) ∧ c[i * 12 + 2]? = some (.int .i64 x.to) ∧ c[i * 12 + 3]? = some (.int .i64 x.code) ∧ c[i * 12 + 4]? = some (.int .u32 (x.seq : Nat)) ∧ c[i * 12 + 5]? = some (.int .u32 (x.ack : Nat)) ∧ c[i * 12 + 6]? = some (.int .u32 (x.pa : Nat)) ∧ c[i * 12 + 7]? = some (.int .i64 x.pl) ∧ c[i * 12 + 8]? = some (.int .i64 x.vb) ∧ c[i * 12 + 9]? = some (.int .i64 x.vd) ∧ c[i * 12 + 10]? = some (.int .i64 x.vh) ∧ c[i * 12 + 11]? = some (.int .u16 (x.tg : Nat)) := by
  obtain ⟨b, cap, c, e, hb, H⟩ := SlAt.at' S hx
  exact ⟨b, cap, c, e, hb, H 0 (by omega), H 1 (by omega), H 2 (by omega), H 3 (by omega), H 4 (by omega), H 5 (by omega), H 6 (by omega), H 7 (by omega), H 8 (by omega), H 9 (by omega), H 10 (by omega), H 11 (by omega)⟩

def Op18Ks : List Lk := [.int .i64, .int .i64, .int .i64, .int .i64, .int .u32, .int .u32, .int .u32, .int .i64, .int .i64, .int .i64, .int .i64, .int .u16]
theorem dec_Op18 {H : Type} {enc : TypeId × Value → H} {w : World} {base : Nat} {spare : Nat → Bool} {held : Bool} (cs : List Value) (h : okLs enc Try.prog w base spare held Op18Ks cs) : ∃ x : Op18, cs = x.enc ∧ x.Good := by
  obtain ⟨a0, _, rfl, w0, h⟩ := okLs_int h
  obtain ⟨a1, _, rfl, w1, h⟩ := okLs_int h
  obtain ⟨a2, _, rfl, w2, h⟩ := okLs_int h
  obtain ⟨a3, _, rfl, w3, h⟩ := okLs_int h
  obtain ⟨a4, _, rfl, w4, h⟩ := okLs_int h
  obtain ⟨a5, _, rfl, w5, h⟩ := okLs_int h
  obtain ⟨a6, _, rfl, w6, h⟩ := okLs_int h
  obtain ⟨a7, _, rfl, w7, h⟩ := okLs_int h
  obtain ⟨a8, _, rfl, w8, h⟩ := okLs_int h
  obtain ⟨a9, _, rfl, w9, h⟩ := okLs_int h
  obtain ⟨a10, _, rfl, w10, h⟩ := okLs_int h
  obtain ⟨a11, _, rfl, w11, h⟩ := okLs_int h
  obtain rfl := okLs_nil h
  obtain ⟨b4, rfl, g4⟩ := u32_wf w4
  obtain ⟨b5, rfl, g5⟩ := u32_wf w5
  obtain ⟨b6, rfl, g6⟩ := u32_wf w6
  obtain ⟨b11, rfl, g11⟩ := u16_wf w11
  exact ⟨⟨a0, a1, a2, a3, b4, b5, b6, a7, a8, a9, a10, b11⟩, rfl, ⟨g4, g5, g6, g11⟩⟩
end Go.Proofs.Ytpeoholnlokdcaa

/- DUAL: a call; what stays behind each. -/
namespace Go.Proofs.Ytpeoholnlokdcaa
open Go
set_option linter.unusedSimpArgs false
set_option linter.unusedVariables false
set_option maxRecDepth 20000

abbrev Op18.p (o : Op18) : PK := (o.pa, o.pl)
abbrev Op18.v (o : Op18) : Vec := ⟨o.vb, o.vd, o.vh⟩
abbrev Op18.l (o : Op18) : Lt := ⟨o.to, o.code, o.seq, o.ack, o.p, o.v, o.tg⟩
def does18 (s : DS) (o : Op18) : DS :=
  if o.kd = 0 then upX s o.k o.v else if o.kd = 1 then downX s o.k else if o.kd = 2 then ownS s o.p o.v o.tg else if o.kd = 3 then dropS s o.p
  else if o.kd = 4 then hearS s o.k o.l else if o.kd = 5 then againS s else s
def err18 (s : DS) (o : Op18) : Int :=
  if o.kd = 0 then upErr s o.k o.v else if o.kd = 1 then 0 else if o.kd = 2 then ownErr s o.p o.v o.tg else if o.kd = 3 then dropErr s o.p
  else if o.kd = 4 then hearErr s o.k o.l else 0

/-- What stays. -/
structure DGood (s : DS) : Prop where
  out : s.out = []
  oi : OpnIn s
  mo : s.most ≤ 64
  pl : (s.px.length : Int) ≤ 64
  ks : ∀ k, (getM s.lk k).isSome → 1 ≤ k ∧ k ≤ 32

theorem lk_le {s : DS} (u : Uniq s.lk) (g : ∀ k, (getM s.lk k).isSome → 1 ≤ k ∧ k ≤ 32) : s.lk.length ≤ 32 := by
  have := List.Nodup.length_le_of_subset (l₁ := s.lk.map (·.1)) (l₂ := (List.range 32).map fun n : Nat => ((n : Int) + 1)) (by unfold Uniq at u; exact u) (fun k hk => by
    obtain ⟨h1, h2⟩ := g k (getM_isIn.2 hk)
    rw [List.mem_map]
    exact ⟨(k - 1).toNat, by rw [List.mem_range]; omega, by omega⟩)
  simpa using this

/-- What a call keeps of links and prefixes. -/
structure Same (s s' : DS) : Prop where
  lk : ∀ k, (getM s'.lk k).isSome = (getM s.lk k).isSome
  px : s'.px.length = s.px.length
  mo : s'.most = s.most
  dom : s'.dom = s.dom
  oi : OpnIn s → OpnIn s'
theorem Same.refl {s : DS} : Same s s := ⟨fun _ => rfl, rfl, rfl, rfl, id⟩
theorem Same.trans {a b c : DS} (x : Same a b) (y : Same b c) : Same a c := ⟨fun k => (y.lk k).trans (x.lk k), y.px.trans x.px, y.mo.trans x.mo, y.dom.trans x.dom, fun o => y.oi (x.oi o)⟩
theorem same_send {s : DS} {k code : Int} {ack : Nat} {p : PK} {w : Wy} : Same s (sendS s k code ack p w) :=
  ⟨sendS_lk, by rw [sendS_px], by unfold sendS; split <;> rfl, by unfold sendS; split <;> rfl, opn_send⟩
theorem same_setK {s : DS} {p : PK} {y y' : Kn} (hy : getM s.px p = some y) (h : ∀ k, (getM y'.opn k).isSome → (getM y.opn k).isSome) : Same s (setK s p y') :=
  ⟨fun _ => rfl, setK_length hy, rfl, rfl, fun o => opn_setK o fun k hk => o p y hy k (h k hk)⟩
theorem setK_most {s : DS} {p : PK} {y : Kn} : (setK s p y).most = s.most := rfl
theorem askS_same {s : DS} {p : PK} {w : Wy} {code k : Int} (hk : (getM s.lk k).isSome) : Same s (askS p w code s k) := by
  refine ⟨askS_lk, askS_len.2, ?_, ?_, fun o => opn_ask o hk⟩
  · unfold askS; split
    · split
      · exact (same_send (s := s)).mo
      · rfl
    · exact (same_send (s := s)).mo
  · unfold askS; split
    · split
      · exact (same_send (s := s)).dom
      · rfl
    · exact (same_send (s := s)).dom
theorem asks_same {p : PK} {w : Wy} {code : Int} : ∀ {V : List Int} {s : DS}, (∀ k ∈ V, (getM s.lk k).isSome) → Same s (V.foldl (askS p w code) s)
  | [], _, _ => .refl
  | k :: V, s, h => by
    rw [List.foldl_cons]
    exact (askS_same (h k (by simp))).trans (asks_same fun j hj => by rw [askS_lk]; exact h j (by simp [hj]))
theorem same_least {s : DS} {p : PK} {code now : Int} : Same s (leastS s p code now) := by
  unfold leastS
  split
  · rename_i y hy
    split
    · exact same_setK hy fun k hk => hk
    · split
      · exact same_setK hy fun k hk => hk
      · exact .refl
  · exact .refl
theorem same_settle {s : DS} {p : PK} : Same s (settleS s p) := by
  unfold settleS
  split
  · rename_i y hy
    split
    · exact .refl
    · exact Same.trans (b := setK s p { y with told := wayS s.lk y }) (same_setK hy fun k hk => hk) (.trans (asks_same fun k hk => nbrs_get.1 hk) same_least)
  · exact .refl
theorem same_againOne {s : DS} {p : PK} (o : OpnIn s) : Same s (againOne s p) := by
  unfold againOne
  split
  · rename_i y hy
    exact asks_same fun k hk => o p y hy k (getM_isIn.2 (srtI_mem.1 hk))
  · exact .refl
theorem same_agains : ∀ {V : List PK} {s : DS}, OpnIn s → Same s (V.foldl againOne s)
  | [], _, _ => .refl
  | k :: V, s, o => by
    rw [List.foldl_cons]
    exact (same_againOne o).trans (same_agains ((same_againOne o).oi o))
theorem same_upOne {k : Int} {s : DS} {p : PK} : Same s (upOne k s p) := by
  unfold upOne
  split
  · split
    · exact same_send
    · exact .refl
  · exact .refl
theorem same_ups {k : Int} : ∀ {V : List PK} {s : DS}, Same s (V.foldl (upOne k) s)
  | [], _ => .refl
  | q :: V, s => by rw [List.foldl_cons]; exact same_upOne.trans same_ups

/-- Behind the going of a link: those prefixes that were not settled may still ask it. -/
structure Gone (k : Int) (D : List PK) (s : DS) : Prop where
  ok : ∀ p y, getM s.px p = some y → ∀ j, (getM y.opn j).isSome → (getM s.lk j).isSome ∨ (j = k ∧ p ∉ D)
  uo : ∀ p y, getM s.px p = some y → Uniq y.opn

theorem uo_setK {s : DS} {p : PK} {y : Kn} (o : ∀ p y, getM s.px p = some y → Uniq y.opn) (h : Uniq y.opn) : ∀ q z, getM (setK s p y).px q = some z → Uniq z.opn := by
  intro q z hz
  unfold setK at hz
  simp only [getM_setM] at hz
  split at hz
  · cases hz; exact h
  · exact o q z hz
theorem uo_ask {s : DS} {p : PK} {w : Wy} {code k : Int} (o : ∀ p y, getM s.px p = some y → Uniq y.opn) : ∀ q z, getM (askS p w code s k).px q = some z → Uniq z.opn := by
  unfold askS
  split
  · split
    · rename_i y hy
      exact uo_setK (fun q z hz => by rw [sendS_px] at hz; exact o q z hz) (o p y hy).set
    · exact o
  · intro q z hz; rw [sendS_px] at hz; exact o q z hz
theorem uo_asks {p : PK} {w : Wy} {code : Int} : ∀ {V : List Int} {s : DS}, (∀ p y, getM s.px p = some y → Uniq y.opn) → ∀ q z, getM (V.foldl (askS p w code) s).px q = some z → Uniq z.opn
  | [], _, o => o
  | k :: V, s, o => by rw [List.foldl_cons]; exact uo_asks (uo_ask o)
theorem uo_least {s : DS} {p : PK} {code now : Int} (o : ∀ p y, getM s.px p = some y → Uniq y.opn) : ∀ q z, getM (leastS s p code now).px q = some z → Uniq z.opn := by
  unfold leastS
  split
  · rename_i y hy
    split
    · exact uo_setK o (o p y hy)
    · split
      · exact uo_setK o (o p y hy)
      · exact o
  · exact o
theorem uo_settle {s : DS} {p : PK} (o : ∀ p y, getM s.px p = some y → Uniq y.opn) : ∀ q z, getM (settleS s p).px q = some z → Uniq z.opn := by
  unfold settleS
  split
  · rename_i y hy
    split
    · exact o
    · exact uo_least (uo_asks (uo_setK o (o p y hy)))
  · exact o
theorem uo_close {y : Kn} {k : Int} (u : Uniq y.opn) : Uniq (closeK y k).opn := by
  unfold closeK
  split
  · exact u.del
  · exact u
/-- Others stay, when one is settled. -/
theorem setK_other {s : DS} {p q : PK} {y : Kn} (n : q ≠ p) : getM (setK s p y).px q = getM s.px q := by unfold setK; simp only [getM_setM, if_neg n]
theorem ask_other {s : DS} {p q : PK} {w : Wy} {code k : Int} (n : q ≠ p) : getM (askS p w code s k).px q = getM s.px q := by
  unfold askS
  split
  · split
    · rw [setK_other n, sendS_px]
    · rfl
  · rw [sendS_px]
theorem asks_other {p q : PK} {w : Wy} {code : Int} (n : q ≠ p) : ∀ {V : List Int} {s : DS}, getM (V.foldl (askS p w code) s).px q = getM s.px q
  | [], _ => rfl
  | k :: V, s => by rw [List.foldl_cons, asks_other n, ask_other n]
theorem least_other {s : DS} {p q : PK} {code now : Int} (n : q ≠ p) : getM (leastS s p code now).px q = getM s.px q := by
  unfold leastS
  split
  · split
    · exact setK_other n
    · split
      · exact setK_other n
      · rfl
  · rfl
theorem settle_other {s : DS} {p q : PK} (n : q ≠ p) : getM (settleS s p).px q = getM s.px q := by
  unfold settleS
  split
  · split
    · rfl
    · rw [least_other n, asks_other n, setK_other n]
  · rfl

/-- Queries of one prefix are open to neighbours that are there. -/
def OpnAt (s : DS) (p : PK) : Prop := ∀ y, getM s.px p = some y → ∀ k, (getM y.opn k).isSome → (getM s.lk k).isSome
theorem at_ask {s : DS} {p : PK} {w : Wy} {code k : Int} (o : OpnAt s p) (hk : (getM s.lk k).isSome) : OpnAt (askS p w code s k) p := by
  intro z hz j hj
  rw [askS_lk]
  cases hy : getM s.px p with
  | none =>
    have := askS_px (s := s) (p := p) (w := w) (code := code) (k := k) p
    rw [hz, hy] at this; cases this
  | some y =>
    rw [askS_some hy] at hz
    split at hz
    · rw [setK_get] at hz; cases hz
      rcases setM_isSome hj with rfl | hj
      · exact hk
      · exact o y hy j hj
    · rw [sendS_px] at hz; exact o z hz j hj
theorem at_asks {p : PK} {w : Wy} {code : Int} : ∀ {V : List Int} {s : DS}, OpnAt s p → (∀ k ∈ V, (getM s.lk k).isSome) → OpnAt (V.foldl (askS p w code) s) p
  | [], _, o, _ => o
  | k :: V, s, o, h => by
    rw [List.foldl_cons]
    exact at_asks (at_ask o (h k (by simp))) (fun j hj => by rw [askS_lk]; exact h j (by simp [hj]))
theorem at_setK {s : DS} {p : PK} {y : Kn} (h : ∀ k, (getM y.opn k).isSome → (getM s.lk k).isSome) : OpnAt (setK s p y) p := by
  intro z hz j hj
  rw [setK_get] at hz; cases hz; exact h j hj
theorem at_least {s : DS} {p : PK} {code now : Int} (o : OpnAt s p) : OpnAt (leastS s p code now) p := by
  unfold leastS
  split
  · rename_i y hy
    split
    · exact at_setK (fun k hk => o y hy k hk)
    · split
      · exact at_setK (fun k hk => o y hy k hk)
      · exact o
  · exact o
theorem at_settle {s : DS} {p : PK} (o : OpnAt s p) : OpnAt (settleS s p) p := by
  unfold settleS
  split
  · rename_i y hy
    split
    · exact o
    · exact at_least (at_asks (at_setK (fun k hk => o y hy k hk)) (fun k hk => nbrs_get.1 hk))
  · exact o

theorem gone_one {k : Int} {D : List PK} {s : DS} {p : PK} (G : Gone k D s) : Gone k (p :: D) (downOne k s p) := by
  unfold downOne
  split
  · rename_i y hy
    have u := G.uo p y hy
    have hA : OpnAt (settleS (setK s p (closeK { y with rep := delM k y.rep } k)) p) p := at_settle (at_setK fun j hj => by
      have n := closeK_opn_ne (y := { y with rep := delM k y.rep }) u hj
      have h1 := closeK_opn hj
      rcases G.ok p y hy j h1 with q | q
      · exact q
      · exact absurd q.1 n)
    refine ⟨fun q z hz j hj => ?_, uo_settle (uo_setK G.uo (uo_close u))⟩
    rw [settleS_lk]
    by_cases n : q = p
    · subst n
      have := hA z hz j hj
      rw [settleS_lk] at this
      exact .inl this
    · rw [settle_other n, setK_other n] at hz
      rcases G.ok q z hz j hj with h | ⟨h1, h2⟩
      · exact .inl h
      · exact .inr ⟨h1, by simp [n, h2]⟩
  · rename_i hy
    refine ⟨fun q z hz j hj => ?_, G.uo⟩
    rcases G.ok q z hz j hj with h | ⟨h1, h2⟩
    · exact .inl h
    · refine .inr ⟨h1, ?_⟩
      simp only [List.mem_cons, not_or]
      exact ⟨(by rintro rfl; rw [hy] at hz; cases hz), h2⟩
theorem gone_all {k : Int} : ∀ {V D : List PK} {s : DS}, Gone k D s → Gone k (V.reverse ++ D) (V.foldl (downOne k) s)
  | [], _, _, G => G
  | p :: V, D, s, G => by
    rw [List.foldl_cons, List.reverse_cons, List.append_assoc]
    exact gone_all (gone_one G)
theorem downOne_mo {k : Int} {s : DS} {p : PK} : (downOne k s p).most = s.most ∧ (downOne k s p).px.length = s.px.length ∧ (downOne k s p).dom = s.dom := by
  unfold downOne
  split
  · rename_i y hy
    exact ⟨same_settle.mo, by rw [same_settle.px, setK_length hy], same_settle.dom⟩
  · exact ⟨rfl, rfl, rfl⟩
theorem downs_mo {k : Int} : ∀ {V : List PK} {s : DS}, (V.foldl (downOne k) s).most = s.most ∧ (V.foldl (downOne k) s).px.length = s.px.length ∧ (V.foldl (downOne k) s).dom = s.dom
  | [], _ => ⟨rfl, rfl, rfl⟩
  | p :: V, s => by rw [List.foldl_cons, downs_mo.1, downs_mo.2.1, downs_mo.2.2]; exact downOne_mo

theorem addS_len {s : DS} {p : PK} (h : (s.px.length : Int) ≤ 64) (hm : s.most ≤ 64) : ((addS s p).px.length : Int) ≤ 64 ∧ (addS s p).most = s.most ∧ (OpnIn s → OpnIn (addS s p)) := by
  unfold addS
  split
  · exact ⟨h, rfl, id⟩
  · rename_i hy
    split
    · refine ⟨?_, rfl, fun o => opn_setK o fun k hk => by simp [kn0, getM_nil] at hk⟩
      unfold setK
      simp only [setM_length, hy]
      simp; omega
    · exact ⟨h, rfl, id⟩
theorem good_of {s s1 t : DS} (g : DGood s) (h1 : ∀ k, (getM s1.lk k).isSome = (getM s.lk k).isSome) (h2 : (s1.px.length : Int) ≤ 64) (h3 : s1.most = s.most) (h4 : OpnIn s1) (S : Same s1 t) : DGood (outS t) :=
  ⟨rfl, S.oi h4, by show t.most ≤ 64; rw [S.mo, h3]; exact g.mo, by show (t.px.length : Int) ≤ 64; rw [S.px]; exact h2, fun k hk => g.ks k (by rw [← h1, ← S.lk]; exact hk)⟩
theorem good_same {s t : DS} (g : DGood s) (S : Same s t) : DGood (outS t) := good_of g (fun _ => rfl) g.pl rfl g.oi S

theorem good_up {s : DS} {k : Int} {v : Vec} (g : DGood s) : DGood (outS (upX s k v)) := by
  unfold upX
  split
  · rename_i ok
    unfold upOk at ok
    simp only [Bool.and_eq_true, decide_eq_true_eq] at ok
    have S : Same { s with lk := setM k ⟨v, 0, 0⟩ s.lk } (upS s k v) := same_ups
    refine ⟨rfl, S.oi fun p y hy j hj => ?_, by show (upS s k v).most ≤ 64; rw [S.mo]; exact g.mo, by show ((upS s k v).px.length : Int) ≤ 64; rw [S.px]; exact g.pl, fun j hj => ?_⟩
    · simp only [getM_setM]
      split
      · rfl
      · exact g.oi p y hy j hj
    · have hj' : (getM (upS s k v).lk j).isSome := hj
      rw [S.lk] at hj'
      rcases setM_isSome hj' with rfl | q
      · exact ⟨ok.1.1.1, ok.1.1.2⟩
      · exact g.ks j q
  · exact good_same g .refl
theorem good_down {s : DS} {k : Int} (ul : Uniq s.lk) (uo : ∀ p y, getM s.px p = some y → Uniq y.opn) (g : DGood s) : DGood (outS (downX s k)) := by
  unfold downX
  split
  · have G0 : Gone k [] { s with lk := delM k s.lk } := ⟨fun p y hy j hj => by
      have := g.oi p y hy j hj
      by_cases c : j = k
      · exact .inr ⟨c, by simp⟩
      · refine .inl ?_
        simp only [getM_delM ul, if_neg c]; exact this, uo⟩
    have G := gone_all (V := pfx s.px) G0
    have hlk : ∀ j, (getM (downS s k).lk j).isSome = (getM (delM k s.lk) j).isSome := fun j => downOne_ok.lks j
    have hpx : ∀ j, (getM (downS s k).px j).isSome = (getM s.px j).isSome := fun j => downOne_ok.pxs j
    have hm := downs_mo (k := k) (V := pfx s.px) (s := { s with lk := delM k s.lk })
    refine ⟨rfl, fun p y hy j hj => ?_, by show (downS s k).most ≤ 64; exact hm.1 ▸ g.mo, by show ((downS s k).px.length : Int) ≤ 64; unfold downS; rw [hm.2.1]; exact g.pl, fun j hj => ?_⟩
    · rcases G.ok p y hy j hj with h | ⟨_, h⟩
      · exact h
      · refine absurd ?_ h
        have h1 : (getM (downS s k).px p).isSome := by rw [show getM (downS s k).px p = some y from hy]; rfl
        rw [hpx] at h1
        simp [pfx_get.2 h1]
    · have hj' : (getM (downS s k).lk j).isSome := hj
      rw [hlk] at hj'
      exact g.ks j (delM_isSome hj')
  · exact good_same g .refl
theorem good_own {s : DS} {p : PK} {v : Vec} {tg : Nat} (g : DGood s) : DGood (outS (ownS s p v tg)) := by
  have a := addS_len (p := p) g.pl g.mo
  unfold ownS
  split
  · split
    · rename_i y hy
      exact good_of g (fun k => by rw [addS_dom.2.1]) a.1 a.2.1 (a.2.2 g.oi) (Same.trans (b := setK (addS s p) p { y with own := some ⟨v, tg, 0⟩ }) (same_setK hy fun k hk => hk) same_settle)
    · exact good_same g .refl
  · exact good_same g .refl
theorem good_drop {s : DS} {p : PK} (g : DGood s) : DGood (outS (dropS s p)) := by
  unfold dropS
  split
  · rename_i y hy
    split
    · exact good_same g .refl
    · exact good_same g (Same.trans (b := setK s p { y with own := none }) (same_setK hy fun k hk => hk) same_settle)
  · exact good_same g .refl
theorem rep_same {s : DS} {k : Int} {p : PK} {v : Vec} {tg : Nat} : Same (if repFine s v tg then addS s p else s) (repS s k p v tg) := by
  unfold repS
  split
  · split
    · rename_i y hy; exact same_setK hy fun k hk => hk
    · exact .refl
  · split
    · rename_i y hy; exact same_setK hy fun k hk => hk
    · exact .refl
theorem reply_same {s : DS} {k : Int} {l : Lt} : Same s (replyS s k l) := by
  unfold replyS
  split
  · exact same_send
  · exact .refl
theorem end_same {s : DS} {k : Int} {l : Lt} : Same s (endS s k l) := by
  unfold endS
  split
  · rename_i y hy
    refine Same.trans ?_ same_settle
    split
    · exact same_setK hy fun j hj => closeK_opn hj
    · exact .refl
  · exact .refl
theorem got_lk {s : DS} {k : Int} {n : Nat} (j : Int) : (getM (gotS s k n).lk j).isSome = (getM s.lk j).isSome := by
  unfold gotS
  split
  · rename_i f hf
    simp only [getM_setM]
    split
    · rename_i e; subst e; rw [hf]; rfl
    · rfl
  · rfl
theorem got_px {s : DS} {k : Int} {n : Nat} : (gotS s k n).px = s.px ∧ (gotS s k n).most = s.most ∧ (gotS s k n).out = s.out ∧ (gotS s k n).dom = s.dom := by unfold gotS; split <;> exact ⟨rfl, rfl, rfl, rfl⟩
theorem good_hear {s : DS} {k : Int} {l : Lt} (g : DGood s) : DGood (outS (hearS s k l)) := by
  unfold hearS
  split
  · have gp := got_px (s := s) (k := k) (n := l.seq)
    have o1 : OpnIn (gotS s k l.seq) := fun p y hy j hj => by
      rw [gp.1] at hy
      rw [got_lk]
      exact g.oi p y hy j hj
    have pl1 : ((gotS s k l.seq).px.length : Int) ≤ 64 := by rw [gp.1]; exact g.pl
    have a := addS_len (s := gotS s k l.seq) (p := l.p) pl1 (by rw [gp.2.1]; exact g.mo)
    have S := (rep_same (s := gotS s k l.seq) (k := k) (p := l.p) (v := l.v) (tg := l.tg)).trans ((reply_same (k := k) (l := l)).trans (end_same (k := k) (l := l)))
    split at S
    · exact good_of g (fun k => by rw [addS_dom.2.1, got_lk]) a.1 (a.2.1.trans gp.2.1) (a.2.2 o1) S
    · exact good_of g (fun k => by rw [got_lk]) pl1 gp.2.1 o1 S
  · exact good_same g .refl
theorem good_again {s : DS} (g : DGood s) : DGood (outS (againS s)) := good_same g (same_agains g.oi)
theorem good_does {s : DS} {o : Op18} (ul : Uniq s.lk) (uo : ∀ p y, getM s.px p = some y → Uniq y.opn) (g : DGood s) : DGood (outS (does18 s o)) := by
  unfold does18
  split
  · exact good_up g
  · split
    · exact good_down ul uo g
    · split
      · exact good_own g
      · split
        · exact good_drop g
        · split
          · exact good_hear g
          · split
            · exact good_again g
            · exact good_same g .refl
end Go.Proofs.Ytpeoholnlokdcaa

/- DUAL in memory: a call. -/
namespace Go.Proofs.Ytpeoholnlokdcaa
open Go
set_option linter.unusedSimpArgs false
set_option linter.unusedVariables false
set_option maxRecDepth 20000

section
variable {h : Hp} {L : RM} {x : DPt} {s : DS} {Q : Value → Hp → Prop}

/-- A DUAL in memory, between calls. -/
structure Live (h : Hp) (L : RM) (x : DPt) (s : DS) : Prop where
  at_ : DualAt h L x s
  ok : DGood s
theorem Live.lkl (A : Live h L x s) : s.lk.length ≤ 32 := lk_le A.at_.ul A.ok.ks
theorem Live.uo (A : Live h L x s) : ∀ p y, getM s.px p = some y → Uniq y.opn := fun p y hy => by obtain ⟨b, r, o, ov, K⟩ := A.at_.kn p y hy; exact K.uo
theorem Live.le' {h' : Hp} (A : Live h L x s) (l : Le h h') : Live h' L x s := ⟨A.at_.le' l, A.ok⟩
theorem Live.next {h' : Hp} {L' : RM} {o : Op18} {l : List Lt} {w : Value} (A : Live h L x s) (T : TQ h L x (outS (does18 s o)) l w h' L') : Live h' L' x (outS (does18 s o)) := ⟨T.at_, good_does A.at_.ul A.uo A.ok⟩

set_option maxHeartbeats 4000000 in
theorem dopM {o : Op18} (A : Live h L x s) (go : o.Good)
    (hQ : ∀ w h' L', TQ h L x (outS (does18 s o)) (does18 s o).out w h' L' → Live h' L' x (outS (does18 s o)) → Q (.tuple #[w, .int .i64 (err18 s o)]) h') :
    Ok Try.prog F_octroilaw18_Does #[ptrV x.p, Op18v o] h Q := by
  replace hQ : ∀ w h' L', TQ h L x (outS (does18 s o)) (does18 s o).out w h' L' → Q (.tuple #[w, .int .i64 (err18 s o)]) h' := fun w h' L' T => hQ w h' L' T (A.next T)
  refine octroilaw18_Does_ok (by simp) ?_
  unfold octroilaw18_Does_D
  simp (disch := omega) [octroilaw18_Does_r0]
  intro b3 hb3
  have l1 : Le h (h.upd b3 (.cells o.cells 55)) := .new hb3
  have f3 : (h.upd b3 (.cells o.cells 55)) b3 = some (.cells o.cells 55 (0, 0)) := upd_same
  show octroilaw18_Does_r1 _ (h.upd b3 (.cells o.cells 55)) _
  replace hQ : ∀ w h' L', TQ (h.upd b3 (.cells o.cells 55)) L x (outS (does18 s o)) (does18 s o).out w h' L' → Q (.tuple #[w, .int .i64 (err18 s o)]) h' := fun w h' L' T => hQ w h' L' (T.pre (.of_le l1))
  have A1 := A.at_.le' l1
  have hl := A.lkl
  have hp := A.ok.pl
  have ho := A.ok.out
  generalize h.upd b3 (.cells o.cells 55) = h1 at *
  have hp1 : o.p.1 < 2 ^ 32 := go.pa
  have ht1 : o.tg < 2 ^ 16 := go.tg
  unfold does18 err18 at hQ
  by_cases c0 : o.kd = 0
  · rw [if_pos c0, if_pos c0] at hQ
    simp (disch := omega) [octroilaw18_Does_r1, octroilaw18_Does_r2, octroilaw18_Does_r3, f3, c0]
    refine dupM (v := o.v) A1 ho (by omega) (by omega) (fun w h2 L2 T => ?_)
    simp (disch := omega) [octroilaw18_Does_r4]
    exact .to _ (.refl _) (hQ w h2 L2 T)
  by_cases c1 : o.kd = 1
  · rw [if_neg c0, if_pos c1, if_neg c0, if_pos c1] at hQ
    simp (disch := omega) [octroilaw18_Does_r1, octroilaw18_Does_r2, octroilaw18_Does_r5, octroilaw18_Does_r6, f3, c0, c1]
    refine ddownM A1 ho (by omega) (by omega) (fun w h2 L2 T => ?_)
    simp (disch := omega)
    exact .to _ (.refl _) (hQ w h2 L2 T)
  by_cases c2 : o.kd = 2
  · rw [if_neg c0, if_neg c1, if_pos c2, if_neg c0, if_neg c1, if_pos c2] at hQ
    simp (disch := omega) [octroilaw18_Does_r1, octroilaw18_Does_r2, octroilaw18_Does_r5, octroilaw18_Does_r7, octroilaw18_Does_r8, f3, c0, c1, c2]
    refine downM (p := o.p) (v := o.v) A1 ho (by omega) hp1 ht1 (fun w h2 L2 T => ?_)
    simp (disch := omega) [octroilaw18_Does_r9]
    exact .to _ (.refl _) (hQ w h2 L2 T)
  by_cases c3 : o.kd = 3
  · rw [if_neg c0, if_neg c1, if_neg c2, if_pos c3, if_neg c0, if_neg c1, if_neg c2, if_pos c3] at hQ
    simp (disch := omega) [octroilaw18_Does_r1, octroilaw18_Does_r2, octroilaw18_Does_r5, octroilaw18_Does_r7, octroilaw18_Does_r10, octroilaw18_Does_r11, f3, c0, c1, c2, c3]
    refine ddropM (p := o.p) A1 ho (by omega) (fun w h2 L2 T => ?_)
    simp (disch := omega) [octroilaw18_Does_r12]
    exact .to _ (.refl _) (hQ w h2 L2 T)
  by_cases c4 : o.kd = 4
  · rw [if_neg c0, if_neg c1, if_neg c2, if_neg c3, if_pos c4, if_neg c0, if_neg c1, if_neg c2, if_neg c3, if_pos c4] at hQ
    simp (disch := omega) [octroilaw18_Does_r1, octroilaw18_Does_r2, octroilaw18_Does_r5, octroilaw18_Does_r7, octroilaw18_Does_r10, octroilaw18_Does_r13, octroilaw18_Does_r14, f3, c0, c1, c2, c3, c4]
    refine dhearM (l := o.l) A1 ho (by omega) hp1 ht1 (fun w h2 L2 T => ?_)
    simp (disch := omega) [octroilaw18_Does_r15]
    exact .to _ (.refl _) (hQ w h2 L2 T)
  by_cases c5 : o.kd = 5
  · rw [if_neg c0, if_neg c1, if_neg c2, if_neg c3, if_neg c4, if_pos c5, if_neg c0, if_neg c1, if_neg c2, if_neg c3, if_neg c4] at hQ
    simp (disch := omega) [octroilaw18_Does_r1, octroilaw18_Does_r2, octroilaw18_Does_r5, octroilaw18_Does_r7, octroilaw18_Does_r10, octroilaw18_Does_r13, octroilaw18_Does_r16, octroilaw18_Does_r17, f3, c0, c1, c2, c3, c4, c5]
    refine dagainM A1 ho (by omega) (by omega) A.ok.oi (fun w h2 L2 T => ?_)
    simp (disch := omega)
    exact .to _ (.refl _) (hQ w h2 L2 T)
  · rw [if_neg c0, if_neg c1, if_neg c2, if_neg c3, if_neg c4, if_neg c5, if_neg c0, if_neg c1, if_neg c2, if_neg c3, if_neg c4] at hQ
    simp (disch := omega) [octroilaw18_Does_r1, octroilaw18_Does_r2, octroilaw18_Does_r5, octroilaw18_Does_r7, octroilaw18_Does_r10, octroilaw18_Does_r13, octroilaw18_Does_r16, octroilaw18_Does_r18, f3, c0, c1, c2, c3, c4, c5]
    exact .to _ (.refl _) (hQ _ _ _ (.none_ A1 ho (.refl _)))
end
end Go.Proofs.Ytpeoholnlokdcaa

/- DUAL: awake; a list of calls. -/
namespace Go.Proofs.Ytpeoholnlokdcaa
open Go
set_option linter.unusedSimpArgs false
set_option linter.unusedVariables false
set_option maxRecDepth 20000

def new18 (dom most : Int) : DS := ⟨dom, min most 64, [], [], []⟩
theorem good_new {dom most : Int} : DGood (new18 dom most) := ⟨rfl, fun p y hy => by simp [new18, getM_nil] at hy, by show min most 64 ≤ 64; omega, by simp [new18], fun k hk => by simp [new18, getM_nil] at hk⟩
theorem Live.new {h' : Hp} {L : RM} {x : DPt} {dom most : Int} (A : DualAt h' L x ⟨dom, min most 64, [], [], []⟩) : Live h' L x (new18 dom most) := ⟨A, good_new⟩

def awl : Lt := ⟨0, 1, 1, 0, (0, 0), ⟨1000, 10, 1⟩, 0⟩
def aw1 : DS := ⟨0, 10, [(2, ⟨⟨100, 20, 1⟩, 0, 0⟩)], [], []⟩
def aw2 : DS := ⟨0, 10, [(2, ⟨⟨100, 20, 1⟩, 1, 1⟩)], [((0, 0), ⟨none, [(2, ⟨⟨1000, 10, 1⟩, 0, 0⟩)], ⟨⟨100, 30, 2⟩, 0, 0⟩, 25607680, []⟩)], [⟨2, 1, 1, 0, (0, 0), ⟨100, 30, 2⟩, 0⟩]⟩
theorem aw_1 : upX (new18 0 10) 2 ⟨100, 20, 1⟩ = aw1 ∧ upErr (new18 0 10) 2 ⟨100, 20, 1⟩ = 0 := ⟨by kernel_rfl, by kernel_rfl⟩
theorem aw_2 : hearS aw1 2 awl = aw2 ∧ hearErr aw1 2 awl = 0 := ⟨by kernel_rfl, by kernel_rfl⟩
theorem aw_3 : allR (outS aw2) (pfx (outS aw2).px) = [⟨0, 0, 0, 90, 25607680, 2, 0⟩] := by kernel_rfl

theorem TQ.leN {h g g' : Hp} {L L' : RM} {x : DPt} {s' : DS} {l : List Lt} {v : Value} (T : TQ g L x s' l v g' L') (e : Le h g) (n : ∀ r y, L r = some y → h y = none) : Le h g' ∧ ∀ r y, L' r = some y → h y = none :=
  ⟨fun y o q => T.fr.keep y o (e _ _ q) (fun r q2 => by rw [n r y q2] at q; cases q), fun r y q => by
    rcases T.fr.new r y q with ⟨r', q'⟩ | q'
    · exact n r' y q'
    · exact none_of_le e q'⟩
/-- A slice of letters is none of what was there. -/
theorem TQ.nwN {h g g' : Hp} {L L' : RM} {x : DPt} {s' : DS} {l : List Lt} {v : Value} (T : TQ g L x s' l v g' L') (e : Le h g) (n : ∀ r y, L r = some y → h y = none) : ∀ b, blkOf v = some b → h b = none := fun b q => by
  rcases T.nw b q with ⟨r, q'⟩ | q'
  · exact n r b q'
  · exact none_of_le e q'

theorem lt_at {h : Hp} {v : Value} {xs : List Lt} {i : Nat} {x : Lt} (S : SlAt h T_letter 10 Lt.enc v xs) (hx : xs[i]? = some x) :
    ∃ b cap c, v = .slice (some ⟨b, 0, none⟩) xs.length cap ∧ h b = some (.cells c T_letter (0, 0)) ∧ c[i * 10]? = some (.int .i64 x.to) ∧ c[i * 10 + 1]? = some (.int .i64 x.code) ∧ c[i * 10 + 2]? = some (.int .u32 (x.seq : Nat)) ∧ c[i * 10 + 3]? = some (.int .u32 (x.ack : Nat)) ∧
      c[i * 10 + 4]? = some (.int .u32 (x.p.1 : Nat)) ∧ c[i * 10 + 5]? = some (.int .i64 x.p.2) ∧ c[i * 10 + 6]? = some (.int .i64 x.v.b) ∧ c[i * 10 + 7]? = some (.int .i64 x.v.d) ∧ c[i * 10 + 8]? = some (.int .i64 x.v.h) ∧ c[i * 10 + 9]? = some (.int .u16 (x.tg : Nat)) := by
  obtain ⟨b, cap, c, e, hb, H⟩ := SlAt.at' S hx
  exact ⟨b, cap, c, e, hb, H 0 (by omega), H 1 (by omega), H 2 (by omega), H 3 (by omega), H 4 (by omega), H 5 (by omega), H 6 (by omega), H 7 (by omega), H 8 (by omega), H 9 (by omega)⟩

theorem op18_at {h : Hp} {v : Value} {xs : List Op18} {i : Nat} {x : Op18} (A : ArgSl h 12 Op18.enc Op18.Good v xs) (hx : xs[i]? = some x) :
    x.Good ∧ ∃ b o cap c E fr, v = .slice (some ⟨b, o, none⟩) xs.length cap ∧ h b = some (.cells c E fr) ∧ c[o + i * 12]? = some (.int .i64 x.kd) ∧ c[o + i * 12 + 1]? = some (.int .i64 x.k) ∧ c[o + i * 12 + 2]? = some (.int .i64 x.to) ∧ c[o + i * 12 + 3]? = some (.int .i64 x.code) ∧
      c[o + i * 12 + 4]? = some (.int .u32 (x.seq : Nat)) ∧ c[o + i * 12 + 5]? = some (.int .u32 (x.ack : Nat)) ∧ c[o + i * 12 + 6]? = some (.int .u32 (x.pa : Nat)) ∧ c[o + i * 12 + 7]? = some (.int .i64 x.pl) ∧ c[o + i * 12 + 8]? = some (.int .i64 x.vb) ∧ c[o + i * 12 + 9]? = some (.int .i64 x.vd) ∧ c[o + i * 12 + 10]? = some (.int .i64 x.vh) ∧ c[o + i * 12 + 11]? = some (.int .u16 (x.tg : Nat)) := by
  obtain ⟨g, b, o, cap, c, E, fr, e, hb, H⟩ := A.at hx
  exact ⟨g, b, o, cap, c, E, fr, e, hb, H 0 (by omega), H 1 (by omega), H 2 (by omega), H 3 (by omega), H 4 (by omega), H 5 (by omega), H 6 (by omega), H 7 (by omega), H 8 (by omega), H 9 (by omega), H 10 (by omega), H 11 (by omega)⟩

section
variable {h : Hp} {Q : Value → Hp → Prop}
set_option maxHeartbeats 4000000 in
theorem awake18 (hQ : ∀ h', Le h h' → Q (.bool true) h') : Ok Try.prog F_octroilaw18_awake #[] h Q := by
  refine octroilaw18_awake_ok (by simp) ?_
  unfold octroilaw18_awake_D
  simp (disch := omega) [octroilaw18_awake_r0, octroilaw18_awake_r1]
  refine dnewM (fun L1 x h1 l1 n1 A1 => ?_)
  simp (disch := omega) [octroilaw18_awake_r2, octroilaw18_awake_r4]
  refine dupM (v := ⟨100, 20, 1⟩) A1 rfl (by simp) (by simp) (fun w2 h2 L2 T2 => ?_)
  rw [show (⟨0, min 10 64, [], [], []⟩ : DS) = new18 0 10 from rfl, aw_1.1] at T2
  rw [show (⟨0, min 10 64, [], [], []⟩ : DS) = new18 0 10 from rfl, aw_1.2]
  have A2 : DualAt h2 L2 x aw1 := T2.at_
  have S2 : SlAt h2 T_letter 10 Lt.enc w2 [] := T2.sl
  obtain ⟨l2, n2⟩ := T2.leN l1 n1
  obtain ⟨p2, c2, hw2⟩ := S2.shape'
  simp (disch := omega) [octroilaw18_awake_r5]
  refine dhearM (l := awl) A2 rfl (by simp [aw1]) (by decide) (by decide) (fun w3 h3 L3 T3 => ?_)
  rw [aw_2.1] at T3
  rw [aw_2.2]
  have A3 : DualAt h3 L3 x (outS aw2) := T3.at_
  have S3 : SlAt h3 T_letter 10 Lt.enc w3 [⟨2, 1, 1, 0, (0, 0), ⟨100, 30, 2⟩, 0⟩] := T3.sl
  obtain ⟨l3, n3⟩ := T3.leN l2 n2
  simp (disch := omega) [octroilaw18_awake_r6]
  refine dallM A3 (by simp [aw2, outS]) (by simp [aw2, outS]) (fun w4 h4 l4 S4 n4 => ?_)
  rw [aw_3] at S4
  obtain ⟨b3, c3, d3, ew3, hb3, t0, t1, t2, t3, t4, t5, t6, t7, t8, t9⟩ := lt_at (S3.le' l4) (i := 0) rfl
  obtain ⟨b4, c4, d4, ew4, hb4, u0, u1, u2, u3, u4, u5, u6⟩ := rt_at S4 (i := 0) rfl
  simp at t6 t7 t8 u5 t0 u0
  simp (disch := omega) [octroilaw18_awake_r7, hw2, ew3, ew4, hb3, hb4, t6, t7, t8, u5]
  exact .to _ (.refl _) (hQ _ (l3.trans l4))
end
end Go.Proofs.Ytpeoholnlokdcaa

/- DUAL: two neighbours and one prefix, in words. -/
namespace Go.Proofs.Ytpeoholnlokdcaa
open Go
set_option linter.unusedSimpArgs false
set_option linter.unusedVariables false
set_option maxRecDepth 20000

abbrev P0 : PK := (0, 0)
abbrev st2 (l2 l3 : Ln) (y : Kn) (o : List Lt) : DS := ⟨0, 10, [(2, l2), (3, l3)], [(P0, y)], o⟩
abbrev Ln.inc (l : Ln) : Ln := { l with sent := inc32 l.sent }
variable {l2 l3 : Ln} {y : Kn} {o : List Lt}
theorem nbrs2 : nbrs [(2, l2), (3, l3)] = [2, 3] := by simp [nbrs, srtI, insI]
theorem pfx1 : pfx [(P0, y)] = [P0] := by simp [pfx, insP]
theorem get2 : getM [((2 : Int), l2), (3, l3)] 2 = some l2 := by simp [getM_cons]
theorem get3 : getM [((2 : Int), l2), (3, l3)] 3 = some l3 := by simp [getM_cons]
theorem getP : getM [(P0, y)] P0 = some y := by simp [getM_cons]
theorem settle_same {p : PK} {s : DS} (hy : getM s.px p = some y) (h : y.opn ≠ [] ∨ wayS s.lk y = y.told) : settleS s p = s := by unfold settleS; rw [hy]; simp only; rw [if_pos h]
theorem settle_upd {w : Wy} (h0 : y.opn = []) (hw : wayS [(2, l2), (3, l3)] y = w) (h1 : w ≠ y.told) (h2 : ¬ ofV y.told.v < ofV w.v) :
    settleS (st2 l2 l3 y o) P0 = st2 l2.inc l3.inc { y with told := w, least := min y.least (ofV w.v) } (o ++ [⟨2, 1, inc32 l2.sent, 0, P0, w.v, w.tg⟩, ⟨3, 1, inc32 l3.sent, 0, P0, w.v, w.tg⟩]) := by
  unfold settleS
  simp only [getP, hw, nbrs2]
  rw [if_neg (fun q => q.elim (fun q => q h0) h1)]
  have hc : codeS y w = 1 := by unfold codeS; rw [if_neg h2]
  simp [hc, askS, sendS, setK, setM, getM_cons, leastS]
theorem settle_ask {w : Wy} (h0 : y.opn = []) (hw : wayS [(2, l2), (3, l3)] y = w) (h2 : ofV y.told.v < ofV w.v) :
    settleS (st2 l2 l3 y o) P0 = st2 l2.inc l3.inc { y with told := w, opn := [(2, inc32 l2.sent), (3, inc32 l3.sent)] } (o ++ [⟨2, 2, inc32 l2.sent, 0, P0, w.v, w.tg⟩, ⟨3, 2, inc32 l3.sent, 0, P0, w.v, w.tg⟩]) := by
  have h1 : w ≠ y.told := by rintro rfl; omega
  unfold settleS
  simp only [getP, hw, nbrs2]
  rw [if_neg (fun q => q.elim (fun q => q h0) h1)]
  have hc : codeS y w = 2 := by unfold codeS; rw [if_pos h2]
  simp [hc, askS, sendS, setK, setM, getM_cons, leastS, seqS, h0]
theorem settle_shape : ∃ n2 n3 w n q o', settleS (st2 l2 l3 y o) P0 = st2 { l2 with sent := n2 } { l3 with sent := n3 } { y with told := w, least := n, opn := q } o' := by
  by_cases c1 : y.opn ≠ [] ∨ wayS [(2, l2), (3, l3)] y = y.told
  · exact ⟨l2.sent, l3.sent, y.told, y.least, y.opn, o, settle_same getP c1⟩
  · have h0 : y.opn = [] := Decidable.byContradiction fun q => c1 (.inl q)
    by_cases c2 : ofV y.told.v < ofV (wayS [(2, l2), (3, l3)] y).v
    · exact ⟨_, _, _, y.least, _, _, settle_ask h0 rfl c2⟩
    · exact ⟨_, _, _, _, y.opn, _, settle_upd h0 rfl (fun q => c1 (.inr q)) c2⟩

def lt1 (code : Int) (seq ack : Nat) (v : Vec) : Lt := ⟨0, code, seq, ack, P0, v, 0⟩
theorem hasT00 {d : Int} : hasT 0 d = false := by
  unfold hasT
  cases h1 : decide (0 ≤ d) <;> cases h2 : decide (d < 16) <;> simp
theorem may00 : mayB 0 0 = true := by kernel_rfl
/-- The first that is heard, of a neighbour. -/
theorem hear_first {a : Vec} (ha : reachV a = true) (hg : l2.got = 0) : hearS ⟨0, 10, [(2, l2), (3, l3)], [], []⟩ 2 (lt1 1 1 0 a) = settleS (st2 { l2 with got := 1 } l3 { kn0 with rep := [(2, ⟨a, 0, 0⟩)] } []) P0 ∧
    hearErr ⟨0, 10, [(2, l2), (3, l3)], [], []⟩ 2 (lt1 1 1 0 a) = 0 := by
  constructor
  · unfold hearS
    rw [if_pos (by simp [hearOk, get2, lt1, may00, hg])]
    simp [gotS, get2, lt1, repS, repFine, ha, hasT00, addS, setK, setM, getM_nil, getM_cons, replyS, endS, kn0]
  · simp [hearErr, get2, lt1, may00, hg, repErr, hasT00, ha, hasS, addS, getM_nil, setK, setM, getM_cons]
/-- An update, or a reply that closes nothing. -/
theorem hear_upd2 {v : Vec} {code : Int} {seq ack : Nat} (hc1 : 1 ≤ code) (hc3 : code ≤ 3) (hc : code ≠ 2) (hg : l2.got < seq) (hr : reachV v = true) :
    hearS (st2 l2 l3 y []) 2 (lt1 code seq ack v) = settleS (if getM y.opn 2 = some ack ∧ code = 3 then st2 { l2 with got := seq } l3 (closeK { y with rep := setM 2 ⟨v, 0, 0⟩ y.rep } 2) [] else st2 { l2 with got := seq } l3 { y with rep := setM 2 ⟨v, 0, 0⟩ y.rep } []) P0 ∧
    hearErr (st2 l2 l3 y []) 2 (lt1 code seq ack v) = 0 := by
  have n1 : ¬ code < 1 := by omega
  have n3 : ¬ 3 < code := by omega
  have n2 : ¬ seq ≤ l2.got := by omega
  constructor
  · unfold hearS
    rw [if_pos (by simp [hearOk, get2, lt1, may00, hg, hc1, hc3])]
    simp [gotS, get2, lt1, repS, repFine, hr, hasT00, addS, setK, setM, getM_nil, getM_cons, replyS, endS, hc]
  · simp [hearErr, get2, lt1, may00, hg, repErr, hasT00, hr, hasS, addS, getM_nil, setK, setM, getM_cons, n1, n2, n3]
theorem hear_upd3 {v : Vec} {code : Int} {seq ack : Nat} (hc1 : 1 ≤ code) (hc3 : code ≤ 3) (hc : code ≠ 2) (hg : l3.got < seq) :
    hearS (st2 l2 l3 y []) 3 (lt1 code seq ack v) = settleS (if getM y.opn 3 = some ack ∧ code = 3 then st2 l2 { l3 with got := seq } (closeK { y with rep := if reachV v then setM 3 ⟨v, 0, 0⟩ y.rep else delM 3 y.rep } 3) [] else st2 l2 { l3 with got := seq } { y with rep := if reachV v then setM 3 ⟨v, 0, 0⟩ y.rep else delM 3 y.rep } []) P0 ∧
    hearErr (st2 l2 l3 y []) 3 (lt1 code seq ack v) = 0 := by
  have n1 : ¬ code < 1 := by omega
  have n3 : ¬ 3 < code := by omega
  have n2 : ¬ seq ≤ l3.got := by omega
  constructor
  · unfold hearS
    rw [if_pos (by simp [hearOk, get3, lt1, may00, hg, hc1, hc3])]
    cases hr : reachV v
    · simp [gotS, get3, lt1, repS, repFine, hr, hasT00, addS, setK, setM, getM_nil, getM_cons, replyS, endS, hc]
    · simp [gotS, get3, lt1, repS, repFine, hr, hasT00, addS, setK, setM, getM_nil, getM_cons, replyS, endS, hc]
  · cases hr : reachV v <;> simp [hearErr, get3, lt1, may00, hg, repErr, hasT00, hr, hasS, addS, getM_nil, setK, setM, getM_cons, n1, n2, n3]

/-- Two links come. -/
theorem up_first {v : Vec} (hv : mayV v = true) : upX (new18 0 10) 2 v = ⟨0, 10, [(2, ⟨v, 0, 0⟩)], [], []⟩ := by
  simp [upX, upOk, new18, getM_nil, hv, upS, pfx, setM]
  omega
theorem up_err {v : Vec} : upErr (new18 0 10) 2 v = if mayV v then 0 else 1 := by
  simp [upErr, upOk, new18, getM_nil]
theorem up_second {v w : Vec} (hw : mayV w = true) : upX ⟨0, 10, [(2, ⟨v, 0, 0⟩)], [], []⟩ 3 w = ⟨0, 10, [(2, ⟨v, 0, 0⟩), (3, ⟨w, 0, 0⟩)], [], []⟩ := by
  simp [upX, upOk, getM_nil, getM_cons, hw, upS, pfx, setM]
theorem up_err2 {s : DS} {k : Int} {w : Vec} (h : mayV w = false) : upErr s k w = 1 ∧ upX s k w = s := by
  simp [upErr, upX, upOk, h]
theorem up_err3 {v w : Vec} (h : mayV w = true) : upErr ⟨0, 10, [(2, ⟨v, 0, 0⟩)], [], []⟩ 3 w = 0 := by
  simp [upErr, upOk, getM_nil, getM_cons, h]

theorem reach_of {v : Vec} (h : reachV v = true) : ¬ 4294967295 ≤ ofV v := by have := ofV_bounds (v := v); have := this.2.2 h; omega
/-- Of two that may be taken. -/
theorem best_two {a b : Vec} {m : Int} (hr : y.rep = [(2, ⟨a, 0, 0⟩), (3, ⟨b, 0, 0⟩)]) (ho : y.own = none) (h1 : reachV (joinV a l2.v) = true) (h2 : reachV (joinV b l3.v) = true) (ha : ¬ m ≤ ofV a) (hb : ¬ m ≤ ofV b) :
    bestS [(2, l2), (3, l3)] y m = some (if betterV (joinV b l3.v) (joinV a l2.v) then ⟨joinV b l3.v, 0, 3⟩ else ⟨joinV a l2.v, 0, 2⟩) := by
  unfold bestS
  rw [nbrs2]
  simp only [List.foldl_cons, List.foldl_nil]
  have e1 : bstep [(2, l2), (3, l3)] y m y.own 2 = some ⟨joinV a l2.v, 0, 2⟩ := by simp [bstep, get2, hr, getM_cons, ha, takeW, candW, h1, ho]
  rw [e1]
  simp only [bstep, get3, hr, getM_cons, takeW, candW, aheadW, h2]
  simp [hb]
  cases betterV (joinV b l3.v) (joinV a l2.v) <;> simp [h2]
theorem best_one {a : Vec} {m : Int} (hr : y.rep = [(2, ⟨a, 0, 0⟩)]) (ho : y.own = none) (h1 : reachV (joinV a l2.v) = true) (ha : ¬ m ≤ ofV a) : bestS [(2, l2), (3, l3)] y m = some ⟨joinV a l2.v, 0, 2⟩ := by
  unfold bestS
  rw [nbrs2]
  simp only [List.foldl_cons, List.foldl_nil]
  have e1 : bstep [(2, l2), (3, l3)] y m y.own 2 = some ⟨joinV a l2.v, 0, 2⟩ := by simp [bstep, get2, hr, getM_cons, ha, takeW, candW, h1, ho]
  rw [e1]
  simp [bstep, get3, hr, getM_cons, getM_nil]
theorem way_one {a : Vec} (hr : y.rep = [(2, ⟨a, 0, 0⟩)]) (ho : y.own = none) (h1 : reachV (joinV a l2.v) = true) (ha : reachV a = true) : wayS [(2, l2), (3, l3)] y = ⟨joinV a l2.v, 0, 0⟩ := by
  unfold wayS
  rw [best_one hr ho h1 (reach_of ha)]; rfl
end Go.Proofs.Ytpeoholnlokdcaa

/- DUAL: what letters a call sends; what stays as long as a query is open. -/
namespace Go.Proofs.Ytpeoholnlokdcaa
open Go
set_option linter.unusedSimpArgs false
set_option linter.unusedVariables false
set_option maxRecDepth 20000

/-! ### What is sent -/
theorem send_out {s : DS} {k code : Int} {ack : Nat} {p : PK} {w : Wy} : ∃ rest, (sendS s k code ack p w).out = s.out ++ rest ∧ ∀ x ∈ rest, x.code = code ∧ x.p = p := by
  unfold sendS
  split
  · exact ⟨_, rfl, by simp⟩
  · exact ⟨[], by simp, by simp⟩
theorem ask_out' {s : DS} {k code : Int} {p : PK} {w : Wy} : ∃ rest, (askS p w code s k).out = s.out ++ rest ∧ ∀ x ∈ rest, x.code = code ∧ x.p = p := by
  unfold askS
  split
  · split
    · exact send_out
    · exact ⟨[], by simp, by simp⟩
  · exact send_out
theorem asks_out' {p : PK} {w : Wy} {code : Int} : ∀ {V : List Int} {s : DS}, ∃ rest, (V.foldl (askS p w code) s).out = s.out ++ rest ∧ ∀ x ∈ rest, x.code = code ∧ x.p = p
  | [], s => ⟨[], by simp, by simp⟩
  | k :: V, s => by
    obtain ⟨r1, h1, h2⟩ := ask_out' (s := s) (k := k) (code := code) (p := p) (w := w)
    obtain ⟨r2, h3, h4⟩ := asks_out' (p := p) (w := w) (code := code) (V := V) (s := askS p w code s k)
    refine ⟨r1 ++ r2, by rw [List.foldl_cons, h3, h1, List.append_assoc], fun x hx => ?_⟩
    rcases List.mem_append.1 hx with q | q
    · exact h2 x q
    · exact h4 x q
theorem codeS_or {y : Kn} {w : Wy} : codeS y w = 1 ∨ codeS y w = 2 := by unfold codeS; split <;> simp
theorem settle_out' {s : DS} {p : PK} : ∃ rest, (settleS s p).out = s.out ++ rest ∧ ∀ x ∈ rest, (x.code = 1 ∨ x.code = 2) ∧ x.p = p := by
  unfold settleS
  split
  · split
    · exact ⟨[], by simp, by simp⟩
    · rename_i y hy _
      obtain ⟨r, h1, h2⟩ := asks_out' (p := p) (w := wayS s.lk y) (code := codeS y (wayS s.lk y)) (V := nbrs s.lk) (s := setK s p { y with told := wayS s.lk y })
      refine ⟨r, by rw [leastS_.2.1]; exact h1, fun x hx => ⟨?_, (h2 x hx).2⟩⟩
      rw [(h2 x hx).1]; exact codeS_or
  · exact ⟨[], by simp, by simp⟩
theorem end_out {s : DS} {k : Int} {l : Lt} : ∃ rest, (endS s k l).out = s.out ++ rest ∧ ∀ x ∈ rest, (x.code = 1 ∨ x.code = 2) ∧ x.p = l.p := by
  unfold endS
  split
  · rename_i y hy
    obtain ⟨r, h1, h2⟩ := settle_out' (s := if getM y.opn k = some l.ack ∧ l.code = 3 then setK s l.p (closeK y k) else s) (p := l.p)
    refine ⟨r, ?_, h2⟩
    rw [h1]
    split <;> rfl
  · exact ⟨[], by simp, by simp⟩
theorem got_some {s : DS} {k : Int} {n : Nat} {f : Ln} (hk : getM s.lk k = some f) : getM (gotS s k n).lk k = some { f with got := n } := by
  unfold gotS; rw [hk]; simp [getM_setM]
/-- What a letter that is heard lets be sent. -/
theorem hear_out {s : DS} {k : Int} {l : Lt} (ho : s.out = []) (ok : hearOk s k l = true) : ∃ (rest : List Lt) (n : Nat) (w : Wy), (hearS s k l).out = (if l.code = 2 then [⟨k, 3, n, l.seq, l.p, w.v, w.tg⟩] else ([] : List Lt)) ++ rest ∧ ∀ x ∈ rest, (x.code = 1 ∨ x.code = 2) ∧ x.p = l.p := by
  have hS : hearS s k l = endS (replyS (repS (gotS s k l.seq) k l.p l.v l.tg) k l) k l := by unfold hearS; rw [if_pos ok]
  rw [hS]
  obtain ⟨r, h1, h2⟩ := end_out (s := replyS (repS (gotS s k l.seq) k l.p l.v l.tg) k l) (k := k) (l := l)
  have h0 : (repS (gotS s k l.seq) k l.p l.v l.tg).out = [] := by rw [repS_lk.2, got_px.2.2.1, ho]
  cases hk : getM s.lk k with
  | none => unfold hearOk at ok; rw [hk] at ok; cases ok
  | some f =>
    have hk1 : getM (repS (gotS s k l.seq) k l.p l.v l.tg).lk k = some { f with got := l.seq } := by rw [repS_lk.1]; exact got_some hk
    generalize repS (gotS s k l.seq) k l.p l.v l.tg = s1 at *
    refine ⟨r, inc32 f.sent, toldOf s1 l.p, ?_, h2⟩
    rw [h1]
    congr 1
    unfold replyS
    split
    · unfold sendS; rw [hk1]; simp [h0]
    · exact h0
theorem hear_none {s : DS} {k : Int} {l : Lt} (ok : hearOk s k l = false) : hearS s k l = s := by unfold hearS; rw [ok]; simp
theorem hear_err {s : DS} {k : Int} {l : Lt} : (hearErr s k l = 1 ∨ hearErr s k l = 5) ↔ hearOk s k l = false := by
  have hr : ∀ p v tg, repErr s p v tg ≠ 1 ∧ repErr s p v tg ≠ 5 := fun p v tg => by
    unfold repErr
    split
    · simp
    · split <;> simp
  unfold hearErr hearOk
  cases getM s.lk k with
  | none => simp
  | some f =>
    simp only
    by_cases c : l.code < 1 ∨ 3 < l.code ∨ mayB l.p.1 l.p.2 = false
    · rw [if_pos c]
      constructor
      · intro _
        rcases c with c | c | c
        · rw [decide_eq_false (by omega)]; rfl
        · rw [decide_eq_false (show ¬ l.code ≤ 3 by omega)]; simp
        · rw [c]; simp
      · intro _; exact .inl rfl
    · have c1 : 1 ≤ l.code := by omega
      have c2 : l.code ≤ 3 := by omega
      have c3 : mayB l.p.1 l.p.2 = true := by
        cases h : mayB l.p.1 l.p.2 with
        | true => rfl
        | false => exact absurd (.inr (.inr h)) c
      rw [if_neg c, c3]
      by_cases d : l.seq ≤ f.got
      · rw [if_pos d, decide_eq_false (show ¬ f.got < l.seq by omega)]; simp
      · rw [if_neg d, decide_eq_true c1, decide_eq_true c2, decide_eq_true (show f.got < l.seq by omega)]
        simp
        exact hr _ _ _

/-! ### As long as a query is open -/
def calm (o : Op18) : Prop := o.kd = 2 ∨ o.kd = 3 ∨ (o.kd = 4 ∧ o.code ≠ 3)
structure Waits (s t : DS) (p : PK) : Prop where
  q : quietOf t p = false
  l : leastOf t p = leastOf s p
  o : ∀ x ∈ t.out, x.p = p → x.code = 3
theorem Waits.of {s t : DS} {p : PK} (hq : quietOf s p = false) (h : ∀ y, getM s.px p = some y → ∃ y', getM t.px p = some y' ∧ y'.opn = y.opn ∧ y'.least = y.least) (o : ∀ x ∈ t.out, x.p = p → x.code = 3) : Waits s t p := by
  cases hy : getM s.px p with
  | none => unfold quietOf at hq; rw [hy] at hq; cases hq
  | some y =>
    obtain ⟨y', h1, h2, h3⟩ := h y hy
    refine ⟨?_, ?_, o⟩
    · unfold quietOf at *
      rw [h1]; rw [hy] at hq
      simp only at *
      rw [h2]; exact hq
    · unfold leastOf; rw [h1, hy]; exact h3
theorem quiet_opn {s : DS} {p : PK} {y : Kn} (hy : getM s.px p = some y) (hq : quietOf s p = false) : y.opn ≠ [] := by
  unfold quietOf at hq; rw [hy] at hq; simpa using hq
theorem addS_get {s : DS} {p q : PK} {y : Kn} (hy : getM s.px p = some y) : getM (addS s q).px p = some y := by
  unfold addS
  split
  · exact hy
  · rename_i hq
    split
    · rw [setK_other (by rintro rfl; rw [hq] at hy; cases hy)]; exact hy
    · exact hy
/-- One prefix is changed in what no query hangs on, and settled. -/
theorem wait_settle {s t : DS} {p q : PK} {y : Kn} (hq : quietOf s p = false) (hy : getM s.px p = some y) {y1 z : Kn} (h1 : getM t.px p = some y1) (e1 : y1.opn = y.opn) (e2 : y1.least = y.least) (ho : ∀ x ∈ t.out, x.p = p → x.code = 3) : Waits s (settleS t q) p := by
  by_cases c : p = q
  · subst c
    have hs : settleS t p = t := settle_same h1 (.inl (by rw [e1]; exact quiet_opn hy hq))
    rw [hs]
    exact .of hq (fun y' hy' => by rw [hy] at hy'; cases hy'; exact ⟨y1, h1, e1, e2⟩) ho
  · obtain ⟨r, h3, h4⟩ := settle_out' (s := t) (p := q)
    refine .of hq (fun y' hy' => by rw [hy] at hy'; cases hy'; exact ⟨y1, by rw [settle_other c]; exact h1, e1, e2⟩) (fun x hx hp => ?_)
    rw [h3] at hx
    rcases List.mem_append.1 hx with m | m
    · exact ho x m hp
    · exact absurd ((h4 x m).2.symm.trans hp).symm c
theorem wait_self {s : DS} {p : PK} (g : s.out = []) (hq : quietOf s p = false) : Waits s s p := .of hq (fun y hy => ⟨y, hy, rfl, rfl⟩) (fun x hx => by rw [g] at hx; cases hx)
theorem setK_get2 {s : DS} {p q : PK} {y z w : Kn} (hy : getM s.px p = some y) (hz : getM s.px q = some z) (e1 : w.opn = z.opn) (e2 : w.least = z.least) : ∃ y1, getM (setK s q w).px p = some y1 ∧ y1.opn = y.opn ∧ y1.least = y.least := by
  by_cases c : p = q
  · subst c; rw [hy] at hz; cases hz; exact ⟨w, setK_get, e1, e2⟩
  · exact ⟨y, by rw [setK_other c]; exact hy, rfl, rfl⟩
theorem waits_own {s : DS} {p q : PK} {v : Vec} {tg : Nat} (g : s.out = []) (hq : quietOf s p = false) : Waits s (ownS s q v tg) p := by
  unfold ownS
  split
  · split
    · rename_i z hz
      cases hy : getM s.px p with
      | none => unfold quietOf at hq; rw [hy] at hq; cases hq
      | some y =>
        obtain ⟨y1, h1, h2, h3⟩ := setK_get2 (q := q) (w := { z with own := some ⟨v, tg, 0⟩ }) (addS_get (q := q) hy) hz rfl rfl
        exact wait_settle (z := z) hq hy h1 h2 h3 (fun x hx => by rw [show (setK (addS s q) q { z with own := some ⟨v, tg, 0⟩ }).out = [] by show (addS s q).out = []; rw [addS_dom.2.2, g]] at hx; cases hx)
    · exact wait_self g hq
  · exact wait_self g hq
theorem waits_drop {s : DS} {p q : PK} (g : s.out = []) (hq : quietOf s p = false) : Waits s (dropS s q) p := by
  unfold dropS
  split
  · rename_i z hz
    split
    · exact wait_self g hq
    · cases hy : getM s.px p with
      | none => unfold quietOf at hq; rw [hy] at hq; cases hq
      | some y =>
        obtain ⟨y1, h1, h2, h3⟩ := setK_get2 (q := q) (w := { z with own := none }) hy hz rfl rfl
        exact wait_settle (z := z) hq hy h1 h2 h3 (fun x hx => by rw [show (setK s q { z with own := none }).out = [] from g] at hx; cases hx)
  · exact wait_self g hq
theorem rep_get {s : DS} {p q : PK} {y : Kn} {k : Int} {v : Vec} {tg : Nat} (hy : getM s.px p = some y) : ∃ y1, getM (repS s k q v tg).px p = some y1 ∧ y1.opn = y.opn ∧ y1.least = y.least := by
  unfold repS
  split
  · split
    · rename_i z hz
      exact setK_get2 (addS_get (q := q) hy) hz rfl rfl
    · exact ⟨y, addS_get hy, rfl, rfl⟩
  · split
    · rename_i z hz
      exact setK_get2 hy hz rfl rfl
    · exact ⟨y, hy, rfl, rfl⟩
theorem waits_hear {s : DS} {p : PK} {k : Int} {l : Lt} (g : s.out = []) (hq : quietOf s p = false) (hc : l.code ≠ 3) : Waits s (hearS s k l) p := by
  unfold hearS
  split
  · cases hy : getM s.px p with
    | none => unfold quietOf at hq; rw [hy] at hq; cases hq
    | some y =>
      have hy0 : getM (gotS s k l.seq).px p = some y := by rw [got_px.1]; exact hy
      obtain ⟨y1, h1, h2, h3⟩ := rep_get (q := l.p) (k := k) (v := l.v) (tg := l.tg) hy0
      have h0 : (repS (gotS s k l.seq) k l.p l.v l.tg).out = [] := by rw [repS_lk.2, got_px.2.2.1, g]
      generalize repS (gotS s k l.seq) k l.p l.v l.tg = s1 at *
      have h4 : getM (replyS s1 k l).px p = some y1 := by
        unfold replyS; split
        · rw [sendS_px]; exact h1
        · exact h1
      have h5 : ∀ x ∈ (replyS s1 k l).out, x.p = p → x.code = 3 := by
        unfold replyS
        split
        · obtain ⟨r, e1, e2⟩ := send_out (s := s1) (k := k) (code := 3) (ack := l.seq) (p := l.p) (w := toldOf s1 l.p)
          rw [e1, h0]
          intro x hx _
          exact (e2 x (by simpa using hx)).1
        · rw [h0]; simp
      unfold endS
      split
      · rename_i z hz
        rw [if_neg (fun q => hc q.2)]
        exact wait_settle (z := z) hq hy h4 h2 h3 h5
      · exact .of hq (fun y' hy' => by rw [hy] at hy'; cases hy'; exact ⟨y1, h4, h2, h3⟩) h5
  · exact wait_self g hq
theorem waits_does {s : DS} {p : PK} {o : Op18} (g : s.out = []) (hq : quietOf s p = false) (c : calm o) : Waits s (does18 s o) p := by
  unfold does18
  rcases c with c | c | ⟨c, d⟩
  · rw [if_neg (by omega), if_neg (by omega), if_pos c]; exact waits_own g hq
  · rw [if_neg (by omega), if_neg (by omega), if_neg (by omega), if_pos c]; exact waits_drop g hq
  · rw [if_neg (by omega), if_neg (by omega), if_neg (by omega), if_neg (by omega), if_pos c]; exact waits_hear g hq d
end Go.Proofs.Ytpeoholnlokdcaa
