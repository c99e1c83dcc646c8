/- Timers of the document's answer: Due, Same; that they are the program's. -/
import Derived.Test.YtncnlfidncjmbaaRows
import Derived.Test.YtncnlfidncjmbaaZ4

namespace Go.Proofs.Ytncnlfidncjmbaa
open Go
set_option linter.unusedSimpArgs false
set_option linter.unusedVariables false

def upto (now : Int) : Tm → Bool := fun e => decide (e.2 ≤ now)

theorem tw_take {α : Type} {p : α → Bool} : ∀ (L : List α), L.takeWhile p = L.take (L.takeWhile p).length ∧ L.dropWhile p = L.drop (L.takeWhile p).length
  | [] => ⟨rfl, rfl⟩
  | x :: xs => by
    cases h : p x with
    | true => simp only [List.takeWhile_cons, List.dropWhile_cons, h, if_true, List.length_cons, List.take_succ_cons, List.drop_succ_cons]; exact ⟨by rw [← (tw_take xs).1], (tw_take xs).2⟩
    | false => simp [List.takeWhile_cons, List.dropWhile_cons, h]

theorem tw_next {α : Type} {p : α → Bool} : ∀ (L : List α) (i : Nat), i ≤ (L.takeWhile p).length → (i < (L.takeWhile p).length ↔ ∃ x, L[i]? = some x ∧ p x = true)
  | [], i, h => by simp
  | x :: xs, 0, h => by cases hp : p x <;> simp [List.takeWhile_cons, hp]
  | x :: xs, i + 1, h => by
    cases hp : p x with
    | true =>
      simp only [List.takeWhile_cons, hp, if_true, List.length_cons] at h ⊢
      have := tw_next (p := p) xs i (by omega)
      simp only [List.getElem?_cons_succ]
      rw [← this]; omega
    | false => simp [List.takeWhile_cons, hp] at h

theorem tenc_good {L : TL} : ∀ y ∈ L, (tenc y).length = 2 ∧ ∀ u ∈ tenc y, oneCell u = true := fun y _ => ⟨rfl, by simp [tenc]⟩

def RdInv (h0 : Hp) (q : Nat) (L : TL) (now : Int) (n : Nat) (env : Env) (g : Hp) : Prop :=
  ∃ i : Nat, g = h0 ∧ i + n = (L.takeWhile (upto now)).length ∧ env 0 = .pointer (some ⟨q, 0, none⟩) ∧ env 1 = .int .i64 now ∧ env 5 = .int .i64 (i : Nat)

theorem rdueM {h : Hp} {q : Nat} {v : Value} {L : TL} {now : Int} {Q : Value → Hp → Prop} (M : RfM h q v L) (hl : L.length ≤ 1000000)
    (hQ : ∀ w v' h', RfG h h' q v v' → RfM h' q v' (L.dropWhile (upto now)) → SlAt h' T_api_Timer 2 tenc w (L.takeWhile (upto now)) → Q w h') : Ok Try.prog F_octroiref10_Timers_Due #[.pointer (some ⟨q, 0, none⟩), .int .i64 now] h Q := by
  refine octroiref10_Timers_Due_ok (by simp) ?_
  unfold octroiref10_Timers_Due_D
  simp (disch := omega) [octroiref10_Timers_Due_r0, octroiref10_Timers_Due_r1]
  refine ⟨RdInv h q L now, ⟨(L.takeWhile (upto now)).length, 0, rfl, by omega, by simp, by simp, by simp⟩, ?_⟩
  rintro n env g ⟨i, rfl, hin, e0, e1, e5⟩
  unfold octroiref10_Timers_Due_L0
  have hq := M.pt
  have hnx := tw_next (p := upto now) L i (by omega)
  obtain ⟨ap, acap, hv⟩ := M.sl.shape'
  by_cases hm : n = 0
  · have hi : i = (L.takeWhile (upto now)).length := by omega
    have hno : ¬ ∃ x, L[i]? = some x ∧ upto now x = true := by rw [← hnx]; omega
    have hil : i ≤ L.length := by rw [hi]; exact (List.takeWhile_sublist _).length_le
    have last : ∀ env : Env, env 0 = .pointer (some ⟨q, 0, none⟩) → env 5 = .int .i64 (i : Nat) → octroiref10_Timers_Due_r4 env g (thenK (sq (rg octroiref10_Timers_Due_r5) (sq (rg octroiref10_Timers_Due_r6) (ex .ret))) (fin Try.prog [.tmp 4] Q) .normal) := by
      intro env e0 e5
      obtain ⟨w1, hw1, S1⟩ := M.sl.to_rr und_27 size_37 tenc_good hil
      obtain ⟨w2, hw2, S2⟩ := M.sl.from_rr und_27 size_37 tenc_good hil
      simp (disch := omega) [octroiref10_Timers_Due_r4, e0, e5, hq, hw1]
      refine cat_api_Timer (xs := []) (.inl ⟨rfl, rfl⟩) S1 (by simp; omega) (fun o1 g1 T1 G1 => ?_)
      have lg1 : Le g g1 := fun x o e => G1.keep x o e (by simp [blkOf])
      have hq1 := lg1 _ _ hq
      have f1 : ∀ b, blkOf o1 = some b → g b = none := fun b e => by
        rcases G1.fresh with q1 | q1
        · rw [q1] at e; cases e
        · exact q1 b e
      simp (disch := omega) [octroiref10_Timers_Due_r5, e0, e5, hq1, hw2]
      have S2' : Src g1 2 tenc w2 (L.drop i) := by
        refine ⟨S2.1, ?_⟩
        rcases S2.2 with q1 | ⟨b, o, cap, c, E, fr, q1, q2, q3⟩
        · exact .inl q1
        · exact .inr ⟨b, o, cap, c, E, fr, q1, lg1 _ _ q2, q3⟩
      refine cat_api_Timer (xs := []) (.inl ⟨rfl, rfl⟩) S2' (by simp; omega) (fun o2 g2 T2 G2 => ?_)
      have lg2 : Le g1 g2 := fun x o e => G2.keep x o e (by simp [blkOf])
      have f2 : ∀ b, blkOf o2 = some b → g1 b = none := fun b e => by
        rcases G2.fresh with q1 | q1
        · rw [q1] at e; cases e
        · exact q1 b e
      have hq2 := lg2 _ _ hq1
      rw [List.nil_append] at T1 T2
      obtain ⟨p2, c2, ho2⟩ := T2.shape'
      rw [List.length_drop] at ho2
      simp (disch := omega) [octroiref10_Timers_Due_r6, e0, e5, hq2, ho2]
      rw [← ho2]
      have n2 : blkOf o2 ≠ some q := fun e => by have := f2 q e; rw [hq1] at this; cases this
      have n1 : ∀ b, blkOf o1 = some b → b ≠ q := fun b e e2 => by subst e2; have := f1 _ e; rw [hq] at this; cases this
      have tt := tw_take (p := upto now) L
      rw [← hi] at tt
      refine .to _ (.refl _) (hQ o1 o2 _ ⟨fun x o e n => by rw [upd_ne n]; exact lg2 _ _ (lg1 _ _ e), fun b e => .inr (none_of_le lg1 (f2 b e))⟩ ⟨upd_same, ?_, n2⟩ ?_)
      · rw [tt.2]
        exact SlAt.keep T2 (fun b o e e2 => by rw [upd_ne (by rintro rfl; exact n2 e)]; exact e2)
      · rw [tt.1]
        exact SlAt.keep T1 (fun b o e e2 => by rw [upd_ne (n1 b e)]; exact lg2 _ _ e2)
    by_cases hil2 : i < L.length
    · obtain ⟨x, hx⟩ : ∃ x, L[i]? = some x := ⟨_, List.getElem?_eq_getElem hil2⟩
      have hxn : ¬ x.2 ≤ now := fun q1 => hno ⟨x, hx, by simpa [upto] using q1⟩
      obtain ⟨b, cap, c, hv', hb, c0, c1⟩ := tm_at M.sl hx
      simp (disch := omega) [octroiref10_Timers_Due_r2, e0, e1, e5, hq, hv', hb, c0, c1, hil2, hxn]
      refine last _ ?_ ?_ <;> simp [e0, e5]
    · simp (disch := omega) [octroiref10_Timers_Due_r2, e0, e1, e5, hq, hv, hil2]
      refine last _ ?_ ?_ <;> simp [e0, e5]
  · obtain ⟨x, hx, hxn⟩ := hnx.1 (by omega)
    have hxn' : x.2 ≤ now := by simpa [upto] using hxn
    have hil2 : i < L.length := (List.getElem?_eq_some_iff.1 hx).1
    obtain ⟨b, cap, c, hv', hb, c0, c1⟩ := tm_at M.sl hx
    simp (disch := omega) [octroiref10_Timers_Due_r2, octroiref10_Timers_Due_r3, e0, e1, e5, hq, hv', hb, c0, c1, hil2, hxn', wrap_i64]
    exact ⟨n - 1, by omega, i + 1, rfl, by omega, by simp [e0], by simp [e1], by simp⟩

def SmInv (h0 : Hp) (v w : Value) (a b : TL) (n : Nat) (env : Env) (g : Hp) : Prop :=
  ∃ i : Nat, g = h0 ∧ i + n = a.length ∧ a.take i = b.take i ∧ env 0 = v ∧ env 1 = w ∧ env 5 = .int .i64 (i : Nat)

theorem rsameM {h : Hp} {v w : Value} {a b : TL} {Q : Value → Hp → Prop} (A : SlAt h T_api_Timer 2 tenc v a) (B : SlAt h T_api_Timer 2 tenc w b) (hl : a.length ≤ 1000000)
    (hQ : Q (.bool (decide (a = b))) h) : Ok Try.prog F_octroiref10_Same #[v, w] h Q := by
  refine octroiref10_Same_ok (by simp) ?_
  unfold octroiref10_Same_D
  obtain ⟨ap, acap, hv⟩ := A.shape'
  obtain ⟨bp, bcap, hw⟩ := B.shape'
  by_cases he : a.length = b.length
  · have he' : (a.length : Int) = (b.length : Int) := by omega
    simp (disch := omega) [octroiref10_Same_r0, octroiref10_Same_r1, octroiref10_Same_r3, hv, hw, he']
    refine ⟨SmInv h v w a b, ⟨a.length, 0, rfl, by omega, rfl, by simp [hv, he], by simp [hw], by simp⟩, ?_⟩
    rintro n env g ⟨i, rfl, hin, ht, e0, e1, e5⟩
    unfold octroiref10_Same_L0
    by_cases hm : n = 0
    · have hi : i = a.length := by omega
      have hab : a = b := by rw [hi, List.take_of_length_le (Nat.le_refl _), he, List.take_of_length_le (Nat.le_refl _)] at ht; exact ht
      simp (disch := omega) [octroiref10_Same_r4, octroiref10_Same_r8, e0, e1, e5, hv, hi]
      rw [decide_eq_true hab] at hQ
      exact .to _ (.refl _) hQ
    · obtain ⟨x, hx⟩ : ∃ x, a[i]? = some x := ⟨_, List.getElem?_eq_getElem (by omega)⟩
      obtain ⟨y, hy⟩ : ∃ y, b[i]? = some y := ⟨_, List.getElem?_eq_getElem (by omega)⟩
      obtain ⟨b1, cap1, d1, hv1, hb1, c0, c1⟩ := tm_at A hx
      obtain ⟨b2, cap2, d2, hv2, hb2, q0, q1⟩ := tm_at B hy
      have hi1 : i < a.length := by omega
      have hi2 : i < b.length := by omega
      by_cases hxy : x = y
      · subst hxy
        simp (disch := omega) [octroiref10_Same_r4, octroiref10_Same_r5, octroiref10_Same_r7, e0, e1, e5, hv1, hv2, hb1, hb2, c0, c1, q0, q1, hi1, hi2, wrap_i64]
        exact ⟨n - 1, by omega, i + 1, rfl, by omega, by rw [take_snoc hx, take_snoc hy, ht], by simp [e0, hv1], by simp [e1, hv2], by simp⟩
      · have hab : ¬ a = b := by rintro rfl; rw [hx] at hy; simp at hy; exact hxy hy
        rw [decide_eq_false hab] at hQ
        have hne : ¬ (x.1 = y.1 ∧ x.2 = y.2) := fun q => hxy (Prod.ext q.1 q.2)
        by_cases h1 : x.1 = y.1
        · have h2 : ¬ x.2 = y.2 := fun q => hne ⟨h1, q⟩
          simp (disch := omega) [octroiref10_Same_r4, octroiref10_Same_r5, octroiref10_Same_r6, e0, e1, e5, hv1, hv2, hb1, hb2, c0, c1, q0, q1, hi1, hi2, h1, h2]
          exact .to _ (.refl _) hQ
        · simp (disch := omega) [octroiref10_Same_r4, octroiref10_Same_r5, octroiref10_Same_r6, e0, e1, e5, hv1, hv2, hb1, hb2, c0, c1, q0, q1, hi1, hi2, h1]
          exact .to _ (.refl _) hQ
  · have he' : ¬ (a.length : Int) = (b.length : Int) := by omega
    have hab : ¬ a = b := by rintro rfl; exact he rfl
    rw [decide_eq_false hab] at hQ
    simp (disch := omega) [octroiref10_Same_r0, octroiref10_Same_r1, octroiref10_Same_r2, hv, hw, he']
    exact .to _ (.refl _) hQ

/-! ### Alike -/
def RT (m L : TL) : Prop := L.Perm m ∧ SrtT L

theorem insT_srt {x : Tm} : ∀ {L : TL}, SrtT L → SrtT (insT x L)
  | [], _ => by simp [insT, SrtT]
  | y :: ys, s => by
    unfold SrtT at s
    rw [List.pairwise_cons] at s
    by_cases h : y.2 > x.2 ∨ (y.2 = x.2 ∧ y.1 > x.1)
    · rw [insT_pos h]
      unfold SrtT
      rw [List.pairwise_cons, List.pairwise_cons]
      refine ⟨fun z hz => ?_, s⟩
      rcases List.mem_cons.1 hz with q | q
      · subst q; unfold tlt; omega
      · have := s.1 z q; unfold tlt at *; omega
    · rw [insT_neg h]
      unfold SrtT
      rw [List.pairwise_cons]
      refine ⟨fun z hz => ?_, insT_srt s.2⟩
      rcases List.mem_cons.1 (insT_perm.mem_iff.1 hz) with q | q
      · subst q; unfold tlt; omega
      · exact s.1 z q

theorem delM_filter {m : TL} {a : Int} (u : Uniq m) : delM a m = m.filter fun e => decide (e.1 ≠ a) := by
  have := foldl_del u [(a, 0)]
  simpa using this

theorem setM_perm {a v : Int} : ∀ {m : TL}, Uniq m → (setM a v m).Perm ((a, v) :: delM a m)
  | [], _ => .refl _
  | x :: xs, u => by
    have u' : Uniq xs := by unfold Uniq at *; rw [List.map_cons, List.nodup_cons] at u; exact u.2
    simp only [setM, delM]
    split
    · exact .refl _
    · exact ((setM_perm u').cons x).trans (.swap _ _ _)

section
variable {m L : TL} {id t now : Int}

theorem RT.stop (R : RT m L) (u : Uniq m) : stopT m id = rstopE L id ∧ RT (stopTM m id) (rstop L id) := by
  have p : (rstop L id).Perm (delM id m) := by rw [delM_filter u]; exact R.1.filter _
  refine ⟨?_, p, List.Pairwise.sublist List.filter_sublist R.2⟩
  unfold stopT rstopE
  rw [p.length_eq, R.1.length_eq, delM_length]
  cases hg : getM m id with
  | none => simp
  | some x =>
    have : 0 < m.length := List.length_pos_of_mem (getM_mem hg)
    have h2 : ¬ m.length - 1 = m.length := by omega
    simp [h2]

theorem RT.set (R : RT m L) (u : Uniq m) : setT m id t = rsetE L id t ∧ RT (setTM m id t) (rset L id t) := by
  have S := R.stop (id := id) u
  by_cases g : t < 0 ∨ 1099511627776 < t
  · rw [(setT_arg g).1, (setT_arg g).2]
    unfold rsetE rset
    rw [if_pos g, if_pos g]
    exact ⟨rfl, R⟩
  · have hE : rstopE L id ≠ 0 ↔ getM m id = none := by
      rw [← S.1]; unfold stopT; split <;> simp_all
    have hl := R.1.length_eq
    unfold rsetE rset
    rw [if_neg g, if_neg g]
    by_cases g2 : getM m id = none ∧ 256 ≤ m.length
    · rw [(setT_full g g2).1, (setT_full g g2).2, if_pos ⟨hE.2 g2.1, by omega⟩, if_pos ⟨hE.2 g2.1, by omega⟩]
      exact ⟨rfl, R⟩
    · have g3 : ¬ (rstopE L id ≠ 0 ∧ 256 ≤ L.length) := fun q => g2 ⟨hE.1 q.1, by omega⟩
      rw [(setT_ok g g2).1, (setT_ok g g2).2, if_neg g3, if_neg g3]
      exact ⟨rfl, insT_perm.trans ((S.2.1.cons _).trans (setM_perm u).symm), insT_srt S.2.2⟩

theorem srt_tw : ∀ {L : TL}, SrtT L → L.takeWhile (upto now) = L.filter (upto now) ∧ L.dropWhile (upto now) = L.filter fun e => !upto now e
  | [], _ => ⟨rfl, rfl⟩
  | x :: xs, s => by
    unfold SrtT at s
    rw [List.pairwise_cons] at s
    have ih := srt_tw (L := xs) s.2
    cases h : upto now x with
    | true => simp [List.takeWhile_cons, List.dropWhile_cons, List.filter_cons, h, ih]
    | false =>
      have hall : ∀ y ∈ xs, upto now y = false := fun y hy => by
        have := s.1 y hy
        unfold upto tlt at *
        simp at h ⊢; omega
      have e1 : xs.filter (upto now) = [] := List.filter_eq_nil_iff.2 (fun y hy => by rw [hall y hy]; simp)
      have e2 : xs.filter (fun e => !upto now e) = xs := List.filter_eq_self.2 (fun y hy => by rw [hall y hy]; rfl)
      simp [List.takeWhile_cons, List.dropWhile_cons, List.filter_cons, h, e1, e2]

theorem RT.due (R : RT m L) {d : TL} (hp : d.Perm (dueL m now)) (hs : SrtT d) : d = L.takeWhile (upto now) ∧ RT (leftL m now) (L.dropWhile (upto now)) := by
  have e := srt_tw (now := now) R.2
  rw [e.1, e.2]
  refine ⟨srt_unique hs (List.Pairwise.sublist List.filter_sublist R.2) (hp.trans (R.1.filter _).symm), ?_, List.Pairwise.sublist List.filter_sublist R.2⟩
  have : leftL m now = m.filter fun e => !upto now e := by unfold leftL; exact List.filter_congr fun x _ => by simp only [upto, decide_not]
  rw [this]
  exact R.1.filter _

theorem RT.next (R : RT m L) {n : Int} {b : Bool} (N : nextT m n b) : b = decide (0 < L.length) ∧ ∀ x, L[0]? = some x → n = x.2 := by
  obtain ⟨h1, h2⟩ := N
  have hl := R.1.length_eq
  refine ⟨by rw [h1, decide_eq_decide, hl, List.length_pos_iff], fun x hx => ?_⟩
  have hxm : x ∈ m := R.1.mem_iff.1 (List.mem_of_getElem? hx)
  obtain ⟨⟨e, he, q⟩, h3⟩ := h2 (List.ne_nil_of_mem hxm)
  have h4 := h3 x hxm
  have heL : e ∈ L := R.1.mem_iff.2 he
  cases L with
  | nil => cases heL
  | cons y ys =>
    simp at hx
    subst hx
    rcases List.mem_cons.1 heL with q2 | q2
    · rw [← q2, q]
    · have := (List.pairwise_cons.1 R.2).1 e q2
      unfold tlt at this; omega
end
end Go.Proofs.Ytncnlfidncjmbaa

/- Timers answer any calls as the document says. -/
namespace Go.Proofs.Ytncnlfidncjmbaa
open Go
set_option linter.unusedSimpArgs false
set_option linter.unusedVariables false

def DoInv (h0 : Hp) (p r q : Nat) (lv : Value) (l : List OpT) (n : Nat) (env : Env) (g : Hp) : Prop :=
  ∃ (i : Nat) (m L : TL) (sv : Value), i + n = l.length ∧ TmM g p r m ∧ RfM g q sv L ∧ RT m L ∧ Le h0 g ∧ (∀ b, blkOf sv = some b → b ≠ p ∧ b ≠ r ∧ h0 b = none) ∧
    env 0 = lv ∧ env 4 = .pointer (some ⟨p, 0, none⟩) ∧ env 5 = .pointer (some ⟨q, 0, none⟩) ∧ env 6 = .int .i64 (i : Nat)

theorem RfM.fr {h h' : Hp} {q p r : Nat} {v : Value} {L : TL} (M : RfM h q v L) (F : Fr h h' [p, r] [p, r]) (n1 : q ≠ p) (n2 : q ≠ r) (d : ∀ b, blkOf v = some b → b ≠ p ∧ b ≠ r) : RfM h' q v L := by
  refine ⟨F.keep _ _ M.pt (by simp [n1, n2]), M.sl.keep (fun b o e e2 => F.keep _ _ e2 (by have := d b e; simp [this.1, this.2])), M.ne⟩

theorem TmM.rf {h h' : Hp} {p r q : Nat} {m : TL} {v v' : Value} (M : TmM h p r m) (G : RfG h h' q v v') (n1 : q ≠ p) (n2 : q ≠ r) : TmM h' p r m := by
  obtain ⟨es, cl, e, H⟩ := M.mp
  exact ⟨G.keep _ _ M.pt n1.symm, ⟨es, cl, G.keep _ _ e n2.symm, H⟩, M.un, M.le, M.bd⟩

theorem RfG.le {g h h' : Hp} {q : Nat} {v v' : Value} (G : RfG h h' q v v') (l : Le g h) (n : g q = none) : Le g h' := fun x o e => G.keep x o (l x o e) (by rintro rfl; rw [n] at e; cases e)

theorem RfG.dis {g h h' : Hp} {q p r : Nat} {m : TL} {v v' : Value} (G : RfG h h' q v v') (M : TmM h p r m) (l : Le g h) (d : ∀ b, blkOf v = some b → b ≠ p ∧ b ≠ r ∧ g b = none) : ∀ b, blkOf v' = some b → b ≠ p ∧ b ≠ r ∧ g b = none := fun b e => by
  rcases G.fresh b e with q1 | q1
  · exact d b q1
  · refine ⟨?_, ?_, none_of_le l q1⟩
    · rintro rfl; have := M.pt; rw [q1] at this; cases this
    · rintro rfl; obtain ⟨o, e2⟩ := M.mp.alive; rw [q1] at e2; cases e2

set_option maxHeartbeats 400000 in
set_option maxRecDepth 20000 in
theorem TimersDo_walk {h : Hp} {lv : Value} {l : List OpT} (A : ArgSl h 3 OpT.enc (fun _ => True) lv l) :
    Ok Try.prog F_octroilaw10_TimersDo #[lv] h (fun v g => v = .bool true ∧ Le h g) := by
  refine octroilaw10_TimersDo_ok (by simp) ?_
  unfold octroilaw10_TimersDo_D
  simp (disch := omega) [octroilaw10_TimersDo_r0, octroilaw10_TimersDo_r1]
  refine awakeT (fun h0 l0 => ?_)
  simp (disch := omega) [octroilaw10_TimersDo_r2]
  refine tnewM (fun p r h1 l1 n1 n2 M1 => ?_)
  replace l1 := l0.trans l1
  replace n1 := none_of_le l0 n1
  replace n2 := none_of_le l0 n2
  obtain ⟨ap, acap, hlv⟩ := A.shape
  by_cases g1 : 400 < (l.length : Int)
  · simp (disch := omega) [octroilaw10_TimersDo_r3, octroilaw10_TimersDo_r4, hlv, g1]
    exact .to _ (.refl _) ⟨rfl, l1⟩
  simp (disch := omega) [octroilaw10_TimersDo_r3, octroilaw10_TimersDo_r5, hlv, g1]
  intro q hq
  have lq : Le h1 (h1.upd q (.cells #[.slice none 0 0] 45)) := .new hq
  have nq := none_of_le l1 hq
  have qp : q ≠ p := by rintro rfl; have := M1.pt; rw [hq] at this; cases this
  have qr : q ≠ r := by rintro rfl; obtain ⟨o, e⟩ := M1.mp.alive; rw [hq] at e; cases e
  simp (disch := omega) [octroilaw10_TimersDo_r6]
  refine ⟨DoInv h p r q lv l, ⟨l.length, 0, [], [], .slice none 0 0, by omega, M1.to lq, ⟨upd_same, .inl ⟨rfl, rfl⟩, by simp [blkOf]⟩, ⟨.refl _, .nil⟩, l1.trans lq, by simp [blkOf], by simp [hlv], by simp, by simp, by simp⟩, ?_⟩
  rintro n env g ⟨i, m, L, sv, hin, M, R, T, lg, ds, e0, e4, e5, e6⟩
  unfold octroilaw10_TimersDo_L0
  by_cases hm : n = 0
  · have : i = l.length := by omega
    subst this
    simp (disch := omega) [octroilaw10_TimersDo_r7, octroilaw10_TimersDo_r20, e0, e4, e5, e6, hlv]
    exact .to _ (.refl _) ⟨rfl, lg⟩
  · obtain ⟨x, hx⟩ : ∃ x, l[i]? = some x := ⟨_, List.getElem?_eq_getElem (by omega)⟩
    obtain ⟨b, o, cap, c, E, fr, hv, hb, q0, q1, q2⟩ := opT_at A hx
    have hi' : i < l.length := by omega
    have hLl : L.length ≤ 256 := by rw [T.1.length_eq]; exact M.le
    have last : ∀ (env : Env) (g : Hp) (m L : TL) (sv : Value), TmM g p r m → RfM g q sv L → RT m L → Le h g → (∀ b, blkOf sv = some b → b ≠ p ∧ b ≠ r ∧ h b = none) →
        env 0 = lv → env 4 = .pointer (some ⟨p, 0, none⟩) → env 5 = .pointer (some ⟨q, 0, none⟩) → env 6 = .int .i64 (i : Nat) → env 7 = .bool true →
        octroilaw10_TimersDo_r16 env g (thenK (sq (rg octroilaw10_TimersDo_r17) (cnd (.tmp 142) (sq (rg octroilaw10_TimersDo_r18) (ex .ret)) (ex .normal))) (inBlk 1 (thenK (rg octroilaw10_TimersDo_r19) (roundK (DoInv h p r q lv l) n (inBlk 0 (thenK (sq (rg octroilaw10_TimersDo_r20) (ex .ret)) (fin Try.prog [.tmp 2] fun v g => v = .bool true ∧ Le h g)))))) .normal) := by
      intro env g m L sv M R T lg ds e0 e4 e5 e6 e7
      simp (disch := omega) [octroilaw10_TimersDo_r16, e4]
      refine tnextM M (fun g2 nx is l2 N => ?_)
      have hN := T.next N
      have M2 := M.to l2
      have R2 : RfM g2 q sv L := ⟨l2 _ _ R.pt, R.sl.le' l2, R.ne⟩
      obtain ⟨sp, scap, hsv⟩ := R2.sl.shape'
      have hqq := R2.pt
      have hml : (m.length : Int) = (L.length : Int) := by rw [T.1.length_eq]
      simp (disch := omega) [octroilaw10_TimersDo_r17, e4, e5, e7, hqq, hsv]
      refine tlenM M2 ?_
      rw [hN.1]
      have fin : ∀ env : Env, env 0 = lv → env 4 = .pointer (some ⟨p, 0, none⟩) → env 5 = .pointer (some ⟨q, 0, none⟩) → env 6 = .int .i64 (i : Nat) →
          octroilaw10_TimersDo_r19 env g2 (roundK (DoInv h p r q lv l) n (inBlk 0 (thenK (sq (rg octroilaw10_TimersDo_r20) (ex .ret)) (fin Try.prog [.tmp 2] fun v g => v = .bool true ∧ Le h g))) .normal) := by
        intro env e0 e4 e5 e6
        simp (disch := omega) [octroilaw10_TimersDo_r19, e6, wrap_i64]
        exact ⟨n - 1, by omega, i + 1, m, L, sv, by omega, M2, R2, T, lg.trans l2, ds, by simp [e0], by simp [e4], by simp [e5], by simp⟩
      by_cases hL : L.length = 0
      · have hL2 : ¬ 0 < L.length := by omega
        simp (disch := omega) [e4, e5, e6, hqq, hsv, hml, hL, hL2]
        refine fin _ ?_ ?_ ?_ ?_ <;> simp [e0, e4, e5, e6]
      · have hL2 : 0 < L.length := by omega
        obtain ⟨y, hy⟩ : ∃ y, L[0]? = some y := ⟨_, List.getElem?_eq_getElem hL2⟩
        obtain ⟨b2, cap2, c2, hsv2, hb2, p0, p1⟩ := tm_at R2.sl hy
        rw [hsv] at hsv2
        simp only [Value.slice.injEq, true_and] at hsv2
        obtain ⟨rfl, rfl⟩ := hsv2
        simp at p0 p1
        have hnx := hN.2 y hy
        simp (disch := omega) [e4, e5, e6, hqq, hsv, hml, hL2, hb2, p0, p1, hnx]
        refine fin _ ?_ ?_ ?_ ?_ <;> simp [e0, e4, e5, e6]
    have hbg := lg _ _ hb
    by_cases k0 : x.k = 0
    · simp (disch := omega) [octroilaw10_TimersDo_r7, octroilaw10_TimersDo_r8, octroilaw10_TimersDo_r9, octroilaw10_TimersDo_r10, octroilaw10_TimersDo_r11, e0, e4, e5, e6, hv, hbg, q0, q1, q2, hi', k0]
      have hs := T.set (id := x.id) (t := x.t) M.un
      refine tsetM M (fun g2 F2 M2 => ?_)
      have l2 := F2.leN lg n1 n2
      have R2 := R.fr F2 qp qr (fun b e => ⟨(ds b e).1, (ds b e).2.1⟩)
      have hb2 := l2 _ _ hb
      simp (disch := omega) [e0, e4, e5, e6, hb2, q1, q2]
      refine rsetM R2 (by omega) (fun v' g3 G3 R3 => ?_)
      rw [hs.1]
      simp (disch := omega)
      refine last _ g3 _ _ v' (M2.rf G3 qp qr) R3 hs.2 (G3.le l2 nq) (G3.dis M2 l2 ds) ?_ ?_ ?_ ?_ ?_ <;> simp [e0, e4, e5, e6, hv]
    by_cases k1 : x.k = 1
    · simp (disch := omega) [octroilaw10_TimersDo_r7, octroilaw10_TimersDo_r8, octroilaw10_TimersDo_r9, octroilaw10_TimersDo_r10, octroilaw10_TimersDo_r12, octroilaw10_TimersDo_r13, e0, e4, e5, e6, hv, hbg, q0, q1, q2, hi', k0, k1]
      have hs := T.stop (id := x.id) M.un
      refine tstopM M (fun g2 F2 M2 => ?_)
      have l2 := F2.leN lg n1 n2
      have R2 := R.fr F2 qp qr (fun b e => ⟨(ds b e).1, (ds b e).2.1⟩)
      have hb2 := l2 _ _ hb
      simp (disch := omega) [e0, e4, e5, e6, hb2, q1, q2]
      refine rstopM R2 (by omega) (fun v' g3 G3 R3 => ?_)
      rw [hs.1]
      simp (disch := omega)
      refine last _ g3 _ _ v' (M2.rf G3 qp qr) R3 hs.2 (G3.le l2 nq) (G3.dis M2 l2 ds) ?_ ?_ ?_ ?_ ?_ <;> simp [e0, e4, e5, e6, hv]
    by_cases k2 : x.k = 2
    · simp (disch := omega) [octroilaw10_TimersDo_r7, octroilaw10_TimersDo_r8, octroilaw10_TimersDo_r9, octroilaw10_TimersDo_r10, octroilaw10_TimersDo_r12, octroilaw10_TimersDo_r14, octroilaw10_TimersDo_r15, e0, e4, e5, e6, hv, hbg, q0, q1, q2, hi', k0, k1, k2]
      refine tdueM M (fun dv d g2 F2 M2 S hp hs nv => ?_)
      have hs2 := T.due hp hs
      have l2 := F2.leN lg n1 n2
      have R2 := R.fr F2 qp qr (fun b e => ⟨(ds b e).1, (ds b e).2.1⟩)
      have hb2 := l2 _ _ hb
      simp (disch := omega) [e0, e4, e5, e6, hb2, q1, q2]
      refine rdueM R2 (by omega) (fun w v' g3 G3 R3 S3 => ?_)
      have nvq : ∀ b, blkOf dv = some b → b ≠ q := fun b e => by rintro rfl; have := (nv b e).1; rw [R.pt] at this; cases this
      have S' : SlAt g3 T_api_Timer 2 tenc dv d := S.keep (fun b o e e2 => G3.keep _ _ e2 (nvq b e))
      have hdl : d.length ≤ 1000000 := by rw [hs2.1]; have := (List.takeWhile_sublist (l := L) (upto x.t)).length_le; omega
      simp (disch := omega)
      refine rsameM S' S3 hdl ?_
      rw [decide_eq_true hs2.1]
      simp (disch := omega)
      refine last _ g3 _ _ v' (M2.rf G3 qp qr) R3 hs2.2 (G3.le l2 nq) (G3.dis M2 l2 ds) ?_ ?_ ?_ ?_ ?_ <;> simp [e0, e4, e5, e6, hv]
    · simp (disch := omega) [octroilaw10_TimersDo_r7, octroilaw10_TimersDo_r8, octroilaw10_TimersDo_r9, octroilaw10_TimersDo_r10, octroilaw10_TimersDo_r12, octroilaw10_TimersDo_r14, e0, e4, e5, e6, hv, hbg, q0, q1, q2, hi', k0, k1, k2]
      rw [← hv]
      refine last _ g _ _ sv M R T lg ds ?_ ?_ ?_ ?_ ?_ <;> simp [e0, e4, e5, e6, hv]
end Go.Proofs.Ytncnlfidncjmbaa

/- TimersDo: timers answer any calls as the document says: the row. No condition. -/
namespace Go.Proofs.Ytncnlfidncjmbaa.TimersDo_row
open Go Go.ChangeShapes Go.WideShapes Go.RowKit
theorem own_knob : ownKnob Try.prog.godebug = none := by kernel_rfl
theorem laid_out : laidOutB Try.prog = true := by kernel_rfl
set_option maxRecDepth 100000 in
theorem lifted (os : Os) (started : os.Started) (H : Type) (enc : TypeId × Value → H) :
    ReturnsInHanded {} Try.checked os 7 .any (Rows.timersDoSpec.pre6 enc Try.prog Try.f7 Rows.timersDoRow.domain false) (Rows.timersDoSpec.post enc Try.prog Try.f7 false true false false) := by
  refine returnsInHanded_of_change_sized (C := Try.checked) own_knob started (by kernel_rfl) Try.func7
    (ChangeSpec.witness6 (enc := enc) (C := Try.checked) false ⟨#[], #[.slice none 0 0], []⟩ 8 (by kernel_rfl) (by kernel_rfl) (by kernel_rfl) (by kernel_rfl)) ?_
  intro W base args ds gs before hval hW hcnd hsz _
  have hW' := hW
  obtain ⟨p, q, hA, hV, rfl, hfz, hnd⟩ := hW
  obtain ⟨rfl, rfl⟩ := trodVars_none hV
  have hA' : DataW.TrodAll enc Try.prog W 0 (fun _ => true) true Try.f7.params.toList args.toList ds p := hA
  have hval' : ∀ (j : Nat) t v, Try.f7.params[j]? = some t → args[j]? = some v → Value.okWide Try.prog W .any base t v := hval
  rw [Try.params7] at hA' hval'
  obtain ⟨v0, vs0, d0, ds0, p0, q0, hargs, rfl, rfl, h0, r0⟩ := trodAll_cons hA'
  obtain ⟨rfl, rfl, rfl⟩ := trodAll_nil r0
  obtain rfl : args = #[v0] := by cases args; simp_all
  obtain ⟨xs0, A0⟩ := open_argSl (ks := opKsT) (sz := 3) 4 Try.underlying31 (by kernel_rfl) (by kernel_rfl) (by decide) dec_opT (hval' 0 _ v0 rfl rfl) h0
  refine (below_of (TimersDo_walk A0)).mono fun e W' ⟨he, bel⟩ => ?_
  subst he
  exact ⟨_, rfl, _, _, _, [], _, [], hW', trodAll_mk1 (shut_bool (by kernel_rfl) _), trodAll_below laid_out bel (by kernel_rfl) hA, rfl, bel.frame _, fun h => by cases h⟩
theorem over : Rows.timersDoRow.holds Try.pinned (OpenSpec.ofChange Rows.timersDoSpec) :=
  OpenClaim.holds_of_wide 7 Try.f7 rfl rfl rfl rfl rfl rfl rfl ⟨rfl, rfl, rfl, rfl, rfl⟩ rfl rfl rfl rfl rfl (by kernel_rfl) Try.func7 (by kernel_rfl)
    (of_decide_eq_true (by kernel_rfl)) (by unfold Func.isWrapper; first | (rw [if_pos (by decide +kernel)]; kernel_rfl) | (rw [if_neg (by decide +kernel)]; exact ⟨rfl, rfl⟩))
    (fun os started H enc _ => lifted os started H enc)
end Go.Proofs.Ytncnlfidncjmbaa.TimersDo_row
namespace Go.Proofs.Ytncnlfidncjmbaa
theorem timersDo_holds : Rows.TimersDoSaid := TimersDo_row.over
#print axioms timersDo_holds
end Go.Proofs.Ytncnlfidncjmbaa
