/- The journal's Crash. -/
import Derived.Test.YtjcecdjbllpmcaaRows
import Derived.Test.YtjcecdjbllpmcaaZ4

set_option linter.unusedSimpArgs false
set_option linter.unusedVariables false

namespace Go.Proofs.Ytjcecdjbllpmcaa
open Go
set_option linter.unusedSimpArgs false

def crN (kp : Nat) (L : List F3) (keep : Int) : Nat := kp + (keep.toNat % (12 * (L.length - kp) + 1)) / 12

theorem crN_le {kp : Nat} {L : List F3} {keep : Int} (h : kp ≤ L.length) : crN kp L keep ≤ L.length ∧ kp ≤ crN kp L keep := by
  unfold crN
  have := Nat.mod_lt keep.toNat (y := 12 * (L.length - kp) + 1) (by omega)
  omega

theorem fbs_take : ∀ (L : List F3) (n : Nat), (fbs L).take (12 * n) = fbs (L.take n)
  | [], n => by simp [fbs]
  | f :: L, 0 => by simp [fbs]
  | f :: L, n + 1 => by
    have e : fbs (f :: L) = fb f.1 f.2.1 f.2.2 ++ fbs L := by simp [fbs]
    rw [e, List.take_append, fb_length, List.take_of_length_le (by rw [fb_length]; omega), List.take_succ_cons, show 12 * (n + 1) - 12 = 12 * n by omega, fbs_take L n]
    simp [fbs]

theorem fbs_get : ∀ {L : List F3} {i : Nat} {f : F3} {j x : Nat}, L[i]? = some f → (fb f.1 f.2.1 f.2.2)[j]? = some x → (fbs L)[12 * i + j]? = some x
  | [], i, f, j, x, h, _ => by simp at h
  | g :: L, 0, f, j, x, h, h2 => by
    simp at h; subst h
    have e : fbs (g :: L) = fb g.1 g.2.1 g.2.2 ++ fbs L := by simp [fbs]
    have hj : j < 12 := (List.getElem?_eq_some_iff.1 h2).1
    rw [e, List.getElem?_append_left (by rw [fb_length]; omega)]
    simpa using h2
  | g :: L, i + 1, f, j, x, h, h2 => by
    have e : fbs (g :: L) = fb g.1 g.2.1 g.2.2 ++ fbs L := by simp [fbs]
    rw [e, List.getElem?_append_right (by rw [fb_length]; omega), fb_length, show 12 * (i + 1) + j - 12 = 12 * i + j by omega]
    exact fbs_get (by simpa using h) h2

theorem dev_to {h : Hp} {vd : Value} {bs : List Nat} {i : Nat} {z : Int} (S : SlAt h 5 1 be vd bs) (hz : z = (i : Nat)) (hi : i ≤ bs.length) :
    ∃ vd', rrun Try.prog (Instr.sliceAt 34 vd none (some (.int .i64 z)) none) noHp = some vd' ∧ SlAt h 5 1 be vd' (bs.take i) ∧ blkOf vd' = blkOf vd := by
  subst hz
  rcases S with ⟨rfl, rfl⟩ | ⟨b, cap, c, rfl, hb, h1, h2, h3⟩
  · have : i = 0 := by simpa using hi
    subst this
    exact ⟨_, sl_nil_34, .inl ⟨rfl, by simp⟩, rfl⟩
  · exact ⟨_, sl_to_34 (by omega) (by omega), SlAt.take (.inr ⟨b, cap, c, rfl, hb, h1, h2, h3⟩) _ hi, rfl⟩

section
variable {h : Hp} {j kp : Nat} {room : Int} {L : List F3} {O : List Nat} {Q : Value → Hp → Prop}

def CrInv (h0 : Hp) (j mr : Nat) (vd : Value) (room : Int) (kp : Nat) (L : List F3) (m : Nat) (env : Env) (g : Hp) : Prop :=
  ∃ i, i + m = L.length ∧ env 0 = .pointer (some ⟨j, 0, none⟩) ∧ env 4 = .int .i64 (12 * i : Nat) ∧ JAt g j room (12 * kp : Nat) vd (fbs L) mr (lastOf (L.take i)) ∧ Fr h0 g [mr] [mr]

set_option maxRecDepth 20000 in
theorem crStep {h0 : Hp} {mr m : Nat} {vd : Value} {env : Env} {g : Hp} {Q : Value → Hp → Prop} (I : CrInv h0 j mr vd room kp L m env g) (ho : ∀ f ∈ L, okF f) (hk : kp ≤ L.length) (hl : L.length ≤ 10000) (I' : Nat → Env → Hp → Prop)
    (hI : ∀ k env g, CrInv h0 j mr vd room kp L k env g → I' k env g)
    (hQ : ∀ g, JM g j room L.length L (j :: mr :: (blkOf vd).toList) → Fr h0 g (j :: mr :: (blkOf vd).toList) (j :: mr :: (blkOf vd).toList) → Q (.tuple #[]) g) :
    journal_Journal_Crash_S0_at0 (jumpK (fun l env h => l = 0 ∧ ∃ k, k < m ∧ I' k env h) (fin Try.prog [] Q)) env g := by
  obtain ⟨i, him, e0, e4, J, F⟩ := I
  unfold journal_Journal_Crash_S0_at0
  have hj := J.j
  have hlen := fbs_length L
  obtain ⟨p, cap, hv⟩ := J.d.shape'
  rw [hlen] at hv
  have F' : Fr h0 g (j :: mr :: (blkOf vd).toList) (j :: mr :: (blkOf vd).toList) := ⟨fun x o e n => F.keep x o e (fun q => n (by simp only [List.mem_cons, List.not_mem_nil, or_false] at q; simp [q])), fun _ e => .inl e⟩
  cases m with
  | zero =>
    have : i = L.length := by omega
    subst this
    rw [List.take_of_length_le (Nat.le_refl _)] at J
    have M : JM g j room kp L (j :: mr :: (blkOf vd).toList) := ⟨vd, mr, _, J, .refl _, rfl, hk, ho⟩
    rw [hv] at hj
    simp (disch := omega) [journal_Journal_Crash_r4, journal_Journal_Crash_r8, e0, e4, hj]
    refine jsyncM M hl (fun g' F2 M2 => ?_)
    simp (disch := omega)
    exact .to _ (.refl _) (hQ _ M2 (F'.trans F2))
  | succ m =>
    obtain ⟨f, hf⟩ : ∃ f, L[i]? = some f := ⟨_, List.getElem?_eq_getElem (by omega)⟩
    have hof := ho f (List.mem_of_getElem? hf)
    obtain ⟨hjm, hjd⟩ := J.ne
    have lt : i < L.length := by omega
    have D := J.d
    rcases D with ⟨rfl, hnil⟩ | ⟨b, cap', c, rfl, hb, h1, h2, h3⟩
    · simp only [Value.slice.injEq] at hv; omega
    rw [hlen] at hj h1
    have sl : rrun Try.prog (Instr.sliceAt 34 (.slice (some ⟨b, 0, none⟩) (12 * L.length) cap') (some (.int .i64 (12 * (i : Int)))) none none) noHp = some (.slice (some ⟨b, 12 * i, none⟩) (12 * L.length - 12 * i) (cap' - 12 * i)) := by
      rw [rr_slice_from und_34 size_5 (by omega) (by omega) (by omega)]
      simp only [Nat.zero_add, Nat.mul_one, show (12 * (i : Int)).toNat = 12 * i by omega]
    simp (disch := omega) [journal_Journal_Crash_r4, e0, e4, hj, lt]
    simp (disch := omega) [journal_Journal_Crash_r5, e0, e4, hj, sl]
    refine jgetf_spec (o := 12 * i) (len := 12 * L.length - 12 * i) (cap := cap' - 12 * i) hb hof (fun a x e => ?_) (by omega) (by omega) (by omega) (fun g1 l1 => ?_)
    · have := h3 (12 * i + a) x (fbs_get hf e) 0 (by omega)
      simpa [be] using this
    have hj1 := l1 _ _ hj
    obtain ⟨es, cl, em, hE⟩ := J.m
    have em1 := l1 _ _ em
    have hb1 := l1 _ _ hb
    obtain ⟨k, key, nn⟩ := f
    unfold fe
    simp (disch := omega)
    intro bx hbx
    have nj : j ≠ bx := ne_new hj1 hbx
    have nm : mr ≠ bx := ne_new em1 hbx
    have nb : b ≠ bx := ne_new hb1 hbx
    simp (disch := omega) [journal_Journal_Crash_r6, e0, hj1, nj]
    refine mu_50 (m := lastOf (L.take i)) ⟨es, cl, by simp [nm]; exact em1, hE⟩ (fun o2 H2 => ?_)
    simp (disch := omega) [journal_Journal_Crash_r7, e4, wrap_i64]
    refine ⟨m, by omega, hI _ _ _ ⟨i + 1, by omega, by simp [e0], by simp; omega, ⟨?_, ?_, ?_⟩, F.trans ⟨fun x o e n => ?_, fun _ e => .inl e⟩⟩⟩
    · have q1 : j ≠ mr := Ne.symm hjm
      have q2 : j ≠ bx := nj
      rw [upd_ne q1, upd_ne q2, hlen]; exact hj1
    · have q1 : b ≠ mr := (hjd b rfl).2
      refine SlAt.keep (.inr ⟨b, cap', c, by rw [hlen], hb1, by rw [hlen]; exact h1, h2, h3⟩) (fun x o e e2 => ?_)
      cases e
      rw [upd_ne q1, upd_ne nb]; exact e2
    · have tk : L.take (i + 1) = L.take i ++ [(k, key, nn)] := by rw [List.take_add_one, hf]; rfl
      rw [tk, lastOf_append]
      exact H2.keep (by rw [upd_same, upd_same])
    · have q1 : x ≠ mr := by rintro rfl; exact n (by simp)
      have q2 : x ≠ bx := ne_new (l1 _ _ e) hbx
      rw [upd_ne q1, upd_ne q2]; exact l1 _ _ e

set_option maxRecDepth 20000 in
theorem jcrashM {keep : Int} (M : JM h j room kp L O) (hl : L.length ≤ 10000) (hQ : ∀ h' O', Fr h h' O O' → JM h' j room (crN kp L keep) (L.take (crN kp L keep)) O' → Q (.tuple #[]) h') :
    Ok Try.prog F_journal_Journal_Crash #[.pointer (some ⟨j, 0, none⟩), .int .i64 keep] h Q := by
  obtain ⟨vd, mr, m, J, pm, rfl, hk, ho⟩ := M
  obtain ⟨hn1, hn2⟩ := crN_le (keep := keep) hk
  refine journal_Journal_Crash_ok (by simp) ?_
  unfold journal_Journal_Crash_D
  refine scp_one (r := fun env h K => journal_Journal_Crash_r0 env h fun env h => journal_Journal_Crash_r1 env h fun env h => journal_Journal_Crash_r2 env h fun env h => journal_Journal_Crash_r3 env h K) journal_Journal_Crash_S0_lab0 (by unfold journal_Journal_Crash_S0; rw [sq_rg, sq_rg, sq_rg]; rfl) ?_ ?_ ?_
  · exact fun m env g => ∃ vd' mr' h0, mr' ∉ j :: (blkOf vd').toList ∧ Fr h h0 (j :: mr :: (blkOf vd).toList) (j :: mr' :: (blkOf vd').toList) ∧ CrInv h0 j mr' vd' room kp (L.take (crN kp L keep)) m env g
  · intro K hK
    obtain ⟨hjm, hjd⟩ := J.ne
    have hj := J.j
    have hlen := fbs_length L
    obtain ⟨p, cap, hv⟩ := J.d.shape'
    obtain ⟨kb, hkb⟩ : ∃ kb, kb = 12 * kp := ⟨_, rfl⟩
    obtain ⟨nb, hnb⟩ : ∃ nb, nb = (fbs L).length := ⟨_, rfl⟩
    obtain ⟨q, hq⟩ : ∃ q, q = keep.toNat % (12 * (L.length - kp) + 1) := ⟨_, rfl⟩
    have hq2 : q < 12 * (L.length - kp) + 1 := by rw [hq]; exact Nat.mod_lt _ (by omega)
    have ht : (max keep 0).tmod ((nb : Int) - (kb : Int) + 1) = (q : Nat) := by
      rw [show max keep 0 = ((keep.toNat : Nat) : Int) by omega, show (nb : Int) - (kb : Int) + 1 = ((12 * (L.length - kp) + 1 : Nat) : Int) by omega, hq]
      rfl
    obtain ⟨vd1, sl1, S1, b1⟩ := dev_to (i := kb + q) (z := (kb : Int) + (q : Int)) J.d (by omega) (by omega)
    rw [hv, ← hnb] at sl1
    rw [hv, ← hkb, ← hnb] at hj
    have d0 : (nb : Int) - (kb : Int) + 1 ≠ 0 := by omega
    obtain ⟨p1, cap1, hv1⟩ := S1.shape'
    have hl1 : ((fbs L).take (kb + q)).length = kb + q := by rw [List.length_take]; omega
    rw [hl1] at hv1
    have hc : crN kp L keep = (kb + q) / 12 := by unfold crN; rw [← hq]; omega
    simp (disch := omega) [journal_Journal_Crash_r0, hj, wrap_i64, ht, d0, sl1]
    rw [hv1]
    obtain ⟨n, hn⟩ : ∃ n, n = crN kp L keep := ⟨_, rfl⟩
    rw [← hn] at hc
    have hd : ((kb : Int) + (q : Int)).tdiv 12 = (n : Nat) := by rw [hc, show (kb : Int) + (q : Int) = ((kb + q : Nat) : Int) by omega]; rfl
    obtain ⟨vd2, sl2, S2, b2⟩ := dev_to (i := 12 * n) (z := (n : Int) * 12) S1 (by omega) (by omega)
    rw [hv1] at sl2
    obtain ⟨p2, cap2, hv2⟩ := S2.shape'
    have hn12 : n ≤ L.length := by omega
    have hs2 : ((fbs L).take (kb + q)).take (12 * n) = fbs (L.take n) := by rw [List.take_take, Nat.min_eq_left (by omega), fbs_take]
    rw [hs2] at S2 hv2
    rw [fbs_length, List.length_take, Nat.min_eq_left hn12] at hv2
    simp (disch := omega) [journal_Journal_Crash_r1, hj, wrap_i64, hd, sl2]
    rw [hv2]
    simp (disch := omega) [journal_Journal_Crash_r2, hj]
    refine arun_makeMapB (kenc := nke) (venc := nve) (fun b hb MB => ?_)
    have hb2 := hb
    rw [setCell_def, upd_same] at hb2
    simp only [upd_upd] at hb2
    obtain ⟨nj, hb'⟩ := upd_none hb2
    simp (disch := omega) [journal_Journal_Crash_r3, hj, nj, Ne.symm nj]
    refine hK n _ _ ?_
    rw [← hn]
    have nvd : ∀ x, blkOf vd = some x → x ≠ b := fun x e q => by obtain ⟨o, e2⟩ := J.d.alive e; rw [q, hb'] at e2; cases e2
    have hjd2 : ∀ x, blkOf vd2 = some x → x ≠ j ∧ x ≠ b := fun x e => ⟨(hjd x (by rw [← b1, ← b2]; exact e)).1, nvd x (by rw [← b1, ← b2]; exact e)⟩
    refine ⟨vd2, b, _, ?_, ⟨fun x o e nx => ?_, fun x e => ?_⟩, 0, by rw [List.length_take]; omega, by simp, by simp, ⟨?_, ?_, MB.keep (by rw [upd_ne nj, upd_same, upd_same])⟩, .refl _ _⟩
    · simp only [List.mem_cons, not_or, Option.mem_toList]
      exact ⟨nj, fun e => (hjd2 _ e).2 rfl⟩
    · simp only [List.mem_cons, not_or] at nx
      have nb2 : x ≠ b := by rintro rfl; rw [hb'] at e; cases e
      rw [upd_ne nx.1, upd_ne nb2, upd_ne nx.1]; exact e
    · simp only [List.mem_cons, Option.mem_toList] at e ⊢
      rcases e with e | e | e
      · exact .inl (.inl e)
      · exact .inr (by rw [e]; exact hb')
      · exact .inl (.inr (.inr (by rw [← b1, ← b2]; exact e)))
    · rw [upd_same, hv2, hkb]
    · exact S2.keep (fun x o e e2 => by rw [upd_ne (hjd2 x e).1, upd_ne (hjd2 x e).2, upd_ne (hjd2 x e).1]; exact e2)
  · rintro m env g ⟨vd', mr', h0, hm, F, I⟩
    refine crStep I (fun f hf => ho f (List.mem_of_mem_take hf)) (by rw [List.length_take]; omega) (by rw [List.length_take]; omega) _ (fun k env g I => ⟨vd', mr', h0, hm, F, I⟩) (fun g M F2 => ?_)
    rw [show (L.take (crN kp L keep)).length = crN kp L keep by rw [List.length_take]; omega] at M
    exact hQ _ _ (F.trans F2) M
end
end Go.Proofs.Ytjcecdjbllpmcaa

/- The chapter's example is as the document says. -/
namespace Go.Proofs.Ytjcecdjbllpmcaa
open Go
set_option linter.unusedSimpArgs false

theorem aw1 : putJ 10 [] (1, 5, 7) = (0, [(1, 5, 7)]) := by decide +kernel
theorem aw2 : putJ 10 [(1, 5, 7)] (1, 5, 9) = (0, [(1, 5, 7), (1, 5, 9)]) := by decide +kernel
theorem aw3 : crN 1 [(1, 5, 7), (1, 5, 9)] 11 = 1 := by decide +kernel
theorem aw4 : getM (lastOf [(1, 5, 7)]) (1, 5) = some 7 := by decide +kernel

theorem fe_def (a : Int) (b c : Nat) : fe (a, b, c) = .agg #[.int .i64 a, .int .u32 (b : Nat), .int .u32 (c : Nat)] := rfl

set_option maxRecDepth 20000 in
theorem awake_spec {h : Hp} {Q : Value → Hp → Prop} (hQ : ∀ h', Le h h' → Q (.bool true) h') : Ok Try.prog F_octroilaw12_awake #[] h Q := by
  refine octroilaw12_awake_ok (by simp) ?_
  unfold octroilaw12_awake_D
  simp (disch := omega) [octroilaw12_awake_r0, octroilaw12_awake_r1]
  refine jnewM (fun j h1 O1 l1 n1 M1 => ?_)
  simp (disch := omega) [octroilaw12_awake_r2, octroilaw12_awake_r4]
  refine jputM (f := (1, 5, 7)) M1 (by simp) (by simp) (by simp) (fun h2 O2 F2 M2 => ?_)
  have l2 := F2.le l1 n1
  have n2 := F2.new l1 n1
  rw [aw1] at M2 ⊢
  simp (disch := omega) [octroilaw12_awake_r5]
  refine jsyncM M2 (by simp) (fun h3 F3 M3 => ?_)
  have l3 := F3.le l2 n2
  have n3 := F3.new l2 n2
  simp (disch := omega) [octroilaw12_awake_r6]
  refine jputM (f := (1, 5, 9)) M3 (by simp) (by simp) (by simp) (fun h4 O4 F4 M4 => ?_)
  have l4 := F4.le l3 n3
  have n4 := F4.new l3 n3
  rw [aw2] at M4 ⊢
  simp (disch := omega) [octroilaw12_awake_r7]
  refine jcrashM (kp := 1) M4 (by simp) (fun h5 O5 F5 M5 => ?_)
  have l5 := F5.le l4 n4
  simp only [] at M5
  rw [aw3] at M5
  simp (disch := omega) [octroilaw12_awake_r8]
  refine jgetM (k := 1) (key := 5) M5 ?_
  rw [show List.take 1 [((1 : Int), 5, 7), (1, 5, 9)] = [(1, 5, 7)] from rfl, aw4]
  simp (disch := omega) [octroilaw12_awake_r9]
  refine jlenM M5 (by simp) ?_
  simp (disch := omega)
  exact .to _ (.refl _) (hQ _ l5)
end Go.Proofs.Ytjcecdjbllpmcaa

/- JournalLast: what was put last is what is known: the walk. -/
namespace Go.Proofs.Ytjcecdjbllpmcaa
open Go
set_option linter.unusedSimpArgs false
set_option linter.unusedVariables false

def fc (f : F3) : List Value := [.int .i64 f.1, .int .u32 (f.2.1 : Nat), .int .u32 (f.2.2 : Nat)]
def fGood (f : F3) : Prop := f.2.1 < 2 ^ 32 ∧ f.2.2 < 2 ^ 32
def argFs (h : Hp) (v : Value) (xs : List F3) : Prop := ArgSl h 3 fc fGood v xs

theorem argFs.get {h : Hp} {v : Value} {xs : List F3} {i : Nat} {x : F3} (A : argFs h v xs) (hx : xs[i]? = some x) :
    fGood x ∧ ∃ b o cap c E fr, v = .slice (some ⟨b, o, none⟩) xs.length cap ∧ h b = some (.cells c E fr) ∧ c[o + i * 3]? = some (.int .i64 x.1) ∧ c[o + i * 3 + 1]? = some (.int .u32 (x.2.1 : Nat)) ∧ c[o + i * 3 + 2]? = some (.int .u32 (x.2.2 : Nat)) := by
  obtain ⟨hg, b, o, cap, c, E, fr, e, hb, he⟩ := ArgSl.at A hx
  exact ⟨hg, b, o, cap, c, E, fr, e, hb, he 0 (by omega), he 1 (by omega), he 2 (by omega)⟩

def putsJ (room : Int) (L : List F3) (xs : List F3) : List F3 := xs.foldl (fun L f => (putJ room L f).2) L

theorem putsJ_snoc {room : Int} {L xs : List F3} {x : F3} : putsJ room L (xs ++ [x]) = (putJ room (putsJ room L xs) x).2 := by simp [putsJ]

theorem putJ_length (room : Int) (L : List F3) (f : F3) : (putJ room L f).2.length ≤ L.length + 1 := by
  unfold putJ
  split
  · simp
  · split <;> simp

theorem putsJ_length (room : Int) : ∀ (xs L : List F3), (putsJ room L xs).length ≤ L.length + xs.length
  | [], L => by simp [putsJ]
  | x :: xs, L => by
    have h1 := putsJ_length room xs (putJ room L x).2
    have h2 := putJ_length room L x
    have e : putsJ room L (x :: xs) = putsJ room (putJ room L x).2 xs := rfl
    rw [e, List.length_cons]; omega

theorem take_succ_of {α : Type} {xs : List α} {i : Nat} {x : α} (h : xs[i]? = some x) : xs.take (i + 1) = xs.take i ++ [x] := by rw [List.take_add_one, h]; rfl

/-- A journal of one's own, behind an older heap. -/
structure JOwn (h0 g : Hp) (j : Nat) (room : Int) (kp : Nat) (L : List F3) (O : List Nat) : Prop where
  m : JM g j room kp L O
  le : Le h0 g
  new : ∀ x, x ∈ O → h0 x = none

theorem JOwn.fr {h0 g g' : Hp} {j : Nat} {room : Int} {kp kp' : Nat} {L L' : List F3} {O O' : List Nat} (A : JOwn h0 g j room kp L O) (F : Fr g g' O O') (M : JM g' j room kp' L' O') : JOwn h0 g' j room kp' L' O' :=
  ⟨M, F.le A.le A.new, F.new A.le A.new⟩

theorem last_none {L : List F3} {q : Int × Nat} (h : ∀ f ∈ L, (f.1, f.2.1) ≠ q) : getM (lastOf L) q = none := by
  have key : ∀ (L : List F3) (m : List ((Int × Nat) × Nat)), getM m q = none → (∀ f ∈ L, (f.1, f.2.1) ≠ q) → getM (L.foldl stF m) q = none := by
    intro L
    induction L with
    | nil => intro m h _; exact h
    | cons f L ih =>
      intro m h hne
      refine ih _ ?_ (fun g hg => hne g (List.mem_cons_of_mem _ hg))
      unfold stF
      rw [getM_setM, if_neg (fun e => hne f (List.mem_cons_self ..) e.symm)]; exact h
  exact key L [] rfl h

theorem getM_last {L : List F3} {f : F3} {q : Int × Nat} : getM (lastOf (L ++ [f])) q = if q = (f.1, f.2.1) then some f.2.2 else getM (lastOf L) q := by
  rw [lastOf_append]; unfold stF; rw [getM_setM]

def LastInv (h0 : Hp) (v : Value) (xs : List F3) (kind : Int) (key b : Nat) (m : Nat) (env : Env) (g : Hp) : Prop :=
  ∃ j O i, env 0 = v ∧ env 2 = .int .i64 kind ∧ env 3 = .int .u32 key ∧ env 5 = .pointer (some ⟨b, 0, none⟩) ∧ env 10 = .pointer (some ⟨j, 0, none⟩) ∧ env 11 = .int .i64 (i : Nat) ∧ i + m = xs.length ∧ i ≤ xs.length ∧
    JOwn h0 g j 1000 0 (putsJ 1000 [] (xs.take i)) O

set_option maxHeartbeats 2000000 in
set_option maxRecDepth 20000 in
theorem last_loop {h h0 : Hp} {v : Value} {xs : List F3} {p : Option Addr} {cap b : Nat} {kind fk : Int} {key fkey fn : Nat} (A0 : argFs h0 v xs) (hv : v = .slice p xs.length cap) (hbig : ¬ (150 : Int) < (xs.length : Int))
    (h5 : h0 b = some (.cells #[.int .i64 fk, .int .u32 fkey, .int .u32 fn] 25)) (hf1 : fkey < 2 ^ 32) (hf2 : fn < 2 ^ 32) (hpq : (kind, key) ≠ (fk, fkey)) (heq : ¬ (kind = fk ∧ key = fkey)) (L0 : Le h h0) :
    ∀ m env g, LastInv h0 v xs kind key b m env g → octroilaw12_JournalLast_L0 (roundK (LastInv h0 v xs kind key b) m (inBlk 0 (thenK (sq (rg octroilaw12_JournalLast_r9) (sq (rg octroilaw12_JournalLast_r10) (sq (rg octroilaw12_JournalLast_r11) (sq (rg octroilaw12_JournalLast_r12) (sq (rg octroilaw12_JournalLast_r13) (ex .ret))))))
      (fin Try.prog [ResultVar.tmp 8] (fun r g => r = .bool true ∧ Le h g))))) env g := by
  rintro m env g ⟨j, O, i, e0, e2, e3, e5, e10, e11, him, hi, J⟩
  have h5' := J.le _ _ h5
  have hl := putsJ_length 1000 (xs.take i) []
  rw [List.length_take, Nat.min_eq_left hi] at hl
  simp only [List.length_nil] at hl
  unfold octroilaw12_JournalLast_L0
  by_cases hm : m = 0
  · have hin : i = xs.length := by omega
    subst hin
    simp only [List.take_length] at J hl
    generalize putsJ 1000 [] xs = L at *
    simp (disch := omega) [octroilaw12_JournalLast_r6, octroilaw12_JournalLast_r9, e0, e2, e3, e5, e10, e11, hv]
    refine jgetM J.m ?_
    simp (disch := omega) [octroilaw12_JournalLast_r10, e0, e2, e3, e5, e10, e11, h5']
    refine jputM (f := (fk, fkey, fn)) J.m (by omega) hf1 hf2 (fun g1 O1 F1 M1 => ?_)
    have J1 := J.fr F1 M1
    have h51 := J1.le _ _ h5
    have ho : ∀ f ∈ L, okF f := by obtain ⟨_, _, _, _, _, _, _, ho⟩ := J.m; exact ho
    simp (disch := omega) [octroilaw12_JournalLast_r11, e0, e2, e3, e5, e10, e11, h51]
    refine jgetM J1.m ?_
    simp (disch := omega) [octroilaw12_JournalLast_r12, e0, e2, e3, e5, e10, e11, h51]
    refine jgetM J1.m ?_
    by_cases hr : fk < 0 ∨ 255 < fk
    · have e : putJ 1000 L (fk, fkey, fn) = (1, L) := by unfold putJ; rw [if_pos hr]
      have q : getM (lastOf L) (fk, fkey) = none := last_none (fun f m e => by have := ho f m; unfold okF at this; simp only [Prod.mk.injEq] at e; omega)
      simp (disch := omega) [octroilaw12_JournalLast_r13, e0, e2, e3, e5, e10, e11, h51, e, q]
      exact .to _ (.refl _) ⟨rfl, L0.trans J1.le⟩
    · have e : putJ 1000 L (fk, fkey, fn) = (0, L ++ [(fk, fkey, fn)]) := by unfold putJ; rw [if_neg hr, if_neg (by omega)]
      simp (disch := omega) [octroilaw12_JournalLast_r13, e0, e2, e3, e5, e10, e11, h51, e, getM_last, hpq, heq]
      exact .to _ (.refl _) ⟨rfl, L0.trans J1.le⟩
  · obtain ⟨x, hx⟩ : ∃ x, xs[i]? = some x := ⟨_, List.getElem?_eq_getElem (by omega)⟩
    obtain ⟨⟨g1, g2⟩, bb, o, cap', c, E, fr, hv', hbb, f0, f1, f2⟩ := argFs.get A0 hx
    have hbb' := J.le _ _ hbb
    obtain ⟨x1, x2, x3⟩ := x
    simp only at g1 g2 f0 f1 f2
    rw [hv'] at e0
    have hi' : (i : Int) < (xs.length : Int) := by omega
    simp (disch := omega) [octroilaw12_JournalLast_r6, octroilaw12_JournalLast_r7, e0, e2, e3, e5, e10, e11, hi', hbb', f0, f1, f2]
    refine jputM (f := (x1, x2, x3)) J.m (by omega) g1 g2 (fun g1 O1 F1 M1 => ?_)
    have J1 := J.fr F1 M1
    rw [← putsJ_snoc, ← take_succ_of hx] at J1
    simp (disch := omega) [octroilaw12_JournalLast_r8, e0, e2, e3, e5, e10, e11, wrap_i64]
    exact ⟨m - 1, by omega, j, O1, i + 1, by simp [e0, hv'], by simp [e2], by simp [e3], by simp [e5], by simp [e10], by simp, by omega, by omega, J1⟩

set_option maxHeartbeats 2000000 in
set_option maxRecDepth 20000 in
theorem JournalLast_walk {h : Hp} {v : Value} {xs : List F3} {f : F3} {kind : Int} {key : Nat} (A : argFs h v xs) (hf : fGood f) :
    Ok Try.prog F_octroilaw12_JournalLast #[v, fe f, .int .i64 kind, .int .u32 key] h (fun r g => r = .bool true ∧ Le h g) := by
  obtain ⟨fk, fkey, fn⟩ := f
  obtain ⟨hf1, hf2⟩ := hf
  simp only at hf1 hf2
  obtain ⟨p, cap, hv⟩ := ArgSl.shape A
  have hlen := ArgSl.len A
  have hmax : maxLen < 2 ^ 63 := by decide
  refine octroilaw12_JournalLast_ok (by simp) ?_
  unfold octroilaw12_JournalLast_D fe
  simp (disch := omega) [octroilaw12_JournalLast_r0]
  intro b hb
  have L0 : Le h (h.upd b (.cells #[.int .i64 fk, .int .u32 fkey, .int .u32 fn] 25)) := .new hb
  have h5 : (h.upd b (.cells #[.int .i64 fk, .int .u32 fkey, .int .u32 fn] 25)) b = some (.cells #[.int .i64 fk, .int .u32 fkey, .int .u32 fn] 25) := by simp
  simp (disch := omega) [octroilaw12_JournalLast_r1]
  generalize h.upd b (.cells #[.int .i64 fk, .int .u32 fkey, .int .u32 fn] 25) = h0 at *
  have A0 := ArgSl.le A L0
  refine awake_spec (fun h1 L1 => ?_)
  simp (disch := omega) [octroilaw12_JournalLast_r2]
  refine jnewM (fun j h2 O l2 n2 M2 => ?_)
  have J2 : JOwn h0 h2 j 1000 0 [] O := ⟨M2, L1.trans l2, fun x m => none_of_le L1 (n2 x m)⟩
  have h5' := J2.le _ _ h5
  clear M2 n2 l2
  by_cases hbig : (150 : Int) < (xs.length : Int)
  · simp (disch := omega) [octroilaw12_JournalLast_r3, octroilaw12_JournalLast_r4, hv, hbig]
    exact .to _ (.refl _) ⟨rfl, L0.trans J2.le⟩
  by_cases heq : kind = fk ∧ key = fkey
  · obtain ⟨rfl, rfl⟩ := heq
    simp (disch := omega) [octroilaw12_JournalLast_r3, octroilaw12_JournalLast_r4, hv, hbig, h5']
    exact .to _ (.refl _) ⟨rfl, L0.trans J2.le⟩
  have hpq : (kind, key) ≠ (fk, fkey) := by simp only [ne_eq, Prod.mk.injEq]; omega
  have hcs : kind ≠ fk ∨ (kind = fk ∧ (key : Int) ≠ (fkey : Int)) := by omega
  have hcs2 : kind ≠ fk ∨ (kind = fk ∧ key ≠ fkey) := by omega
  rcases hcs with hk | ⟨hk, hk2⟩
  · simp (disch := omega) [octroilaw12_JournalLast_r3, octroilaw12_JournalLast_r5, hv, hbig, h5', hk]
    refine ⟨LastInv h0 v xs kind key b, ⟨xs.length, j, O, 0, by simp [hv], by simp, by simp, by simp, by simp, by simp, by omega, by omega, by simpa [putsJ] using J2⟩, ?_⟩
    exact last_loop A0 hv hbig h5 hf1 hf2 hpq heq L0
  · have hk3 : key ≠ fkey := by omega
    simp (disch := omega) [octroilaw12_JournalLast_r3, octroilaw12_JournalLast_r5, hv, hbig, h5', hk, hk2, hk3]
    refine ⟨LastInv h0 v xs kind key b, ⟨xs.length, j, O, 0, by simp [hv], by simp [hk], by simp, by simp, by simp, by simp, by omega, by omega, by simpa [putsJ] using J2⟩, ?_⟩
    exact last_loop A0 hv hbig h5 hf1 hf2 hpq heq L0
end Go.Proofs.Ytjcecdjbllpmcaa

/- What the arguments of these laws read: their flat parts. -/
namespace Go.Proofs.Ytjcecdjbllpmcaa
open Go

def fcKs : List Lk := [.int .i64, .int .u32, .int .u32]

theorem dec_fc {H : Type} {enc : TypeId × Value → H} {w : World} {base : Nat} {spare : Nat → Bool} {held : Bool} (cs : List Value) (h : okLs enc Try.prog w base spare held fcKs cs) : ∃ x : F3, cs = fc x ∧ fGood x := by
  obtain ⟨k, _, rfl, w1, h⟩ := okLs_int h
  obtain ⟨a, _, rfl, w2, h⟩ := okLs_int h
  obtain ⟨n, _, rfl, w3, h⟩ := okLs_int h
  obtain rfl := okLs_nil h
  obtain ⟨a', rfl, ha⟩ := u32_wf w2
  obtain ⟨n', rfl, hn⟩ := u32_wf w3
  exact ⟨⟨k, a', n'⟩, rfl, ⟨ha, hn⟩⟩
end Go.Proofs.Ytjcecdjbllpmcaa

/- The journal's bytes: Clone, Bytes, as a string. -/
namespace Go.Proofs.Ytjcecdjbllpmcaa
open Go
set_option linter.unusedSimpArgs false

theorem clone_spec {h : Hp} {v : Value} {xs : List Nat} {Q : Value → Hp → Prop} (S : SlAt h 5 1 be v xs) (hl : xs.length ≤ 1000000) (hQ : ∀ v' h', SlAt h' 5 1 be v' xs → Le h h' → Q v' h') : Ok Try.prog F_slices_Clone_byte_byte #[v] h Q := by
  refine slices_Clone_byte_byte_ok (by simp) ?_
  unfold slices_Clone_byte_byte_D
  rcases S with ⟨rfl, rfl⟩ | ⟨b, cap, c, rfl, hb, h1, h2, h3⟩
  · simp (disch := omega) [slices_Clone_byte_byte_r0, slices_Clone_byte_byte_r1, slices_Clone_byte_byte_r2]
    exact .to _ (.refl _) (hQ _ _ (.inl ⟨rfl, rfl⟩) (.refl _))
  · simp (disch := omega) [slices_Clone_byte_byte_r0, slices_Clone_byte_byte_r1, slices_Clone_byte_byte_r3]
    intro b2 hb2
    have S2 : SlAt (h.upd b2 (.cells #[] 5)) 5 1 be (.slice (some ⟨b2, 0, none⟩) 0 0) [] := .inr ⟨b2, 0, #[], rfl, by simp, by simp, by simp, fun i x hx => by simp at hx⟩
    have S1 : SlAt h 5 1 be (.slice (some ⟨b, 0, none⟩) xs.length cap) xs := .inr ⟨b, cap, c, rfl, hb, h1, h2, h3⟩
    refine cat_bytes S2 (S1.le' (.new hb2)).src (by simpa using hl) (fun v' h' S' G => ?_)
    simp (disch := omega)
    refine .to _ (.refl _) (hQ _ _ (by simpa using S') (fun x o e => G.keep x o (Le.new hb2 _ _ e) (fun q => ?_)))
    have : x = b2 := by simpa [blkOf] using q
    rw [this, hb2] at e; cases e

section
variable {h : Hp} {j kp : Nat} {room : Int} {L : List F3} {O : List Nat} {Q : Value → Hp → Prop}

theorem jbytesM (M : JM h j room kp L O) (hl : L.length ≤ 10000) (hQ : ∀ v h', SlAt h' 5 1 be v (fbs L) → Le h h' → Q v h') : Ok Try.prog F_journal_Journal_Bytes #[.pointer (some ⟨j, 0, none⟩)] h Q := by
  obtain ⟨vd, mr, m, J, pm, rfl, r⟩ := M
  refine journal_Journal_Bytes_ok (by simp) ?_
  unfold journal_Journal_Bytes_D
  have hj := J.j
  simp (disch := omega) [journal_Journal_Bytes_r0, journal_Journal_Bytes_r1, hj]
  refine clone_spec J.d (by rw [fbs_length]; omega) (fun v' h' S' l => ?_)
  simp (disch := omega)
  exact .to _ (.refl _) (hQ _ _ S' l)

theorem str_34 {v : Value} {xs : List Nat} {K : Value → Hp → Prop} (S : SlAt h 5 1 be v xs) (hK : K (.string (mkB xs)) h) : arun Try.prog (convert 34 9 v) h K :=
  arun_convert_bytes und_34 Try.underlying5 Try.underlying9 S hK
end
end Go.Proofs.Ytjcecdjbllpmcaa

/- JournalSyncs: what was synced is left by any crash: the walk. -/
namespace Go.Proofs.Ytjcecdjbllpmcaa
open Go
set_option linter.unusedSimpArgs false
set_option linter.unusedVariables false

theorem crN_full (L : List F3) (k : Int) : crN L.length L k = L.length := by unfold crN; simp; omega

def SyncInv (h0 : Hp) (v : Value) (xs : List F3) (one two : Int) (m : Nat) (env : Env) (g : Hp) : Prop :=
  ∃ j O i, env 0 = v ∧ env 1 = .int .i64 one ∧ env 2 = .int .i64 two ∧ env 8 = .pointer (some ⟨j, 0, none⟩) ∧ env 9 = .int .i64 (i : Nat) ∧ i + m = xs.length ∧ i ≤ xs.length ∧
    JOwn h0 g j 1000 0 (putsJ 1000 [] (xs.take i)) O

theorem JOwn.le2 {h0 g g' : Hp} {j : Nat} {room : Int} {kp : Nat} {L : List F3} {O : List Nat} (A : JOwn h0 g j room kp L O) (l : Le g g') : JOwn h0 g' j room kp L O := ⟨A.m.le l, A.le.trans l, A.new⟩

set_option maxHeartbeats 2000000 in
set_option maxRecDepth 20000 in
theorem JournalSyncs_walk {h : Hp} {v : Value} {xs : List F3} {one two : Int} (A : argFs h v xs) :
    Ok Try.prog F_octroilaw12_JournalSyncs #[v, .int .i64 one, .int .i64 two] h (fun r g => r = .bool true ∧ Le h g) := by
  obtain ⟨p, cap, hv⟩ := ArgSl.shape A
  have hlen := ArgSl.len A
  have hmax : maxLen < 2 ^ 63 := by decide
  refine octroilaw12_JournalSyncs_ok (by simp) ?_
  unfold octroilaw12_JournalSyncs_D
  simp (disch := omega) [octroilaw12_JournalSyncs_r0, octroilaw12_JournalSyncs_r1]
  refine awake_spec (fun h1 L1 => ?_)
  simp (disch := omega) [octroilaw12_JournalSyncs_r2]
  refine jnewM (fun j h2 O l2 n2 M2 => ?_)
  have J2 : JOwn h h2 j 1000 0 [] O := ⟨M2, L1.trans l2, fun x m => none_of_le L1 (n2 x m)⟩
  clear M2 n2 l2
  by_cases hbig : (150 : Int) < (xs.length : Int)
  · simp (disch := omega) [octroilaw12_JournalSyncs_r3, octroilaw12_JournalSyncs_r4, hv, hbig]
    exact .to _ (.refl _) ⟨rfl, J2.le⟩
  simp (disch := omega) [octroilaw12_JournalSyncs_r3, octroilaw12_JournalSyncs_r5, hv, hbig]
  refine ⟨SyncInv h v xs one two, ⟨xs.length, j, O, 0, by simp [hv], by simp, by simp, by simp, by simp, by omega, by omega, by simpa [putsJ] using J2⟩, ?_⟩
  clear J2 L1
  rintro m env g ⟨j, O, i, e0, e1, e2, e8, e9, him, hi, J⟩
  have hl := putsJ_length 1000 (xs.take i) []
  rw [List.length_take, Nat.min_eq_left hi] at hl
  simp only [List.length_nil] at hl
  unfold octroilaw12_JournalSyncs_L0
  by_cases hm : m = 0
  · have hin : i = xs.length := by omega
    subst hin
    simp only [List.take_length] at J hl
    generalize putsJ 1000 [] xs = L at *
    simp (disch := omega) [octroilaw12_JournalSyncs_r6, octroilaw12_JournalSyncs_r9, e0, e1, e2, e8, e9, hv]
    refine jbytesM J.m (by omega) (fun v1 h3 S1 l1 => ?_)
    refine str_34 S1 ?_
    have J1 := J.le2 l1
    simp (disch := omega) [octroilaw12_JournalSyncs_r10, e0, e1, e2, e8, e9]
    refine jsyncM J1.m (by omega) (fun h4 F4 M4 => ?_)
    have J4 := J1.fr F4 M4
    simp (disch := omega) [octroilaw12_JournalSyncs_r11, e0, e1, e2, e8, e9]
    refine jcrashM J4.m (by omega) (fun h5 O5 F5 M5 => ?_)
    rw [crN_full, List.take_length] at M5
    have J5 := J4.fr F5 M5
    simp (disch := omega) [octroilaw12_JournalSyncs_r12, e0, e1, e2, e8, e9]
    refine jbytesM J5.m (by omega) (fun v6 h6 S6 l6 => ?_)
    refine str_34 S6 ?_
    have J6 := J5.le2 l6
    simp (disch := omega) [octroilaw12_JournalSyncs_r13, e0, e1, e2, e8, e9]
    refine jcrashM J6.m (by omega) (fun h7 O7 F7 M7 => ?_)
    rw [crN_full, List.take_length] at M7
    have J7 := J6.fr F7 M7
    simp (disch := omega) [octroilaw12_JournalSyncs_r14, e0, e1, e2, e8, e9]
    refine jbytesM J7.m (by omega) (fun v8 h8 S8 l8 => ?_)
    refine str_34 S8 ?_
    simp (disch := omega)
    exact .to _ (.refl _) ⟨rfl, (J7.le2 l8).le⟩
  · obtain ⟨x, hx⟩ : ∃ x, xs[i]? = some x := ⟨_, List.getElem?_eq_getElem (by omega)⟩
    obtain ⟨⟨g1, g2⟩, bb, o, cap', c, E, fr, hv', hbb, f0, f1, f2⟩ := argFs.get A hx
    have hbb' := J.le _ _ hbb
    obtain ⟨x1, x2, x3⟩ := x
    simp only at g1 g2 f0 f1 f2
    rw [hv'] at e0
    have hi' : (i : Int) < (xs.length : Int) := by omega
    simp (disch := omega) [octroilaw12_JournalSyncs_r6, octroilaw12_JournalSyncs_r7, e0, e1, e2, e8, e9, hi', hbb', f0, f1, f2]
    refine jputM (f := (x1, x2, x3)) J.m (by omega) g1 g2 (fun g1 O1 F1 M1 => ?_)
    have J1 := J.fr F1 M1
    rw [← putsJ_snoc, ← take_succ_of hx] at J1
    simp (disch := omega) [octroilaw12_JournalSyncs_r8, e0, e1, e2, e8, e9, wrap_i64]
    exact ⟨m - 1, by omega, j, O1, i + 1, by simp [e0, hv'], by simp [e1], by simp [e2], by simp [e8], by simp, by omega, by omega, J1⟩
end Go.Proofs.Ytjcecdjbllpmcaa

/- The journal's Facts. -/
namespace Go.Proofs.Ytjcecdjbllpmcaa
open Go
set_option linter.unusedSimpArgs false
set_option linter.unusedVariables false

def insN (k : NK) : List NK → List NK
  | [] => [k]
  | y :: ys => if nlt k y then k :: y :: ys else y :: insN k ys
theorem insN_perm {k : NK} : ∀ {l : List NK}, (insN k l).Perm (k :: l)
  | [] => .refl _
  | y :: ys => by
    rw [insN]
    split
    · exact .refl _
    · exact ((insN_perm (l := ys)).cons y).trans (.swap _ _ _)
theorem insN_srt {k : NK} : ∀ {l : List NK}, SrtJ l → SrtJ (insN k l)
  | [], _ => by simp [insN, SrtJ]
  | y :: ys, s => by
    unfold SrtJ at *
    rw [List.pairwise_cons] at s
    rw [insN]
    by_cases h : nlt k y
    · rw [if_pos h, List.pairwise_cons, List.pairwise_cons]
      refine ⟨fun z hz => ?_, s⟩
      rcases List.mem_cons.1 hz with rfl | hz
      · exact nlt_asym h
      · intro q
        exact s.1 z hz (nlt_trans q h)
    · rw [if_neg h, List.pairwise_cons]
      refine ⟨fun z hz => ?_, insN_srt s.2⟩
      rcases List.mem_cons.1 (insN_perm.mem_iff.1 hz) with rfl | hz
      · exact h
      · exact s.1 z hz
def sortN (l : List NK) : List NK := l.foldr insN []
theorem sortN_perm : ∀ {l : List NK}, (sortN l).Perm l
  | [] => .refl _
  | k :: l => insN_perm.trans (sortN_perm.cons k)
theorem sortN_srt : ∀ {l : List NK}, SrtJ (sortN l)
  | [] => .nil
  | k :: l => insN_srt sortN_srt
/-- The last numbers, in order. -/
def factsL (L : List F3) : List F3 := (sortN ((lastOf L).map (·.1))).map fun k => (k.1, k.2, (getM (lastOf L) k).getD 0)
theorem last_length : ∀ {L : List F3}, (lastOf L).length ≤ L.length := by
  have key : ∀ (L : List F3) (m : List ((Int × Nat) × Nat)), (L.foldl stF m).length ≤ m.length + L.length := by
    intro L
    induction L with
    | nil => intro m; simp
    | cons f L ih =>
      intro m
      rw [List.foldl_cons]
      refine Nat.le_trans (ih _) ?_
      unfold stF
      rw [setM_length, List.length_cons]
      split <;> omega
  intro L
  exact Nat.le_trans (key L []) (by simp)
theorem factsL_length {L : List F3} : (factsL L).length = (lastOf L).length := by unfold factsL; rw [List.length_map, sortN_perm.length_eq, List.length_map]

theorem lk1_50 {h : Hp} {r : Nat} {p : Int × Nat} {m : List ((Int × Nat) × Nat)} (M : MapAt h r nke nve m) :
    rrun Try.prog (Instr.lookup 50 (.map (some r)) (.agg #[.int .i64 p.1, .int .u32 (p.2 : Nat)]) false) h = some (.int .u32 (((getM m p).getD 0 : Nat) : Int)) := by
  have := rr_lookup1 (a := p) (z := .int .u32 0) Try.underlying50 M (fun e => ck_55) (fun es H => fk_55 H) (by kernel_rfl)
  unfold nke at this
  rw [this]
  cases getM m p <;> simp [nve]
theorem nk_at {h : Hp} {v : Value} {xs : List NK} {i : Nat} {x : NK} (S : SlAt h 55 2 kencJ v xs) (hx : xs[i]? = some x) :
    ∃ b cap c, v = .slice (some ⟨b, 0, none⟩) xs.length cap ∧ h b = some (.cells c 55 (0, 0)) ∧ c[i * 2]? = some (.int .i64 x.1) ∧ c[i * 2 + 1]? = some (.int .u32 (x.2 : Nat)) := by
  obtain ⟨b, cap, c, e, hb, H⟩ := SlAt.at' S hx
  exact ⟨b, cap, c, e, hb, H 0 (by omega), H 1 (by omega)⟩
theorem fa_at {h : Hp} {v : Value} {xs : List F3} {i : Nat} {x : F3} (S : SlAt h 25 3 fc v xs) (hx : xs[i]? = some x) :
    ∃ b cap c, v = .slice (some ⟨b, 0, none⟩) xs.length cap ∧ h b = some (.cells c 25 (0, 0)) ∧ c[i * 3]? = some (.int .i64 x.1) ∧ c[i * 3 + 1]? = some (.int .u32 (x.2.1 : Nat)) ∧ c[i * 3 + 2]? = some (.int .u32 (x.2.2 : Nat)) := by
  obtain ⟨b, cap, c, e, hb, H⟩ := SlAt.at' S hx
  exact ⟨b, cap, c, e, hb, H 0 (by omega), H 1 (by omega), H 2 (by omega)⟩

/-- A slice is one longer, and new. -/
theorem Grew.news {h0 g g' : Hp} {w w' : Value} (G : Grew g g' w w') (lg : Le h0 g) (nw : ∀ b, blkOf w = some b → h0 b = none) : Le h0 g' ∧ ∀ b, blkOf w' = some b → h0 b = none := by
  refine ⟨fun x o e => G.keep x o (lg _ _ e) (fun q => by rw [nw x q.symm] at e; cases e), fun b e => ?_⟩
  rcases G.fresh with q1 | q1
  · exact nw b (by rw [← q1]; exact e)
  · exact none_of_le lg (q1 b e)

section
variable {h : Hp} {j kp : Nat} {room : Int} {L : List F3} {O : List Nat} {Q : Value → Hp → Prop}

def FaInv (h0 : Hp) (j : Nat) (wk : Value) (m : List (NK × Nat)) (ks : List NK) (n : Nat) (env : Env) (g : Hp) : Prop :=
  ∃ (i : Nat) (w : Value), i + n = ks.length ∧ Le h0 g ∧ SlAt g 25 3 fc w ((ks.take i).map fun k => (k.1, k.2, (getM m k).getD 0)) ∧ (∀ b, blkOf w = some b → h0 b = none) ∧
    env 0 = .pointer (some ⟨j, 0, none⟩) ∧ env 3 = w ∧ env 11 = wk ∧ env 12 = .int .i64 (ks.length : Nat) ∧ env 13 = .int .i64 (i : Nat)

set_option maxHeartbeats 2000000 in
set_option maxRecDepth 20000 in
theorem jfactsM (M : JM h j room kp L O) (hl : L.length ≤ 10000) (hQ : ∀ w h', Le h h' → SlAt h' 25 3 fc w (factsL L) → (∀ b, blkOf w = some b → h b = none) → Q w h') : Ok Try.prog F_journal_Journal_Facts #[.pointer (some ⟨j, 0, none⟩)] h Q := by
  obtain ⟨vd, mr, m, J, pm, rfl, r⟩ := M
  refine journal_Journal_Facts_ok (by simp) ?_
  unfold journal_Journal_Facts_D
  have hj := J.j
  have um : Uniq m := Uniq_perm pm.symm uniq_last
  have hml : m.length ≤ 10000 := by rw [pm.length_eq]; exact Nat.le_trans last_length hl
  simp (disch := omega) [journal_Journal_Facts_r0, journal_Journal_Facts_r1, journal_Journal_Facts_r2, hj]
  have kn : ∀ {K : Value → Hp → Prop}, (∀ Bm h1, Le h h1 → h1 Bm = some (.cells #[.map (some mr)] 50 (0, 0)) → h Bm = none → K (.func (.func F_maps_Keys_map_journal_name_uint32_journal_name_uint32_1) #[] #[.pointer (some ⟨Bm, 0, none⟩)]) h1) →
      Ok Try.prog F_maps_Keys_map_journal_name_uint32_journal_name_uint32 #[.map (some mr)] h K := by
    intro K hK
    refine maps_Keys_map_journal_name_uint32_journal_name_uint32_ok (by simp) ?_
    unfold maps_Keys_map_journal_name_uint32_journal_name_uint32_D
    simp (disch := omega) [maps_Keys_map_journal_name_uint32_journal_name_uint32_r0]
    intro Bm hBm
    simp (disch := omega) [maps_Keys_map_journal_name_uint32_journal_name_uint32_r1]
    exact .to _ (.refl _) (hK Bm _ (.new hBm) upd_same hBm)
  refine kn (fun Bm h1 l1 hB nB => ?_)
  simp (disch := omega)
  refine slices_SortedFunc_journal_name_ok (by simp) ?_
  unfold slices_SortedFunc_journal_name_D
  simp (disch := omega) [slices_SortedFunc_journal_name_r0, slices_SortedFunc_journal_name_r1]
  refine collectJ (venc := nve) hB (J.m.le l1) um (by omega) (fun v ks h2 l2 S hp nv => ?_)
  simp (disch := omega) [slices_SortedFunc_journal_name_r2]
  have hkl : ks.length ≤ 10000 := by rw [hp.length_eq, List.length_map]; exact hml
  refine sort_specJ S (by omega) (fun d h3 hp3 hs3 k3 S3 => ?_)
  simp (disch := omega) [slices_SortedFunc_journal_name_r3]
  have l3 : Le h h3 := fun x o e => k3 x o (l2 _ _ (l1 _ _ e)) (fun q => by have := nv x q; rw [l1 _ _ e] at this; cases this)
  have nv3 : ∀ b, blkOf v = some b → h b = none := fun b e => none_of_le l1 (nv b e)
  have hd : d = sortN ((lastOf L).map (·.1)) := srtJ_unique hs3 sortN_srt ((hp3.trans hp).trans ((pm.map _).trans sortN_perm.symm))
  have hval : factsL L = d.map fun k => (k.1, k.2, (getM m k).getD 0) := by
    unfold factsL
    rw [← hd]
    refine List.map_congr_left fun k _ => ?_
    rw [getM_perm um pm]
  rw [hval] at hQ
  have hdl : d.length ≤ 10000 := by rw [hp3.length_eq]; exact hkl
  refine .to _ (.refl _) ?_
  clear hval hd hs3 hp3 hp S k3 l2 hB nB l1 kn
  obtain ⟨dp, dcap, hvd⟩ := S3.shape'
  simp (disch := omega) [hvd]
  refine ⟨FaInv h3 j v m d, ⟨d.length, 0, .slice none 0 0, by omega, .refl _, .inl ⟨rfl, rfl⟩, by simp [blkOf], by simp, by simp, by simp [hvd], by simp, by simp⟩, ?_⟩
  rintro n env g ⟨i, w, hin, lg, Sw, nw, e0, e3, e11, e12, e13⟩
  unfold journal_Journal_Facts_L0
  by_cases hm : n = 0
  · have : i = d.length := by omega
    subst this
    rw [List.take_of_length_le (Nat.le_refl _)] at Sw
    simp (disch := omega) [journal_Journal_Facts_r3, journal_Journal_Facts_r7, e0, e3, e11, e12, e13]
    exact .to _ (.refl _) (hQ _ _ (l3.trans lg) Sw (fun b e => none_of_le l3 (nw b e)))
  · obtain ⟨k, hk⟩ : ∃ k, d[i]? = some k := ⟨_, List.getElem?_eq_getElem (by omega)⟩
    obtain ⟨b2, cap, c, hv', hb2, c0, c1⟩ := nk_at (S3.le' lg) hk
    have hi' : i < d.length := by omega
    have e11' := e11.trans hv'
    simp (disch := omega) [journal_Journal_Facts_r3, journal_Journal_Facts_r4, e11', e12, e13, hb2, c0, c1, hi']
    intro b5 hb5
    have L5 : Le g (g.upd b5 (.cells #[.int .i64 k.1, .int .u32 (k.2 : Nat)] 55)) := .new hb5
    have f5 : (g.upd b5 (.cells #[.int .i64 k.1, .int .u32 (k.2 : Nat)] 55)) b5 = some (.cells #[.int .i64 k.1, .int .u32 (k.2 : Nat)] 55 (0, 0)) := upd_same
    simp (disch := omega)
    show journal_Journal_Facts_r5 _ (g.upd b5 (.cells #[.int .i64 k.1, .int .u32 (k.2 : Nat)] 55)) _
    generalize g.upd b5 (.cells #[.int .i64 k.1, .int .u32 (k.2 : Nat)] 55) = g1 at *
    have lg1 := lg.trans L5
    have J1 := J.fr (h' := g1) (fun x o _ e => lg1 _ _ (l3 _ _ e))
    have hj1 := J1.j
    have lk : ∀ g2, Le g1 g2 → _ := fun g2 l2 => lk1_50 (p := k) (J1.m.le l2).at
    have lk1 := lk g1 (.refl _)
    simp (disch := omega) [journal_Journal_Facts_r5, e0, e3, hj1, f5, lk1]
    refine snoc_api_Fact (Sw.le' L5) (y := (k.1, k.2, (getM m k).getD 0)) rfl (by simp [fc]) (by simp; omega) (fun b9 w' g' S' G hb9 => ?_)
    obtain ⟨lg', nw'⟩ := G.news lg1 nw
    simp (disch := omega) [journal_Journal_Facts_r6, e13, wrap_i64]
    exact ⟨n - 1, by omega, i + 1, w', by omega, lg', by rw [take_succ_of hk, List.map_append]; exact S', nw', by simp [e0], by simp, by simp [e11], by simp [e12], by simp⟩
end
end Go.Proofs.Ytjcecdjbllpmcaa

/- The journal's Pack. -/
namespace Go.Proofs.Ytjcecdjbllpmcaa
open Go
set_option linter.unusedSimpArgs false
set_option linter.unusedVariables false

theorem last_mem : ∀ {L : List F3} {e : NK × Nat}, e ∈ lastOf L → (e.1.1, e.1.2, e.2) ∈ L := by
  have key : ∀ (L : List F3) (m : List (NK × Nat)) (P : F3 → Prop), (∀ e ∈ m, P (e.1.1, e.1.2, e.2)) → (∀ f ∈ L, P f) → ∀ e ∈ L.foldl stF m, P (e.1.1, e.1.2, e.2) := by
    intro L
    induction L with
    | nil => intro m P h _; exact h
    | cons f L ih =>
      intro m P h hL
      rw [List.foldl_cons]
      refine ih _ P (fun e he => ?_) (fun g hg => hL g (by simp [hg]))
      unfold stF at he
      rcases setM_mem he with rfl | q
      · exact hL f (by simp)
      · exact h e q
  intro L e he
  exact key L [] (fun f => f ∈ L) (by simp) (fun f hf => hf) e he
theorem factsL_mem {L : List F3} {f : F3} (h : f ∈ factsL L) : f ∈ L := by
  unfold factsL at h
  obtain ⟨k, hk, rfl⟩ := List.mem_map.1 h
  have hk2 := sortN_perm.mem_iff.1 hk
  obtain ⟨e, he, rfl⟩ := List.mem_map.1 hk2
  rw [getM_of_mem (a := e.1) (v := e.2) uniq_last he]
  exact last_mem he
theorem last_uniq : ∀ {d : List NK} {v : NK → Nat} {m : List (NK × Nat)}, d.Nodup → (∀ k ∈ d, k ∉ m.map (·.1)) → (d.map fun k => ((k.1, k.2, v k) : F3)).foldl stF m = m ++ d.map fun k => (k, v k)
  | [], v, m, _, _ => by simp
  | k :: d, v, m, n, h => by
    rw [List.nodup_cons] at n
    have hn : getM m k = none := getM_none.2 (h k (by simp))
    have hs : stF m (k.1, k.2, v k) = m ++ [(k, v k)] := by
      unfold stF
      have : ∀ {m : List (NK × Nat)}, getM m k = none → setM k (v k) m = m ++ [(k, v k)] := by
        intro m
        induction m with
        | nil => intro _; rfl
        | cons y ys ih =>
          intro h
          rw [getM_cons] at h
          by_cases e : k = y.1
          · rw [if_pos e] at h; cases h
          · rw [if_neg e] at h; rw [setM, if_neg e, ih h]; rfl
      exact this hn
    rw [List.map_cons, List.foldl_cons, hs, last_uniq n.2 (fun k' hk' q => ?_)]
    · simp
    · rw [List.map_append, List.mem_append] at q
      rcases q with q | q
      · exact h k' (by simp [hk']) q
      · simp at q; subst q; exact n.1 hk'
theorem last_facts {L : List F3} : (lastOf (factsL L)).Perm (lastOf L) := by
  have nd : (sortN ((lastOf L).map (·.1))).Nodup := by
    have := uniq_last (L := L)
    unfold Uniq at this
    exact sortN_perm.nodup_iff.2 this
  have e : lastOf (factsL L) = (sortN ((lastOf L).map (·.1))).map fun k => (k, (getM (lastOf L) k).getD 0) := by
    unfold factsL
    have := last_uniq (v := fun k => (getM (lastOf L) k).getD 0) (m := []) nd (by simp)
    rw [List.nil_append] at this
    exact this
  rw [e]
  refine (sortN_perm.map _).trans ?_
  rw [List.map_map]
  have : (lastOf L).map ((fun k => (k, (getM (lastOf L) k).getD 0)) ∘ fun x => x.1) = lastOf L := by
    conv => rhs; rw [← List.map_id (lastOf L)]
    refine List.map_congr_left fun x hx => ?_
    simp only [Function.comp, id]
    rw [getM_of_mem (a := x.1) (v := x.2) uniq_last hx]; rfl
  rw [this]
theorem facts_facts {L : List F3} : factsL (factsL L) = factsL L := by
  have p := last_facts (L := L)
  unfold factsL at p ⊢
  have e : sortN ((lastOf (List.map (fun k => (k.1, k.2, (getM (lastOf L) k).getD 0)) (sortN ((lastOf L).map (·.1))))).map (·.1)) = sortN ((lastOf L).map (·.1)) :=
    srtJ_unique sortN_srt sortN_srt (sortN_perm.trans ((p.map _).trans sortN_perm.symm))
  rw [e]
  refine List.map_congr_left fun k _ => ?_
  rw [getM_perm uniq_last p]
theorem factsL_congr {L L' : List F3} (p : (lastOf L).Perm (lastOf L')) : factsL L = factsL L' := by
  unfold factsL
  rw [srtJ_unique sortN_srt sortN_srt (sortN_perm.trans ((p.map _).trans sortN_perm.symm))]
  refine List.map_congr_left fun k _ => ?_
  rw [getM_perm uniq_last p]

section
variable {h : Hp} {j kp : Nat} {room : Int} {L : List F3} {O : List Nat} {Q : Value → Hp → Prop}

def PkInv (h0 : Hp) (j mr : Nat) (room kept : Int) (m : List (NK × Nat)) (w : Value) (fs : List F3) (n : Nat) (env : Env) (g : Hp) : Prop :=
  ∃ (i : Nat) (vd : Value), i + n = fs.length ∧ JAt g j room kept vd (fbs (fs.take i)) mr m ∧ (∀ x o, h0 x = some o → x ≠ j → g x = some o) ∧ (∀ b, blkOf vd = some b → h0 b = none) ∧
    env 0 = .pointer (some ⟨j, 0, none⟩) ∧ env 10 = w ∧ env 11 = .int .i64 (fs.length : Nat) ∧ env 12 = .int .i64 (i : Nat)

set_option maxHeartbeats 2000000 in
set_option maxRecDepth 20000 in
theorem jpackM (M : JM h j room kp L O) (hl : L.length ≤ 10000) (hQ : ∀ h' O', Fr h h' O O' → JM h' j room (factsL L).length (factsL L) O' → Q (.tuple #[]) h') : Ok Try.prog F_journal_Journal_Pack #[.pointer (some ⟨j, 0, none⟩)] h Q := by
  refine journal_Journal_Pack_ok (by simp) ?_
  unfold journal_Journal_Pack_D
  simp (disch := omega) [journal_Journal_Pack_r0]
  refine jfactsM M hl (fun w h1 l1 Sw nw => ?_)
  have M1 := M.le l1
  obtain ⟨vd, mr, m, J, pm, rfl, hkp, ho⟩ := M1
  have hfl : (factsL L).length ≤ 10000 := by rw [factsL_length]; exact Nat.le_trans last_length hl
  have hfo : ∀ f ∈ factsL L, okF f := fun f hf => ho f (factsL_mem hf)
  have pm2 : m.Perm (lastOf (factsL L)) := pm.trans last_facts.symm
  generalize factsL L = fs at *
  clear pm hkp ho
  have hj := J.j
  obtain ⟨hjm, hjd⟩ := J.ne
  have hjh : ∃ o, h j = some o := M.alive j (by simp)
  have hmh : ∃ o, h mr = some o := M.alive mr (by simp)
  have nwj : ∀ b, blkOf w = some b → b ≠ j := fun b e q => by subst q; obtain ⟨o, e2⟩ := hjh; rw [nw _ e] at e2; cases e2
  obtain ⟨wp, wcap, hw⟩ := Sw.shape'
  simp (disch := omega) [journal_Journal_Pack_r1, hj, journal_Journal_Pack_r2, hw]
  have J2 : JAt (h1.upd j (.cells #[.int .i64 room, .int .i64 ((12 * kp : Nat) : Int), .slice none 0 0, .map (some mr)] T_journal_Journal)) j room (12 * kp : Nat) (.slice none 0 0) (fbs (fs.take 0)) mr m :=
    ⟨upd_same, .inl ⟨rfl, by simp [fbs]⟩, J.m.keep (upd_ne hjm)⟩
  refine ⟨PkInv h1 j mr room (12 * kp : Nat) m w fs, ⟨fs.length, 0, .slice none 0 0, by omega, by simpa using J2, fun x o e n => by rw [upd_ne n]; exact e, by simp [blkOf], by simp, by simp [hw], by simp, by simp⟩, ?_⟩
  clear J2
  rintro n env g ⟨i, vd2, hin, J3, kp3, nv3, e0, e10, e11, e12⟩
  unfold journal_Journal_Pack_L0
  have hj3 := J3.j
  obtain ⟨hjm3, hjd3⟩ := J3.ne
  have flen := fbs_length (fs.take i)
  obtain ⟨vp, vcap, hvd⟩ := J3.d.shape'
  have fin2 : ∀ (hi : i = fs.length) (g' : Hp), g' = g.upd j (.cells #[.int .i64 room, .int .i64 ((12 * fs.length : Nat) : Int), vd2, .map (some mr)] T_journal_Journal) → Q (.tuple #[]) g' := by
    rintro hi g' rfl
    rw [hi, List.take_length] at J3
    refine hQ _ (j :: mr :: (blkOf vd2).toList) ⟨fun x o e nx => ?_, fun x hx => ?_⟩ ⟨vd2, mr, m, ⟨upd_same, J3.d.keep (fun b o e e2 => by rw [upd_ne (hjd3 b e).1]; exact e2), J3.m.keep (upd_ne hjm3)⟩, pm2, rfl, Nat.le_refl _, hfo⟩
    · have nj : x ≠ j := by rintro rfl; exact nx (by simp)
      rw [upd_ne nj]
      exact kp3 x o (l1 _ _ e) nj
    · simp only [List.mem_cons, Option.mem_toList] at hx ⊢
      rcases hx with hx | hx | hx
      · exact .inl (.inl hx)
      · exact .inl (.inr (.inl hx))
      · exact .inr (none_of_le l1 (nv3 x hx))
  by_cases hm : n = 0
  · have hi : i = fs.length := by omega
    simp (disch := omega) [journal_Journal_Pack_r3, journal_Journal_Pack_r7, e0, e10, e11, e12, hi]
    refine journal_Journal_Sync_ok (by simp) ?_
    unfold journal_Journal_Sync_D
    have hv2 : vd2 = .slice vp (12 * fs.length) vcap := by rw [hvd, flen, hi, List.take_length]
    rw [hv2] at hj3
    simp (disch := omega) [journal_Journal_Sync_r0, hj3]
    refine .to _ (.refl _) ?_
    refine .to _ (.refl _) (fin2 hi _ ?_)
    rw [hv2]; rfl
  · obtain ⟨f, hf⟩ : ∃ f, fs[i]? = some f := ⟨_, List.getElem?_eq_getElem (by omega)⟩
    have hi' : i < fs.length := by omega
    have hof := hfo f (List.mem_of_getElem? hf)
    have Swg : SlAt g 25 3 fc w fs := Sw.keep fun b o e e2 => kp3 b o e2 (nwj b e)
    obtain ⟨b2, cap, c, hv', hb2, c0, c1, c2⟩ := fa_at Swg hf
    have e10' := e10.trans hv'
    have htk : fbs (fs.take (i + 1)) = fbs (fs.take i) ++ fb f.1 f.2.1 f.2.2 := by rw [take_succ_of hf, fbs_append, fbs_one]
    simp (disch := omega) [journal_Journal_Pack_r3, journal_Journal_Pack_r4, e10', e11, e12, hb2, c0, c1, c2, hi']
    intro b4 hb4
    have L4 : Le g (g.upd b4 (.cells #[.int .i64 f.1, .int .u32 (f.2.1 : Nat), .int .u32 (f.2.2 : Nat)] 25)) := .new hb4
    have f4 : (g.upd b4 (.cells #[.int .i64 f.1, .int .u32 (f.2.1 : Nat), .int .u32 (f.2.2 : Nat)] 25)) b4 = some (.cells #[.int .i64 f.1, .int .u32 (f.2.1 : Nat), .int .u32 (f.2.2 : Nat)] 25 (0, 0)) := upd_same
    simp (disch := omega)
    show journal_Journal_Pack_r5 _ (g.upd b4 (.cells #[.int .i64 f.1, .int .u32 (f.2.1 : Nat), .int .u32 (f.2.2 : Nat)] 25)) _
    generalize g.upd b4 (.cells #[.int .i64 f.1, .int .u32 (f.2.1 : Nat), .int .u32 (f.2.2 : Nat)] 25) = g1 at *
    have hj4 := L4 _ _ hj3
    simp (disch := omega) [journal_Journal_Pack_r5, e0, hj4, f4]
    refine jput_spec ⟨hof.1, hof.2.1⟩ hof.2.2.1 hof.2.2.2 (fun v5 g5 S5 l5 n5 => ?_)
    have J5 := J3.fr (h' := g5) (fun x o _ e => l5 _ _ (L4 _ _ e))
    have hj5 := J5.j
    simp (disch := omega) [e0, hj5]
    refine cat_bytes J5.d S5.src (by rw [fbs_length, fb_length, List.length_take]; omega) (fun v6 g6 S6 G6 => ?_)
    rw [← htk] at S6
    have hj6 := G6.keep _ _ hj5 (fun q => (hjd3 _ q.symm).1 rfl)
    obtain ⟨xp, xcap, hv6⟩ := S6.shape'
    have e6 := fbs_length (fs.take (i + 1))
    simp (disch := omega) [e0, hj6, hv6, journal_Journal_Pack_r6, e12, wrap_i64]
    have v6f : ∀ b, blkOf v6 = some b → h1 b = none ∧ b ≠ j ∧ b ≠ mr := fun b e => by
      rcases G6.fresh with q | q
      · have e' : blkOf vd2 = some b := by rw [← q]; exact e
        exact ⟨nv3 b e', (hjd3 b e').1, (hjd3 b e').2⟩
      · have h0 := q b e
        refine ⟨?_, ?_, ?_⟩
        · cases hh : h1 b with
          | none => rfl
          | some o =>
            by_cases hbj : b = j
            · subst hbj; rw [hj5] at h0; cases h0
            · rw [l5 _ _ (L4 _ _ (kp3 b o hh hbj))] at h0; cases h0
        · rintro rfl; rw [hj5] at h0; cases h0
        · rintro rfl; obtain ⟨o, e2⟩ := J5.m.alive; rw [e2] at h0; cases h0
    rw [← hv6]
    refine ⟨n - 1, by omega, i + 1, v6, by omega, ⟨upd_same, S6.keep (fun b o e e2 => by rw [upd_ne (v6f b e).2.1]; exact e2), ?_⟩, fun x o e nx => ?_, fun b e => (v6f b e).1, by simp [e0], by simp [e10], by simp [e11], by simp⟩
    · refine J5.m.keep ?_
      rw [upd_ne hjm3]
      obtain ⟨o, e2⟩ := J5.m.alive
      rw [e2]
      exact G6.keep _ _ e2 (fun q => (hjd3 _ q.symm).2 rfl)
    · rw [upd_ne nx]
      exact G6.keep _ _ (l5 _ _ (L4 _ _ (kp3 x o e nx))) (fun q => by rw [nv3 x q.symm] at e; cases e)
end
end Go.Proofs.Ytjcecdjbllpmcaa

/- JournalFull, JournalLasts, JournalPacks: the walks. -/
namespace Go.Proofs.Ytjcecdjbllpmcaa
open Go
set_option linter.unusedSimpArgs false
set_option linter.unusedVariables false

def SameInvF (g0 : Hp) (v w : Value) (L : List F3) (mm : Nat) (env : Env) (g : Hp) : Prop :=
  g = g0 ∧ ∃ i : Nat, env 0 = v ∧ env 1 = w ∧ env 5 = .int .i64 (i : Nat) ∧ i + mm = L.length ∧ i ≤ L.length
set_option maxRecDepth 20000 in
theorem same_F {h : Hp} {v w : Value} {L : List F3} {Q : Value → Hp → Prop} (S : SlAt h 25 3 fc v L) (S' : SlAt h 25 3 fc w L) (hl : L.length ≤ 1000000) (hQ : Q (.bool true) h) : Ok Try.prog F_octroiref12_Same #[v, w] h Q := by
  obtain ⟨p, cap, hv⟩ := S.shape'
  obtain ⟨p', cap', hw⟩ := S'.shape'
  refine octroiref12_Same_ok (by simp) ?_
  unfold octroiref12_Same_D
  simp (disch := omega) [octroiref12_Same_r0, octroiref12_Same_r1, octroiref12_Same_r3, hv, hw]
  refine ⟨SameInvF h v w L, ⟨L.length, rfl, 0, by simp [hv], by simp [hw], by simp, by omega, by omega⟩, ?_⟩
  rintro mm env g ⟨rfl, i, e0, e1, e5, him, hi⟩
  unfold octroiref12_Same_L0
  by_cases hm : mm = 0
  · have : i = L.length := by omega
    subst this
    simp (disch := omega) [octroiref12_Same_r4, octroiref12_Same_r8, e0, e1, e5, hv]
    exact .to _ (.refl _) hQ
  · obtain ⟨y, hy⟩ : ∃ y, L[i]? = some y := ⟨_, List.getElem?_eq_getElem (by omega)⟩
    obtain ⟨b, c1, c, ev, hb, q0, q1, q2⟩ := fa_at S hy
    obtain ⟨b', c1', c', ew, hb', t0, t1, t2⟩ := fa_at S' hy
    have hi' : i < L.length := by omega
    rw [ev] at e0
    rw [ew] at e1
    simp (disch := omega) [octroiref12_Same_r4, octroiref12_Same_r5, octroiref12_Same_r7, e0, e1, e5, hi', hb, hb', q0, q1, q2, t0, t1, t2, wrap_i64]
    exact ⟨mm - 1, by omega, rfl, i + 1, by simp [e0, ev], by simp [e1, ew], by simp, by omega, by omega⟩

theorem putsJ_room {room : Int} (hr : 0 ≤ room) : ∀ {xs L : List F3}, (L.length : Int) ≤ room → ((putsJ room L xs).length : Int) ≤ room
  | [], L, h => h
  | x :: xs, L, h => by
    have e : putsJ room L (x :: xs) = putsJ room (putJ room L x).2 xs := rfl
    rw [e]
    refine putsJ_room hr (xs := xs) ?_
    unfold putJ
    split
    · exact h
    · split
      · exact h
      · rename_i q; simp; omega

/-- A slice that a journal does not own stays. -/
structure Kept (g : Hp) (O : List Nat) (w : Value) (X : List F3) : Prop where
  s : SlAt g 25 3 fc w X
  d : ∀ b, blkOf w = some b → b ∉ O
theorem Kept.fr {g g' : Hp} {O O' : List Nat} {w : Value} {X : List F3} (K : Kept g O w X) (F : Fr g g' O O') : Kept g' O' w X :=
  ⟨K.s.fr F K.d, fun b e => F.apart (R := (blkOf w).toList) (fun x hx => K.s.alive (by simpa using hx)) (fun x hx => K.d x (by simpa using hx)) b (by simp [e])⟩
theorem Kept.le {g g' : Hp} {O : List Nat} {w : Value} {X : List F3} (K : Kept g O w X) (l : Le g g') : Kept g' O w X := ⟨K.s.le' l, K.d⟩

def FullInv (h0 : Hp) (b5 : Nat) (room : Int) (v : Value) (xs : List F3) (m : Nat) (env : Env) (g : Hp) : Prop :=
  ∃ j O i, env 0 = .int .i64 room ∧ env 1 = v ∧ env 5 = .pointer (some ⟨b5, 0, none⟩) ∧ env 8 = .pointer (some ⟨j, 0, none⟩) ∧ env 9 = .int .i64 (i : Nat) ∧ i + m = xs.length ∧ i ≤ xs.length ∧ JOwn h0 g j room 0 (putsJ room [] (xs.take i)) O

set_option maxHeartbeats 2000000 in
set_option maxRecDepth 20000 in
theorem JournalFull_walk {h : Hp} {room : Int} {v : Value} {xs : List F3} {f : F3} (A : argFs h v xs) (hf : fGood f) :
    Ok Try.prog F_octroilaw12_JournalFull #[.int .i64 room, v, .agg (fc f).toArray] h (fun r g => r = .bool true ∧ Le h g) := by
  obtain ⟨p, cap, hv⟩ := ArgSl.shape A
  obtain ⟨f1, f2, f3⟩ := f
  obtain ⟨hf2, hf3⟩ := hf
  simp only at hf2 hf3
  refine octroilaw12_JournalFull_ok (by simp) ?_
  unfold octroilaw12_JournalFull_D
  simp (disch := omega) [octroilaw12_JournalFull_r0, fc]
  intro b5 hb5
  have l5 : Le h (h.upd b5 (.cells #[.int .i64 f1, .int .u32 (f2 : Nat), .int .u32 (f3 : Nat)] 25)) := .new hb5
  have f5 : (h.upd b5 (.cells #[.int .i64 f1, .int .u32 (f2 : Nat), .int .u32 (f3 : Nat)] 25)) b5 = some (.cells #[.int .i64 f1, .int .u32 (f2 : Nat), .int .u32 (f3 : Nat)] 25 (0, 0)) := upd_same
  show octroilaw12_JournalFull_r1 _ (h.upd b5 (.cells #[.int .i64 f1, .int .u32 (f2 : Nat), .int .u32 (f3 : Nat)] 25)) _
  generalize h.upd b5 (.cells #[.int .i64 f1, .int .u32 (f2 : Nat), .int .u32 (f3 : Nat)] 25) = g0 at *
  simp (disch := omega) [octroilaw12_JournalFull_r1]
  refine awake_spec (fun h1 L1 => ?_)
  simp (disch := omega) [octroilaw12_JournalFull_r2]
  refine jnewM (fun j h2 O l2 n2 M2 => ?_)
  have J2 : JOwn g0 h2 j room 0 [] O := ⟨M2, L1.trans l2, fun x m => none_of_le L1 (n2 x m)⟩
  clear M2 n2 l2
  have f52 := J2.le _ _ f5
  by_cases hbig : (150 : Int) < (xs.length : Int)
  · simp (disch := omega) [octroilaw12_JournalFull_r3, octroilaw12_JournalFull_r4, hv, hbig]
    exact .to _ (.refl _) ⟨rfl, l5.trans J2.le⟩
  by_cases hr : room < 1
  · simp (disch := omega) [octroilaw12_JournalFull_r3, octroilaw12_JournalFull_r4, hv, hbig, hr]
    exact .to _ (.refl _) ⟨rfl, l5.trans J2.le⟩
  by_cases k0 : f1 < 0
  · simp (disch := omega) [octroilaw12_JournalFull_r3, octroilaw12_JournalFull_r4, hv, hbig, hr, f52, k0]
    exact .to _ (.refl _) ⟨rfl, l5.trans J2.le⟩
  by_cases k1 : 255 < f1
  · simp (disch := omega) [octroilaw12_JournalFull_r3, octroilaw12_JournalFull_r4, hv, hbig, hr, f52, k0, k1]
    exact .to _ (.refl _) ⟨rfl, l5.trans J2.le⟩
  simp (disch := omega) [octroilaw12_JournalFull_r3, octroilaw12_JournalFull_r5, hv, hbig, hr, f52, k0, k1]
  refine ⟨FullInv g0 b5 room v xs, ⟨xs.length, j, O, 0, by simp, by simp [hv], by simp, by simp, by simp, by omega, by omega, by simpa [putsJ] using J2⟩, ?_⟩
  clear J2 L1 f52
  rintro m env g ⟨j, O, i, e0, e1, e5, e8, e9, him, hi, J⟩
  have hl := putsJ_length room (xs.take i) []
  rw [List.length_take, Nat.min_eq_left hi] at hl
  simp only [List.length_nil] at hl
  have hrm := putsJ_room (room := room) (by omega) (xs := xs.take i) (L := []) (by simp; omega)
  unfold octroilaw12_JournalFull_L0
  by_cases hm : m = 0
  · have hin : i = xs.length := by omega
    subst hin
    simp only [List.take_length] at J hl hrm
    generalize putsJ room [] xs = L at *
    simp (disch := omega) [octroilaw12_JournalFull_r6, octroilaw12_JournalFull_r9, e0, e1, e5, e8, e9, hv]
    refine jlenM J.m (by omega) ?_
    simp (disch := omega) [octroilaw12_JournalFull_r10, e8]
    refine jfactsM J.m (by omega) (fun w h3 l3 Sw nw => ?_)
    have J3 := J.le2 l3
    have K3 : Kept h3 O w (factsL L) := ⟨Sw, fun b e m => by obtain ⟨o, e2⟩ := J.m.alive b m; rw [nw b e] at e2; cases e2⟩
    have hfl : (factsL L).length ≤ 10000 := by rw [factsL_length]; exact Nat.le_trans last_length (by omega)
    have f53 := J3.le _ _ f5
    simp (disch := omega) [octroilaw12_JournalFull_r11, e8, e5, f53]
    refine jputM (f := (f1, f2, f3)) J3.m (by omega) hf2 hf3 (fun h4 O4 F4 M4 => ?_)
    have J4 := J3.fr F4 M4
    have K4 := K3.fr F4
    have hp : putJ room L (f1, f2, f3) = if room ≤ (L.length : Int) then (4, L) else (0, L ++ [(f1, f2, f3)]) := by unfold putJ; rw [if_neg (by simp only; omega)]
    by_cases hfull : room ≤ (L.length : Int)
    · rw [if_pos hfull] at hp
      rw [hp] at J4 ⊢
      replace J4 : JOwn g0 h4 j room 0 L O4 := J4
      have q1 : ¬ room < (L.length : Int) := by omega
      have q2 : (L.length : Int) = room := by omega
      simp (disch := omega) [octroilaw12_JournalFull_r12, octroilaw12_JournalFull_r14, octroilaw12_JournalFull_r16, e0, e8, q1, q2]
      refine jfactsM J4.m (by omega) (fun w2 h5 l5' Sw2 nw2 => ?_)
      have J5 := J4.le2 l5'
      have K5 := K4.le l5'
      simp (disch := omega)
      refine same_F Sw2 K5.s (by omega) ?_
      simp (disch := omega) [octroilaw12_JournalFull_r17, e8]
      refine jpackM J5.m (by omega) (fun h6 O6 F6 M6 => ?_)
      have J6 := J5.fr F6 M6
      have f56 := J6.le _ _ f5
      obtain ⟨wp, wcap, hw⟩ := K5.s.shape'
      simp (disch := omega) [octroilaw12_JournalFull_r18, e8, e5, f56]
      refine jputM (f := (f1, f2, f3)) J6.m (by omega) hf2 hf3 (fun h7 O7 F7 M7 => ?_)
      have J7 := J6.fr F7 M7
      have hp2 : putJ room (factsL L) (f1, f2, f3) = if room ≤ ((factsL L).length : Int) then (4, factsL L) else (0, factsL L ++ [(f1, f2, f3)]) := by unfold putJ; rw [if_neg (by simp only; omega)]
      simp only
      rw [hp2]
      by_cases h2 : room ≤ ((factsL L).length : Int)
      · have h2' : ¬ ((factsL L).length : Int) < room := by omega
        rw [if_pos h2]
        simp (disch := omega) [octroilaw12_JournalFull_r19, e0, hw, h2']
        exact .to _ (.refl _) ⟨rfl, l5.trans J7.le⟩
      · have h2' : ((factsL L).length : Int) < room := by omega
        rw [if_neg h2]
        simp (disch := omega) [octroilaw12_JournalFull_r19, e0, hw, h2']
        exact .to _ (.refl _) ⟨rfl, l5.trans J7.le⟩
    · rw [if_neg hfull] at hp
      rw [hp] at J4 ⊢
      have q1 : ¬ room < (L.length : Int) := by omega
      have q2 : ¬ (L.length : Int) = room := by omega
      simp (disch := omega) [octroilaw12_JournalFull_r12, octroilaw12_JournalFull_r14, octroilaw12_JournalFull_r15, e0, e8, q1, q2]
      exact .to _ (.refl _) ⟨rfl, l5.trans J4.le⟩
  · obtain ⟨x, hx⟩ : ∃ x, xs[i]? = some x := ⟨_, List.getElem?_eq_getElem (by omega)⟩
    obtain ⟨⟨g1, g2⟩, bb, o, cap', c, E, fr, hv', hbb, q0, q1, q2⟩ := argFs.get A hx
    have hbb' := J.le _ _ (l5 _ _ hbb)
    obtain ⟨x1, x2, x3⟩ := x
    simp only at g1 g2 q0 q1 q2
    have e1' := e1.trans hv'
    have hi' : i < xs.length := by omega
    simp (disch := omega) [octroilaw12_JournalFull_r6, octroilaw12_JournalFull_r7, e0, e1', e8, e9, hi', hbb', q0, q1, q2]
    refine jputM (f := (x1, x2, x3)) J.m (by omega) g1 g2 (fun g1 O1 F1 M1 => ?_)
    have J1 := J.fr F1 M1
    rw [← putsJ_snoc, ← take_succ_of hx] at J1
    simp (disch := omega) [octroilaw12_JournalFull_r8, e9, wrap_i64]
    exact ⟨m - 1, by omega, j, O1, i + 1, by simp [e0], by simp [e1], by simp [e5], by simp [e8], by simp, by omega, by omega, J1⟩
end Go.Proofs.Ytjcecdjbllpmcaa

/- Parts of an own slice: x[:i], x[i:], to be read from. -/
namespace Go.Proofs.Ytjcecdjbllpmcaa
open Go
section
variable {P : Program} {h : Hp} {α : Type} {E sz : Nat} {enc : α → List Value} {v : Value} {xs : List α} {t : TypeId}

theorem rr_slice_nil_to {t e : TypeId} {sz : Nat} {g : Hp} (hu : P.underlying t = some (.slice e)) (hs : (P.info? e).map (·.size) = some sz) :
    rrun P (Instr.sliceAt t (.slice none 0 0) none (some (.int .i64 0)) none) g = some (.slice none 0 0) := by
  unfold Instr.sliceAt
  rw [rrun_bnd, rr_underlying, hu, Option.bind_some]
  simp only
  unfold Instr.slice
  rw [rrun_bnd, rr_underlying, hu, Option.bind_some]
  simp only
  have hb : rrun P (Instr.sliceBounds true 0 0 none (some (.int .i64 0)) none) g = some (0, 0, 0) := by
    unfold Instr.sliceBounds
    simp only [rrun_bnd, rrun_pure, Option.bind_some]
    simp only [if_true]
    rw [rr_sliceBound (by omega) (by omega)]; rfl
  rw [rrun_bnd, hb, Option.bind_some]
  simp only [rrun_bnd, rr_sizeOf, hs, Option.bind_some, rrun_pure, Nat.zero_mul, Nat.sub_zero, Option.map_none, if_true]

theorem SlAt.to_rr {e : TypeId} (S : SlAt h E sz enc v xs) (hu : P.underlying t = some (.slice e)) (hs : (P.info? e).map (·.size) = some sz)
    (hl : ∀ y ∈ xs, (enc y).length = sz ∧ ∀ u ∈ enc y, oneCell u = true) {i : Nat} (hi : i ≤ xs.length) :
    ∃ w, (∀ g, rrun P (Instr.sliceAt t v none (some (.int .i64 (i : Nat))) none) g = some w) ∧ Src h sz enc w (xs.take i) := by
  rcases S with ⟨rfl, rfl⟩ | ⟨b, cap, c, rfl, hb, h1, h2, h3⟩
  · simp at hi
    subst hi
    exact ⟨_, fun g => rr_slice_nil_to hu hs, by simp, .inl ⟨none, 0, rfl, by simp⟩⟩
  · refine ⟨_, fun g => rr_slice_to hu hs (by omega) (by omega), ?_⟩
    have hx : 0 + xs.length * sz ≤ c.size := by have := Nat.mul_le_mul_right sz h1; omega
    have := Src.part (i := 0) (n := i) (cap' := cap) (by omega) hl hb hx h3
    simpa using this

theorem SlAt.from_rr {e : TypeId} (S : SlAt h E sz enc v xs) (hu : P.underlying t = some (.slice e)) (hs : (P.info? e).map (·.size) = some sz)
    (hl : ∀ y ∈ xs, (enc y).length = sz ∧ ∀ u ∈ enc y, oneCell u = true) {i : Nat} (hi : i ≤ xs.length) :
    ∃ w, (∀ g, rrun P (Instr.sliceAt t v (some (.int .i64 (i : Nat))) none none) g = some w) ∧ Src h sz enc w (xs.drop i) := by
  obtain ⟨a, cap0, hv⟩ := S.shape'
  by_cases he : i = xs.length
  · subst he
    obtain ⟨a', cap', q⟩ := rr_slice_end (h := noHp) (a := a) (cap := cap0) (len := xs.length) hu hs (i := (xs.length : Nat)) rfl
    subst hv
    refine ⟨_, fun g => ?_, by simp, .inl ⟨a', cap', rfl, by simp⟩⟩
    have hn := fun (g : Hp) => rr_slice_end (P := P) (h := g) (a := a) (cap := cap0) (len := xs.length) hu hs (i := (xs.length : Nat)) rfl
    rw [← q]
    unfold Instr.sliceAt
    simp only [rrun_bnd, rr_underlying, hu, Option.bind_some]
    unfold Instr.slice
    simp only [rrun_bnd, rr_underlying, hu, Option.bind_some]
    have hb : ∀ g, rrun P (Instr.sliceBounds true xs.length cap0 (some (.int .i64 (xs.length : Nat))) none none) g = some (xs.length, xs.length, cap0) := by
      intro g
      unfold Instr.sliceBounds
      simp only [rrun_bnd, rrun_pure, Option.bind_some]
      rw [rr_sliceBound (by omega) (by omega)]; rfl
    rw [hb, hb]
    simp only [rrun_bnd, rr_sizeOf, hs, Option.bind_some, rrun_pure]
  · rcases S with ⟨rfl, rfl⟩ | ⟨b, cap, c, rfl, hb, h1, h2, h3⟩
    · simp at hi; subst hi; simp at he
    · refine ⟨_, fun g => rr_slice_from hu hs (by omega) (by omega) (by omega), ?_⟩
      have hx : 0 + xs.length * sz ≤ c.size := by have := Nat.mul_le_mul_right sz h1; omega
      have := Src.part (i := i) (n := xs.length - i) (cap' := cap - i) (by omega) hl hb hx h3
      have e2 : (xs.drop i).take (xs.length - i) = xs.drop i := List.take_of_length_le (by simp)
      rw [e2] at this
      simpa using this
end
end Go.Proofs.Ytjcecdjbllpmcaa

/- The document's journal in memory: Put, Sync, Crash, Get. -/
namespace Go.Proofs.Ytjcecdjbllpmcaa
open Go
set_option linter.unusedSimpArgs false
set_option linter.unusedVariables false

structure FjM (h : Hp) (q : Nat) (v : Value) (room : Int) (kp : Nat) (L : List F3) : Prop where
  pt : h q = some (.cells #[.int .i64 room, v, .int .i64 (kp : Nat)] 45 (0, 0))
  sl : SlAt h 25 3 fc v L
  ne : blkOf v ≠ some q
def ownJ (q : Nat) (v : Value) : List Nat := q :: (blkOf v).toList
/-- What a call leaves. -/
def FjQ (h : Hp) (q : Nat) (v : Value) (room : Int) (kp : Nat) (L' : List F3) (h' : Hp) : Prop := ∃ v', FjM h' q v' room kp L' ∧ Fr h h' (ownJ q v) (ownJ q v')
section
variable {h h' : Hp} {q : Nat} {v : Value} {room : Int} {kp : Nat} {L : List F3} {Q : Value → Hp → Prop}
theorem mem_ownJ {x : Nat} : x ∈ ownJ q v ↔ x = q ∨ blkOf v = some x := by unfold ownJ; simp
theorem FjM.alive (M : FjM h q v room kp L) : ∀ x, x ∈ ownJ q v → ∃ o, h x = some o := fun x m => by
  rcases mem_ownJ.1 m with rfl | e
  · exact ⟨_, M.pt⟩
  · exact M.sl.alive e
theorem FjM.keep (M : FjM h q v room kp L) (k : ∀ x o, x ∈ ownJ q v → h x = some o → h' x = some o) : FjM h' q v room kp L :=
  ⟨k _ _ (mem_ownJ.2 (.inl rfl)) M.pt, M.sl.keep fun b o e e2 => k _ _ (mem_ownJ.2 (.inr e)) e2, M.ne⟩
theorem FjM.le' (M : FjM h q v room kp L) (l : Le h h') : FjM h' q v room kp L := M.keep fun x o _ e => l x o e
theorem FjQ.same (M : FjM h q v room kp L) (l : Le h h') : FjQ h q v room kp L h' := ⟨v, M.le' l, .of_le l fun _ m => .inl m⟩
theorem FjQ.le' {h1 : Hp} {kp' : Nat} {L' : List F3} (l : Le h h1) (k : FjQ h1 q v room kp' L' h') : FjQ h q v room kp' L' h' := by
  obtain ⟨v', M, F⟩ := k
  refine ⟨v', M, ⟨fun x o e n => F.keep x o (l _ _ e) n, fun x m => ?_⟩⟩
  rcases F.own x m with k | k
  · exact .inl k
  · exact .inr (none_of_le l k)
/-- The slice is another one, or longer. -/
theorem FjM.slot (M : FjM h q v room kp L) {g : Hp} {w : Value} {L' : List F3} {kp' : Nat} (K : ∀ x o, h x = some o → blkOf v ≠ some x → g x = some o) (fr : ∀ b, blkOf w = some b → blkOf v = some b ∨ h b = none) (S : SlAt g 25 3 fc w L') :
    FjQ h q v room kp' L' (g.upd q (.cells #[.int .i64 room, w, .int .i64 (kp' : Nat)] 45 (0, 0))) := by
  have wq : ∀ b, blkOf w = some b → b ≠ q := fun b e => by
    rcases fr b e with k | k
    · rintro rfl; exact M.ne k
    · rintro rfl; rw [M.pt] at k; cases k
  refine ⟨w, ⟨upd_same, S.keep fun b o e e2 => by rw [upd_ne (wq b e)]; exact e2, fun e => wq q e rfl⟩, ⟨fun x o e n => ?_, fun x m => ?_⟩⟩
  · rw [mem_ownJ] at n
    rw [upd_ne (fun k => n (.inl k))]
    exact K x o e (fun k => n (.inr k))
  · rw [mem_ownJ] at m ⊢
    rcases m with m | m
    · exact .inl (.inl m)
    · rcases fr x m with k | k
      · exact .inl (.inr k)
      · exact .inr k

set_option maxHeartbeats 1000000 in
set_option maxRecDepth 20000 in
theorem rputM {f : F3} (M : FjM h q v room kp L) (hl : L.length ≤ 10000) (hQ : ∀ h', FjQ h q v room kp (putJ room L f).2 h' → Q (.int .i64 (putJ room L f).1) h') : Ok Try.prog F_octroiref12_Journal_Put #[.pointer (some ⟨q, 0, none⟩), fe f] h Q := by
  obtain ⟨k, key, n⟩ := f
  refine octroiref12_Journal_Put_ok (by simp) ?_
  unfold octroiref12_Journal_Put_D
  unfold fe
  simp (disch := omega) [octroiref12_Journal_Put_r0]
  intro b hb
  have l1 : Le h (h.upd b (.cells #[.int .i64 k, .int .u32 (key : Nat), .int .u32 (n : Nat)] 25)) := .new hb
  have f3 : (h.upd b (.cells #[.int .i64 k, .int .u32 (key : Nat), .int .u32 (n : Nat)] 25)) b = some (.cells #[.int .i64 k, .int .u32 (key : Nat), .int .u32 (n : Nat)] 25 (0, 0)) := upd_same
  show octroiref12_Journal_Put_r1 _ (h.upd b (.cells #[.int .i64 k, .int .u32 (key : Nat), .int .u32 (n : Nat)] 25)) _
  generalize h.upd b (.cells #[.int .i64 k, .int .u32 (key : Nat), .int .u32 (n : Nat)] 25) = h1 at *
  have M1 := M.le' l1
  replace hQ : ∀ h', FjQ h1 q v room kp (putJ room L (k, key, n)).2 h' → Q (.int .i64 (putJ room L (k, key, n)).1) h' := fun h' k => hQ h' (k.le' l1)
  have hq := M1.pt
  by_cases hk0 : k < 0
  · have e : putJ room L (k, key, n) = (1, L) := by unfold putJ; rw [if_pos (.inl hk0)]
    rw [e] at hQ
    simp (disch := omega) [octroiref12_Journal_Put_r1, octroiref12_Journal_Put_r2, f3, hk0]
    exact .to _ (.refl _) (hQ _ (.same M1 (.refl _)))
  by_cases hk1 : 255 < k
  · have e : putJ room L (k, key, n) = (1, L) := by unfold putJ; rw [if_pos (.inr hk1)]
    rw [e] at hQ
    simp (disch := omega) [octroiref12_Journal_Put_r1, octroiref12_Journal_Put_r2, f3, hk0, hk1]
    exact .to _ (.refl _) (hQ _ (.same M1 (.refl _)))
  obtain ⟨sp, cap, hv⟩ := M1.sl.shape'
  by_cases hr : room ≤ (L.length : Int)
  · have e : putJ room L (k, key, n) = (4, L) := by unfold putJ; rw [if_neg (by simp only; omega), if_pos hr]
    rw [e] at hQ
    simp (disch := omega) [octroiref12_Journal_Put_r1, octroiref12_Journal_Put_r3, octroiref12_Journal_Put_r4, f3, hk0, hk1, hq, hv, hr]
    exact .to _ (.refl _) (hQ _ (.same M1 (.refl _)))
  have e : putJ room L (k, key, n) = (0, L ++ [(k, key, n)]) := by unfold putJ; rw [if_neg (by simp only; omega), if_neg hr]
  rw [e] at hQ
  simp (disch := omega) [octroiref12_Journal_Put_r1, octroiref12_Journal_Put_r3, octroiref12_Journal_Put_r5, f3, hk0, hk1, hq, hv, hr]
  intro b9 hb9
  have hqb : q ≠ b9 := by rintro rfl; rw [M1.pt] at hb9; cases hb9
  refine ⟨by rw [upd_ne hqb]; simp [hq, hv], ?_⟩
  rw [← hv]
  refine arun_mono _ (fun w' g' HH => ?_) (snoc_api_Fact (k := fun _ v' g => SlAt g 25 3 fc v' (L ++ [(k, key, n)]) ∧ Grew h1 g v v') (y := (k, key, n)) M1.sl rfl (by simp [fc]) (by omega) (fun b10 w' g' S' G hb10 => ⟨S', G⟩) b9 hb9)
  obtain ⟨S', G⟩ := HH
  have hq' := G.keep _ _ hq (fun e => M1.ne e.symm)
  obtain ⟨wp, wcap, hw⟩ := S'.shape'
  generalize hn : (L ++ [(k, key, n)]).length = nn at hw
  simp (disch := omega) [octroiref12_Journal_Put_r6, hq', hw]
  rw [← hw]
  refine .to _ (.refl _) (hQ _ (M1.slot (fun x o e n => G.keep x o e (fun q => n q.symm)) (fun b e => ?_) S'))
  rcases G.fresh with k | k
  · exact .inl (by rw [← k]; exact e)
  · exact .inr (k b e)

theorem rsyncM (M : FjM h q v room kp L) (hQ : ∀ h', FjQ h q v room L.length L h' → Q (.tuple #[]) h') : Ok Try.prog F_octroiref12_Journal_Sync #[.pointer (some ⟨q, 0, none⟩)] h Q := by
  refine octroiref12_Journal_Sync_ok (by simp) ?_
  unfold octroiref12_Journal_Sync_D
  have hq := M.pt
  obtain ⟨sp, cap, hv⟩ := M.sl.shape'
  rw [hv] at hq
  simp (disch := omega) [octroiref12_Journal_Sync_r0, hq]
  rw [← hv]
  exact .to _ (.refl _) (hQ _ (M.slot (fun x o e _ => e) (fun b e => .inl e) M.sl))

theorem SlAt.takeJ (S : SlAt h 25 3 fc v L) {i : Nat} {z : Int} (hz : z = (i : Nat)) (hi : i ≤ L.length) :
    ∃ v', (∀ g, rrun Try.prog (Instr.sliceAt 22 v none (some (.int .i64 z)) none) g = some v') ∧ SlAt h 25 3 fc v' (L.take i) ∧ blkOf v' = blkOf v := by
  subst hz
  rcases S with ⟨rfl, rfl⟩ | ⟨b, cap, c, rfl, hb, h1, h2, h3⟩
  · have : i = 0 := by simpa using hi
    subst this
    exact ⟨_, fun g => rr_slice_nil_to und_22 size_25, .inl ⟨rfl, by simp⟩, rfl⟩
  · exact ⟨_, fun g => rr_slice_to und_22 size_25 (by omega) (by omega), SlAt.take (.inr ⟨b, cap, c, rfl, hb, h1, h2, h3⟩) _ hi, rfl⟩

set_option maxHeartbeats 1000000 in
set_option maxRecDepth 20000 in
theorem rcrashM {keep : Int} (M : FjM h q v room kp L) (hk : kp ≤ L.length) (hl : L.length ≤ 10000) (hQ : ∀ h', FjQ h q v room (crN kp L keep) (L.take (crN kp L keep)) h' → Q (.tuple #[]) h') : Ok Try.prog F_octroiref12_Journal_Crash #[.pointer (some ⟨q, 0, none⟩), .int .i64 keep] h Q := by
  refine octroiref12_Journal_Crash_ok (by simp) ?_
  unfold octroiref12_Journal_Crash_D
  have hq := M.pt
  obtain ⟨sp, cap, hv⟩ := M.sl.shape'
  obtain ⟨hn1, hn2⟩ := crN_le (keep := keep) hk
  have last : ∀ (env : Env) (z : Nat), env 0 = .pointer (some ⟨q, 0, none⟩) → env 4 = .int .i64 (z : Nat) → z ≤ 200000 → kp + z / 12 = crN kp L keep →
      octroiref12_Journal_Crash_r3 env h (thenK (rg octroiref12_Journal_Crash_r4) (fin Try.prog [] Q) .normal) := by
    intro env z e0 e4 hz hc
    have hd : (z : Int).tdiv 12 = (z : Int) / 12 := by rw [show (z : Int).tdiv 12 = ((z / 12 : Nat) : Int) from rfl]; omega
    obtain ⟨v', hv', S', hb'⟩ := M.sl.takeJ (i := crN kp L keep) (z := (kp : Int) + (z : Int) / 12) (by omega) hn1
    obtain ⟨wp, wcap, hw⟩ := S'.shape'
    have hwl : (L.take (crN kp L keep)).length = crN kp L keep := by rw [List.length_take]; omega
    rw [hwl] at hw
    rw [hw] at hv'
    simp (disch := omega) [octroiref12_Journal_Crash_r3, e0, e4, hq, hd, wrap_i64, hv']
    simp (disch := omega) [octroiref12_Journal_Crash_r4, e0, hq]
    rw [← hw]
    exact .to _ (.refl _) (hQ _ (M.slot (fun x o e _ => e) (fun b e => .inl (by rw [← hb']; exact e)) S'))
  by_cases g1 : 0 < keep
  · obtain ⟨kn, rfl⟩ := Int.eq_ofNat_of_zero_le (show 0 ≤ keep by omega)
    have ht : ((kn : Nat) : Int).tmod (12 * ((L.length : Int) - (kp : Int)) + 1) = ((kn % (12 * (L.length - kp) + 1) : Nat) : Int) := by
      rw [show (12 * ((L.length : Int) - (kp : Int)) + 1) = ((12 * (L.length - kp) + 1 : Nat) : Int) by omega]
      rfl
    have d0 : (12 * ((L.length : Int) - (kp : Int)) + 1) ≠ 0 := by omega
    have hlt : kn % (12 * (L.length - kp) + 1) < 12 * (L.length - kp) + 1 := Nat.mod_lt _ (by omega)
    have hmod : crN kp L (kn : Nat) = kp + (kn % (12 * (L.length - kp) + 1)) / 12 := by unfold crN; rfl
    generalize kn % (12 * (L.length - kp) + 1) = z at *
    simp (disch := omega) [octroiref12_Journal_Crash_r0, octroiref12_Journal_Crash_r1, octroiref12_Journal_Crash_r2, g1, show 0 < kn by omega, hq, hv, wrap_i64, ht, d0]
    refine last _ z ?_ ?_ (by omega) (by omega) <;> simp
  · have hmod : crN kp L keep = kp + 0 / 12 := by unfold crN; rw [show keep.toNat = 0 by omega]; simp
    simp (disch := omega) [octroiref12_Journal_Crash_r0, octroiref12_Journal_Crash_r1, g1]
    refine last _ 0 ?_ ?_ (by omega) (by omega) <;> simp

theorem last_skip {A B : List F3} {n : NK} (h : ∀ f ∈ B, (f.1, f.2.1) ≠ n) : getM (lastOf (A ++ B)) n = getM (lastOf A) n := by
  unfold lastOf
  rw [List.foldl_append]
  generalize List.foldl stF [] A = m
  induction B generalizing m with
  | nil => rfl
  | cons f B ih =>
    rw [List.foldl_cons, ih (fun g hg => h g (by simp [hg]))]
    unfold stF
    rw [getM_setM, if_neg (fun e => h f (by simp) e.symm)]

def RgInv (h0 : Hp) (q : Nat) (L : List F3) (k : Int) (key : Nat) (n : Nat) (env : Env) (g : Hp) : Prop :=
  n ≤ L.length ∧ g = h0 ∧ (∀ f ∈ L.drop n, (f.1, f.2.1) ≠ (k, key)) ∧ env 0 = .pointer (some ⟨q, 0, none⟩) ∧ env 1 = .int .i64 k ∧ env 2 = .int .u32 (key : Nat) ∧ env 8 = .int .i64 ((n : Int) - 1)

set_option maxHeartbeats 1000000 in
set_option maxRecDepth 20000 in
theorem rgetM {k : Int} {key : Nat} (M : FjM h q v room kp L) (hl : L.length ≤ 10000) (hQ : Q (.tuple #[.int .u32 (((getM (lastOf L) (k, key)).getD 0 : Nat) : Int), .bool (getM (lastOf L) (k, key)).isSome]) h) :
    Ok Try.prog F_octroiref12_Journal_Get #[.pointer (some ⟨q, 0, none⟩), .int .i64 k, .int .u32 (key : Nat)] h Q := by
  refine octroiref12_Journal_Get_ok (by simp) ?_
  unfold octroiref12_Journal_Get_D
  have hq := M.pt
  obtain ⟨sp, cap, hv⟩ := M.sl.shape'
  simp (disch := omega) [octroiref12_Journal_Get_r0, octroiref12_Journal_Get_r1, hq, hv, wrap_i64]
  refine ⟨RgInv h q L k key, ⟨L.length, Nat.le_refl _, rfl, by simp, by simp, by simp, by simp, by simp⟩, ?_⟩
  rintro n env g ⟨hn, rfl, hno, e0, e1, e2, e8⟩
  unfold octroiref12_Journal_Get_L0
  by_cases hm : n = 0
  · subst hm
    have e8' : env 8 = .int .i64 (-1) := by rw [e8]; rfl
    have hg : getM (lastOf L) (k, key) = none := last_none (by simpa using hno)
    rw [hg] at hQ
    simp (disch := omega) [octroiref12_Journal_Get_r2, octroiref12_Journal_Get_r6, e0, e1, e2, e8']
    exact .to _ (.refl _) hQ
  · obtain ⟨i, rfl⟩ : ∃ i, n = i + 1 := ⟨n - 1, by omega⟩
    have e8' : env 8 = .int .i64 (i : Nat) := by rw [e8]; congr 1; omega
    obtain ⟨x, hx⟩ : ∃ x, L[i]? = some x := ⟨_, List.getElem?_eq_getElem (by omega)⟩
    obtain ⟨b2, cap2, c, hv', hb2, c0, c1, c2⟩ := fa_at M.sl hx
    have hi' : i < L.length := by omega
    by_cases hk : (x.1, x.2.1) = (k, key)
    · have hg : getM (lastOf L) (k, key) = some x.2.2 := by
        rw [← List.take_append_drop (i + 1) L, last_skip hno, take_succ_of hx, getM_last, if_pos hk.symm]
      rw [hg] at hQ
      have k1 : x.1 = k := congrArg Prod.fst hk
      have k2 : x.2.1 = key := congrArg Prod.snd hk
      rw [k1] at c0; rw [k2] at c1
      simp (disch := omega) [octroiref12_Journal_Get_r2, octroiref12_Journal_Get_r3, octroiref12_Journal_Get_r4, e0, e1, e2, e8', hq, hv', hb2, c0, c1, c2, hi']
      exact .to _ (.refl _) hQ
    · have fin : ∀ env : Env, env 0 = .pointer (some ⟨q, 0, none⟩) → env 1 = .int .i64 k → env 2 = .int .u32 (key : Nat) → env 8 = .int .i64 (i : Nat) →
          octroiref12_Journal_Get_r5 env g (roundK (RgInv g q L k key) (i + 1) (inBlk 0 (thenK (sq (rg octroiref12_Journal_Get_r6) (ex .ret)) (fin Try.prog [.tmp 6, .tmp 7] Q))) .normal) := by
        intro env e0 e1 e2 e8
        simp (disch := omega) [octroiref12_Journal_Get_r5, e8, wrap_i64]
        refine ⟨i, by omega, by omega, rfl, fun f hf => ?_, by simp [e0], by simp [e1], by simp [e2], by simp⟩
        rw [drop_cons hx] at hf
        rcases List.mem_cons.1 hf with rfl | q1
        · exact hk
        · exact hno f q1
      by_cases s1 : x.1 = k
      · have s2 : ¬ x.2.1 = key := fun q => hk (by rw [s1, q])
        have s2' : ¬ (x.2.1 : Int) = (key : Int) := by omega
        rw [s1] at c0
        simp (disch := omega) [octroiref12_Journal_Get_r2, octroiref12_Journal_Get_r3, e0, e1, e2, e8', hq, hv', hb2, c0, c1, c2, hi', s2, s2']
        refine fin _ ?_ ?_ ?_ ?_ <;> simp [e0, e1, e2, e8']
      · simp (disch := omega) [octroiref12_Journal_Get_r2, octroiref12_Journal_Get_r3, e0, e1, e2, e8', hq, hv', hb2, c0, c1, c2, hi', s1]
        refine fin _ ?_ ?_ ?_ ?_ <;> simp [e0, e1, e2, e8']
end
end Go.Proofs.Ytjcecdjbllpmcaa

/- The document's journal: Facts, Pack. -/
namespace Go.Proofs.Ytjcecdjbllpmcaa
open Go
set_option linter.unusedSimpArgs false
set_option linter.unusedVariables false

def SrtN (l : List NK) : Prop := l.Pairwise nlt
theorem nlt_cases {x y : NK} : nlt x y ∨ x = y ∨ nlt y x := by
  by_cases h1 : nlt x y
  · exact .inl h1
  · by_cases h2 : nlt y x
    · exact .inr (.inr h2)
    · exact .inr (.inl (nlt_tri h1 h2))
def insK (k : NK) : List NK → List NK
  | [] => [k]
  | y :: ys => if nlt k y then k :: y :: ys else if k = y then y :: ys else y :: insK k ys
theorem mem_insK {k z : NK} : ∀ {l : List NK}, z ∈ insK k l ↔ z = k ∨ z ∈ l
  | [] => by simp [insK]
  | y :: ys => by
    rw [insK]
    split
    · simp
    · split
      · rename_i h1 h2; subst h2; simp
      · rw [List.mem_cons, mem_insK, List.mem_cons]
        constructor
        · rintro (h | h | h)
          · exact .inr (.inl h)
          · exact .inl h
          · exact .inr (.inr h)
        · rintro (h | h | h)
          · exact .inr (.inl h)
          · exact .inl h
          · exact .inr (.inr h)
theorem srt_insK {k : NK} : ∀ {l : List NK}, SrtN l → SrtN (insK k l)
  | [], _ => by simp [insK, SrtN]
  | y :: ys, s => by
    unfold SrtN at *
    rw [List.pairwise_cons] at s
    rw [insK]
    by_cases h : nlt k y
    · rw [if_pos h, List.pairwise_cons, List.pairwise_cons]
      refine ⟨fun z hz => ?_, s⟩
      rcases List.mem_cons.1 hz with rfl | hz
      · exact h
      · exact nlt_trans h (s.1 z hz)
    · rw [if_neg h]
      by_cases q : k = y
      · rw [if_pos q, List.pairwise_cons]; exact s
      · rw [if_neg q, List.pairwise_cons]
        refine ⟨fun z hz => ?_, srt_insK s.2⟩
        rcases mem_insK.1 hz with rfl | hz
        · rcases nlt_cases (x := z) (y := y) with h1 | h1 | h1
          · exact absurd h1 h
          · exact absurd h1 q
          · exact h1
        · exact s.1 z hz
def atN : List NK → NK → Nat
  | [], _ => 0
  | y :: ys, k => if nlt y k then atN ys k + 1 else 0
theorem atN_le : ∀ {out : List NK} {k : NK}, atN out k ≤ out.length
  | [], _ => Nat.le_refl _
  | y :: ys, k => by rw [atN]; have := atN_le (out := ys) (k := k); split <;> simp; omega
theorem atN_lt : ∀ {out : List NK} {k : NK} {i : Nat}, i < atN out k → ∃ y, out[i]? = some y ∧ nlt y k
  | [], _, i, h => by simp [atN] at h
  | y :: ys, k, i, h => by
    rw [atN] at h
    split at h
    · rename_i hp
      cases i with
      | zero => exact ⟨y, rfl, hp⟩
      | succ i => exact atN_lt (out := ys) (by omega)
    · omega
theorem atN_at : ∀ {out : List NK} {k y : NK}, out[atN out k]? = some y → ¬ nlt y k
  | [], _, _, h => by simp at h
  | z :: ys, k, y, h => by
    rw [atN] at h
    split at h
    · exact atN_at (out := ys) (by simpa using h)
    · rename_i hp; simp at h; subst h; exact hp
theorem insK_at : ∀ {out : List NK} {k : NK}, insK k out = if out[atN out k]? = some k then out else out.take (atN out k) ++ (k :: out.drop (atN out k))
  | [], k => by simp [insK, atN]
  | y :: ys, k => by
    rw [insK, atN]
    by_cases h1 : nlt k y
    · have h2 : ¬ nlt y k := nlt_asym h1
      rw [if_pos h1, if_neg h2]
      have : ¬ (y = k) := by rintro rfl; exact nlt_irr h1
      simp [this]
    · rw [if_neg h1]
      by_cases h2 : k = y
      · subst h2
        rw [if_pos rfl, if_neg nlt_irr]; simp
      · rw [if_neg h2]
        have h3 : nlt y k := Decidable.byContradiction fun q => h2 (nlt_tri h1 q)
        rw [if_pos h3, insK_at (out := ys)]
        simp only [List.getElem?_cons_succ, List.take_succ_cons, List.drop_succ_cons, List.cons_append]
        split <;> rfl
def foldK (ks : List NK) : List NK := ks.foldl (fun out k => insK k out) []
theorem foldK_snoc {ks : List NK} {k : NK} : foldK (ks ++ [k]) = insK k (foldK ks) := by unfold foldK; rw [List.foldl_append]; rfl
theorem foldK_mem' : ∀ {ks out : List NK} {z : NK}, z ∈ ks.foldl (fun out k => insK k out) out ↔ z ∈ ks ∨ z ∈ out
  | [], out, z => by simp
  | k :: ks, out, z => by
    rw [List.foldl_cons, foldK_mem', mem_insK, List.mem_cons]
    constructor
    · rintro (h | h | h)
      · exact .inl (.inr h)
      · exact .inl (.inl h)
      · exact .inr h
    · rintro ((h | h) | h)
      · exact .inr (.inl h)
      · exact .inl h
      · exact .inr (.inr h)
theorem foldK_srt' : ∀ {ks out : List NK}, SrtN out → SrtN (ks.foldl (fun out k => insK k out) out)
  | [], out, h => h
  | k :: ks, out, h => by rw [List.foldl_cons]; exact foldK_srt' (srt_insK h)
theorem insK_length {k : NK} : ∀ {out : List NK}, (insK k out).length ≤ out.length + 1
  | [] => by simp [insK]
  | y :: ys => by
    rw [insK]
    split
    · simp
    · split
      · simp
      · have := insK_length (k := k) (out := ys); simp; omega
theorem foldK_length' : ∀ {ks out : List NK}, (ks.foldl (fun out k => insK k out) out).length ≤ out.length + ks.length
  | [], out => by simp
  | k :: ks, out => by
    rw [List.foldl_cons]
    have h1 := foldK_length' (ks := ks) (out := insK k out)
    have h2 := insK_length (k := k) (out := out)
    simp; omega
theorem last_keys : ∀ {L : List F3} {k : NK}, k ∈ (lastOf L).map (·.1) ↔ k ∈ L.map fun f => (f.1, f.2.1) := by
  have key : ∀ (L : List F3) (m : List (NK × Nat)) (k : NK), k ∈ (L.foldl stF m).map (·.1) ↔ k ∈ m.map (·.1) ∨ k ∈ L.map fun f => (f.1, f.2.1) := by
    intro L
    induction L with
    | nil => intro m k; simp
    | cons f L ih =>
      intro m k
      rw [List.foldl_cons, ih, List.map_cons, List.mem_cons]
      unfold stF
      rw [setM_keys]
      by_cases h : (f.1, f.2.1) ∈ m.map (·.1)
      · rw [if_pos h]
        constructor
        · rintro (q | q)
          · exact .inl q
          · exact .inr (.inr q)
        · rintro (q | q | q)
          · exact .inl q
          · exact .inl (by rw [q]; exact h)
          · exact .inr q
      · rw [if_neg h, List.mem_append, List.mem_singleton]
        constructor
        · rintro ((q | q) | q)
          · exact .inl q
          · exact .inr (.inl q)
          · exact .inr (.inr q)
        · rintro (q | q | q)
          · exact .inl (.inl q)
          · exact .inl (.inr q)
          · exact .inr q
  intro L k
  have := key L [] k
  simpa [lastOf] using this
abbrev nmF (f : F3) : NK := (f.1, f.2.1)
abbrev valF (L : List F3) (k : NK) : F3 := (k.1, k.2, (getM (lastOf L) k).getD 0)
theorem foldK_facts {L : List F3} : (foldK (L.map nmF)).map (valF L) = factsL L := by
  unfold factsL
  have s1 : SrtN (foldK (L.map nmF)) := foldK_srt' (by simp [SrtN])
  have nd : (foldK (L.map nmF)).Nodup := s1.imp fun {a b} h => by rintro rfl; exact nlt_irr h
  have nd2 : (sortN ((lastOf L).map (·.1))).Nodup := sortN_perm.nodup_iff.2 (uniq_last (L := L))
  have e : foldK (L.map nmF) = sortN ((lastOf L).map (·.1)) := by
    refine srtJ_unique (s1.imp fun {a b} h => nlt_asym h) sortN_srt ((List.perm_ext_iff_of_nodup nd nd2).2 fun k => ?_)
    rw [sortN_perm.mem_iff, last_keys]
    unfold foldK
    rw [foldK_mem']
    simp only [List.not_mem_nil, or_false]
  rw [e]

section
variable {h h' : Hp} {q : Nat} {v : Value} {room : Int} {kp : Nat} {L : List F3} {Q : Value → Hp → Prop}
def Rf1 (h0 : Hp) (q : Nat) (L : List F3) (n : Nat) (env : Env) (g : Hp) : Prop :=
  ∃ (i : Nat) (w : Value), i + n = L.length ∧ Le h0 g ∧ SlAt g 25 3 fc w ((foldK ((L.take i).map nmF)).map (valF L)) ∧ (∀ b, blkOf w = some b → h0 b = none) ∧ env 0 = .pointer (some ⟨q, 0, none⟩) ∧ env 3 = w ∧ env 4 = .int .i64 (i : Nat)
def Rf0 (g0 : Hp) (q b5 : Nat) (out : List NK) (k : NK) (i : Nat) (w : Value) (n : Nat) (env : Env) (g : Hp) : Prop :=
  ∃ j : Nat, j + n = atN out k ∧ g = g0 ∧ env 0 = .pointer (some ⟨q, 0, none⟩) ∧ env 3 = w ∧ env 4 = .int .i64 (i : Nat) ∧ env 5 = .pointer (some ⟨b5, 0, none⟩) ∧ env 8 = .int .i64 (j : Nat)

set_option maxHeartbeats 4000000 in
set_option maxRecDepth 20000 in
theorem rfactsM (M : FjM h q v room kp L) (hl : L.length ≤ 10000) (hQ : ∀ w h', Le h h' → SlAt h' 25 3 fc w (factsL L) → (∀ b, blkOf w = some b → h b = none) → Q w h') : Ok Try.prog F_octroiref12_Journal_Facts #[.pointer (some ⟨q, 0, none⟩)] h Q := by
  refine octroiref12_Journal_Facts_ok (by simp) ?_
  unfold octroiref12_Journal_Facts_D
  simp (disch := omega) [octroiref12_Journal_Facts_r0, octroiref12_Journal_Facts_r1, octroiref12_Journal_Facts_r2]
  obtain ⟨sp, cap, hv⟩ := M.sl.shape'
  refine ⟨Rf1 h q L, ⟨L.length, 0, .slice none 0 0, by omega, .refl _, .inl ⟨rfl, rfl⟩, by simp [blkOf], by simp, by simp, by simp⟩, ?_⟩
  rintro n env g ⟨i, w, hin, lg, S, nw, e0, e3, e4⟩
  unfold octroiref12_Journal_Facts_L1
  have hq := lg _ _ M.pt
  have Mg := M.le' lg
  by_cases hm : n = 0
  · have : i = L.length := by omega
    subst this
    rw [List.take_of_length_le (Nat.le_refl _), foldK_facts] at S
    simp (disch := omega) [octroiref12_Journal_Facts_r3, octroiref12_Journal_Facts_r16, e0, e3, e4, hq, hv]
    exact .to _ (.refl _) (hQ _ _ lg S nw)
  · obtain ⟨x, hx⟩ : ∃ x, L[i]? = some x := ⟨_, List.getElem?_eq_getElem (by omega)⟩
    obtain ⟨b2, cap2, c, hv', hb2, c0, c1, c2⟩ := fa_at Mg.sl hx
    have hi' : i < L.length := by omega
    have hst : foldK ((L.take (i + 1)).map nmF) = insK (nmF x) (foldK ((L.take i).map nmF)) := by rw [take_succ_of hx, List.map_append]; exact foldK_snoc
    have hol : (foldK ((L.take i).map nmF)).length ≤ 10000 := by
      have h9 := foldK_length' (ks := (L.take i).map nmF) (out := [])
      rw [List.length_map, List.length_take, List.length_nil] at h9
      unfold foldK
      omega
    generalize foldK ((L.take i).map nmF) = out at *
    simp (disch := omega) [octroiref12_Journal_Facts_r3, octroiref12_Journal_Facts_r4, e0, e3, e4, hq, hv', hb2, c0, c1, c2, hi']
    intro b5 hb5
    have L5 : Le g (g.upd b5 (.cells #[.int .i64 x.1, .int .u32 (x.2.1 : Nat), .int .u32 (x.2.2 : Nat)] 25)) := .new hb5
    have f5 : (g.upd b5 (.cells #[.int .i64 x.1, .int .u32 (x.2.1 : Nat), .int .u32 (x.2.2 : Nat)] 25)) b5 = some (.cells #[.int .i64 x.1, .int .u32 (x.2.1 : Nat), .int .u32 (x.2.2 : Nat)] 25 (0, 0)) := upd_same
    have L5b : ∀ o2, Le g ((g.upd b5 (.cells #[.int .i64 x.1, .int .u32 (x.2.1 : Nat), .int .u32 (x.2.2 : Nat)] 25)).upd b5 o2) := fun o2 y o e => by
      have : y ≠ b5 := by rintro rfl; rw [hb5] at e; cases e
      rw [upd_ne this]; exact L5 _ _ e
    simp (disch := omega)
    show octroiref12_Journal_Facts_r5 _ (g.upd b5 (.cells #[.int .i64 x.1, .int .u32 (x.2.1 : Nat), .int .u32 (x.2.2 : Nat)] 25)) _
    generalize g.upd b5 (.cells #[.int .i64 x.1, .int .u32 (x.2.1 : Nat), .int .u32 (x.2.2 : Nat)] 25) = g1 at *
    simp (disch := omega) [octroiref12_Journal_Facts_r5, e0, f5]
    refine rgetM (Mg.le' L5) hl ?_
    simp (disch := omega) [octroiref12_Journal_Facts_r6, f5]
    have f6 : (g1.upd b5 (.cells (fc (valF L (nmF x))).toArray 25)) b5 = some (.cells #[.int .i64 x.1, .int .u32 (x.2.1 : Nat), .int .u32 (((getM (lastOf L) (x.1, x.2.1)).getD 0 : Nat) : Int)] 25 (0, 0)) := upd_same
    have lg6 : Le h (g1.upd b5 (.cells (fc (valF L (nmF x))).toArray 25)) := lg.trans (L5b _)
    have S6 := S.le' (L5b (.cells (fc (valF L (nmF x))).toArray 25))
    show octroiref12_Journal_Facts_r7 _ (g1.upd b5 (.cells (fc (valF L (nmF x))).toArray 25)) _
    clear L5 L5b f5
    generalize g1.upd b5 (.cells (fc (valF L (nmF x))).toArray 25) = g2 at *
    obtain ⟨wp, wcap, hw⟩ := S6.shape'
    rw [List.length_map] at hw
    simp (disch := omega) [octroiref12_Journal_Facts_r7]
    refine ⟨Rf0 g2 q b5 out (nmF x) i w, ⟨atN out (nmF x), 0, by omega, rfl, by simp [e0], by simp [e3], by simp [e4], by simp, by simp⟩, ?_⟩
    have inv : ∀ (env : Env) (g' : Hp) (w' : Value), Le h g' → SlAt g' 25 3 fc w' ((insK (nmF x) out).map (valF L)) → (∀ b, blkOf w' = some b → h b = none) → env 0 = .pointer (some ⟨q, 0, none⟩) → env 3 = w' → env 4 = .int .i64 (i : Nat) →
        octroiref12_Journal_Facts_r15 env g' (roundK (Rf1 h q L) n (inBlk 0 (thenK (sq (rg octroiref12_Journal_Facts_r16) (ex .ret)) (fin Try.prog [.tmp 2] Q))) .normal) := by
      clear e0 e3 e4
      intro env g' w' lg' S' nw' e0 e3 e4
      simp (disch := omega) [octroiref12_Journal_Facts_r15, e4, wrap_i64]
      exact ⟨n - 1, by omega, i + 1, w', by omega, lg', by rw [hst]; exact S', nw', by simp [e0], by simp [e3], by simp⟩
    clear e0 e3 e4 env
    rintro m env g3 ⟨j, hjm, rfl, e0, e3, e4, e5, e8⟩
    unfold octroiref12_Journal_Facts_L0
    have e3' := e3.trans hw
    have hale := atN_le (out := out) (k := nmF x)
    by_cases hm3 : m = 0
    · have hj : j = atN out (nmF x) := by omega
      have last : ∀ env : Env, env 0 = .pointer (some ⟨q, 0, none⟩) → env 3 = w → env 4 = .int .i64 (i : Nat) → env 5 = .pointer (some ⟨b5, 0, none⟩) → env 8 = .int .i64 (j : Nat) →
          octroiref12_Journal_Facts_r10 env g3 (thenK (cnd (.tmp 84) (ex (.exit 1)) (ex .normal)) (thenK (sq (rg octroiref12_Journal_Facts_r11) (sq (rg octroiref12_Journal_Facts_r12) (sq (rg octroiref12_Journal_Facts_r13) (rg octroiref12_Journal_Facts_r14)))) (inBlk 1 (thenK (rg octroiref12_Journal_Facts_r15) (roundK (Rf1 h q L) n (inBlk 0 (thenK (sq (rg octroiref12_Journal_Facts_r16) (ex .ret)) (fin Try.prog [.tmp 2] Q))))))) .normal) := by
        clear e0 e3 e4 e5 e8 e3'
        intro env e0 e3 e4 e5 e8
        have e3' := e3.trans hw
        have ins : out[j]? ≠ some (nmF x) → ∀ env : Env, env 0 = .pointer (some ⟨q, 0, none⟩) → env 3 = w → env 4 = .int .i64 (i : Nat) → env 5 = .pointer (some ⟨b5, 0, none⟩) → env 8 = .int .i64 (j : Nat) →
            octroiref12_Journal_Facts_r11 env g3 (thenK (sq (rg octroiref12_Journal_Facts_r12) (sq (rg octroiref12_Journal_Facts_r13) (rg octroiref12_Journal_Facts_r14))) (inBlk 1 (thenK (rg octroiref12_Journal_Facts_r15) (roundK (Rf1 h q L) n (inBlk 0 (thenK (sq (rg octroiref12_Journal_Facts_r16) (ex .ret)) (fin Try.prog [.tmp 2] Q)))))) .normal) := by
          clear e0 e3 e4 e5 e8 e3'
          intro hne env e0 e3 e4 e5 e8
          obtain ⟨wa, hwa, Sa⟩ := S6.to_rr und_22 size_25 (fun y _ => ⟨rfl, by simp [fc]⟩) (i := j) (by rw [List.length_map]; omega)
          obtain ⟨wb, hwb, Sb⟩ := S6.from_rr und_22 size_25 (fun y _ => ⟨rfl, by simp [fc]⟩) (i := j) (by rw [List.length_map]; omega)
          simp (disch := omega) [octroiref12_Journal_Facts_r11, e3, e8, hwa]
          refine cat_api_Fact (xs := []) (.inl ⟨rfl, rfl⟩) Sa (by simp; omega) (fun o1 g4 T1 G1 => ?_)
          have lg4 : Le g3 g4 := fun x o e => G1.keep x o e (by simp [blkOf])
          have f1 : ∀ b, blkOf o1 = some b → g3 b = none := fun b e => by
            rcases G1.fresh with q1 | q1
            · rw [q1] at e; cases e
            · exact q1 b e
          rw [List.nil_append] at T1
          have f64 := lg4 _ _ f6
          simp (disch := omega) [octroiref12_Journal_Facts_r12, e5, f64]
          refine snoc_api_Fact T1 (y := valF L (nmF x)) rfl (by simp [fc]) (by simp; omega) (fun b9 o2 g5 T2 G2 hb9 => ?_)
          obtain ⟨lg5, f2⟩ := G2.news lg4 f1
          have Sb5 : Src g5 3 fc wb ((out.map (valF L)).drop j) := by
            refine ⟨Sb.1, ?_⟩
            rcases Sb.2 with q1 | ⟨b, o, cap, c, E, fr, q1, q2, q3⟩
            · exact .inl q1
            · exact .inr ⟨b, o, cap, c, E, fr, q1, lg5 _ _ q2, q3⟩
          simp (disch := omega) [octroiref12_Journal_Facts_r13, e3, e8, hwb]
          refine cat_api_Fact T2 Sb5 (by simp; omega) (fun o3 g6 T3 G3 => ?_)
          obtain ⟨lg6', f3⟩ := G3.news lg5 f2
          have heq : (insK (nmF x) out).map (valF L) = (out.map (valF L)).take j ++ [valF L (nmF x)] ++ (out.map (valF L)).drop j := by
            rw [insK_at, if_neg (by rw [← hj]; exact hne), ← hj, List.map_append, List.map_cons, List.map_take, List.map_drop, List.append_assoc]; rfl
          simp (disch := omega) [octroiref12_Journal_Facts_r14]
          refine inv _ g6 o3 (lg6.trans lg6') (by rw [heq]; exact T3) (fun b e => none_of_le lg6 (f3 b e)) ?_ ?_ ?_ <;> simp [e0, e4]
        by_cases hjl : j < out.length
        · obtain ⟨y, hy⟩ : ∃ x, out[j]? = some x := ⟨_, List.getElem?_eq_getElem hjl⟩
          have hy2 : (out.map (valF L))[j]? = some (valF L y) := by rw [List.getElem?_map, hy]; rfl
          obtain ⟨b6, cap6, c6, hv6, hb6, t0, t1, t2⟩ := fa_at S6 hy2
          rw [List.length_map] at hv6
          have e3'' := e3.trans hv6
          by_cases s1 : y.1 = x.1
          · by_cases s2 : y.2 = x.2.1
            · have hyk : y = nmF x := Prod.ext s1 s2
              subst hyk
              simp (disch := omega) [octroiref12_Journal_Facts_r10, e3'', e5, e8, hb6, t0, t1, t2, f6, hjl]
              refine inv _ g3 w lg6 (by rw [insK_at, if_pos (by rw [← hj]; exact hy)]; exact S6) nw ?_ ?_ ?_ <;> simp [e0, e3, e4]
            · have hyk : out[j]? ≠ some (nmF x) := by rw [hy]; rintro e; cases e; exact s2 rfl
              have s2' : ¬ (y.2 : Int) = (x.2.1 : Int) := by omega
              simp (disch := omega) [octroiref12_Journal_Facts_r10, e3'', e5, e8, hb6, t0, t1, t2, f6, hjl, s1, s2, s2']
              refine ins hyk _ ?_ ?_ ?_ ?_ ?_ <;> simp [e0, e3, e4, e5, e8]
          · have hyk : out[j]? ≠ some (nmF x) := by rw [hy]; rintro e; cases e; exact s1 rfl
            simp (disch := omega) [octroiref12_Journal_Facts_r10, e3'', e5, e8, hb6, t0, t1, t2, f6, hjl, s1]
            refine ins hyk _ ?_ ?_ ?_ ?_ ?_ <;> simp [e0, e3, e4, e5, e8]
        · have hyk : out[j]? ≠ some (nmF x) := by rw [List.getElem?_eq_none (by omega)]; simp
          simp (disch := omega) [octroiref12_Journal_Facts_r10, e3', e5, e8, hjl]
          refine ins hyk _ ?_ ?_ ?_ ?_ ?_ <;> simp [e0, e3, e4, e5, e8]
      by_cases hjl : j < out.length
      · obtain ⟨y, hy⟩ : ∃ x, out[j]? = some x := ⟨_, List.getElem?_eq_getElem hjl⟩
        have hny : ¬ nlt y (nmF x) := atN_at (by rw [← hj]; exact hy)
        have hy2 : (out.map (valF L))[j]? = some (valF L y) := by rw [List.getElem?_map, hy]; rfl
        obtain ⟨b6, cap6, c6, hv6, hb6, t0, t1, t2⟩ := fa_at S6 hy2
        rw [List.length_map] at hv6
        have e3'' := e3.trans hv6
        unfold nlt at hny
        by_cases s1 : y.1 < x.1
        · exact absurd (.inl s1) hny
        · by_cases s2 : y.1 = x.1
          · have s3 : ¬ y.2 < x.2.1 := fun q => hny (.inr ⟨s2, q⟩)
            have s3' : ¬ (y.2 : Int) < (x.2.1 : Int) := by omega
            simp (disch := omega) [octroiref12_Journal_Facts_r8, e3'', e5, e8, hb6, t0, t1, f6, hjl, s1, s2, s3, s3']
            refine last _ ?_ ?_ ?_ ?_ ?_ <;> simp [e0, e3, e4, e5, e8]
          · simp (disch := omega) [octroiref12_Journal_Facts_r8, e3'', e5, e8, hb6, t0, t1, f6, hjl, s1, s2]
            refine last _ ?_ ?_ ?_ ?_ ?_ <;> simp [e0, e3, e4, e5, e8]
      · simp (disch := omega) [octroiref12_Journal_Facts_r8, e3', e5, e8, hjl]
        refine last _ ?_ ?_ ?_ ?_ ?_ <;> simp [e0, e3, e4, e5, e8]
    · obtain ⟨y, hy, hp⟩ := atN_lt (out := out) (k := nmF x) (i := j) (by omega)
      have hjl : j < out.length := by omega
      have hy2 : (out.map (valF L))[j]? = some (valF L y) := by rw [List.getElem?_map, hy]; rfl
      obtain ⟨b6, cap6, c6, hv6, hb6, t0, t1, t2⟩ := fa_at S6 hy2
      rw [List.length_map] at hv6
      have e3'' := e3.trans hv6
      unfold nlt at hp
      have nx : ∀ env : Env, env 0 = .pointer (some ⟨q, 0, none⟩) → env 3 = w → env 4 = .int .i64 (i : Nat) → env 5 = .pointer (some ⟨b5, 0, none⟩) → env 8 = .int .i64 (j : Nat) →
          octroiref12_Journal_Facts_r9 env g3 (inBlk 3 (roundK (Rf0 g3 q b5 out (nmF x) i w) m (inBlk 2 (thenK (sq (sq (rg octroiref12_Journal_Facts_r10) (cnd (.tmp 84) (ex (.exit 1)) (ex .normal))) (sq (rg octroiref12_Journal_Facts_r11) (sq (rg octroiref12_Journal_Facts_r12) (sq (rg octroiref12_Journal_Facts_r13) (rg octroiref12_Journal_Facts_r14))))) (inBlk 1 (thenK (rg octroiref12_Journal_Facts_r15) (roundK (Rf1 h q L) n (inBlk 0 (thenK (sq (rg octroiref12_Journal_Facts_r16) (ex .ret)) (fin Try.prog [.tmp 2] Q))))))))) .normal) := by
        clear e0 e3 e4 e5 e8 e3' e3''
        intro env e0 e3 e4 e5 e8
        simp (disch := omega) [octroiref12_Journal_Facts_r9, e8, wrap_i64]
        exact ⟨m - 1, by omega, j + 1, by omega, rfl, by simp [e0], by simp [e3], by simp [e4], by simp [e5], by simp⟩
      by_cases s1 : y.1 < x.1
      · simp (disch := omega) [octroiref12_Journal_Facts_r8, e3'', e5, e8, hb6, t0, t1, f6, hjl, s1]
        refine nx _ ?_ ?_ ?_ ?_ ?_ <;> simp [e0, e3, e4, e5, e8]
      · have s2 : y.1 = x.1 := by rcases hp with q | q; exact absurd q s1; exact q.1
        have s3 : y.2 < x.2.1 := by rcases hp with q | q; exact absurd q s1; exact q.2
        have s3' : (y.2 : Int) < (x.2.1 : Int) := by omega
        simp (disch := omega) [octroiref12_Journal_Facts_r8, e3'', e5, e8, hb6, t0, t1, f6, hjl, s1, s2, s3, s3']
        refine nx _ ?_ ?_ ?_ ?_ ?_ <;> simp [e0, e3, e4, e5, e8]

theorem rpackM (M : FjM h q v room kp L) (hl : L.length ≤ 10000) (hQ : ∀ h', FjQ h q v room (factsL L).length (factsL L) h' → Q (.tuple #[]) h') : Ok Try.prog F_octroiref12_Journal_Pack #[.pointer (some ⟨q, 0, none⟩)] h Q := by
  refine octroiref12_Journal_Pack_ok (by simp) ?_
  unfold octroiref12_Journal_Pack_D
  simp (disch := omega) [octroiref12_Journal_Pack_r0]
  refine rfactsM M hl (fun w h1 l1 S nw => ?_)
  have M1 := M.le' l1
  have hq := M1.pt
  obtain ⟨wp, wcap, hw⟩ := S.shape'
  simp (disch := omega) [hq, hw]
  simp (disch := omega) [octroiref12_Journal_Pack_r1]
  rw [← hw]
  exact .to _ (.refl _) (hQ _ (M.slot (kp' := (factsL L).length) (fun x o e _ => l1 _ _ e) (fun b e => .inr (nw b e)) S))
end
end Go.Proofs.Ytjcecdjbllpmcaa

/- The document's journal: its bytes. -/
namespace Go.Proofs.Ytjcecdjbllpmcaa
open Go
set_option linter.unusedSimpArgs false
set_option linter.unusedVariables false

def RpInv (g0 : Hp) (n b : Nat) (m : Nat) (env : Env) (g : Hp) : Prop :=
  ∃ a0 a1 a2 a3, m ≤ 4 ∧ env 0 = .int .u32 ((n / 2 ^ (8 * (4 - m)) : Nat) : Int) ∧ env 5 = .slice (some ⟨b, 0, none⟩) 4 4 ∧ env 6 = .int .i64 ((m : Int) - 1) ∧
    g = g0.upd b (.cells #[.int .u8 (a3 : Nat), .int .u8 (a2 : Nat), .int .u8 (a1 : Nat), .int .u8 (a0 : Nat)] 5) ∧ (m ≤ 3 → a0 = byt n 0) ∧ (m ≤ 2 → a1 = byt n 1) ∧ (m ≤ 1 → a2 = byt n 2) ∧ (m ≤ 0 → a3 = byt n 3)

set_option maxHeartbeats 1000000 in
set_option maxRecDepth 20000 in
theorem rput4 {n : Nat} {h : Hp} {Q : Value → Hp → Prop} (hn : n < 2 ^ 32)
    (hQ : ∀ b, h b = none → Q (.slice (some ⟨b, 0, none⟩) 4 4) (h.upd b (.cells #[.int .u8 (byt n 3 : Nat), .int .u8 (byt n 2 : Nat), .int .u8 (byt n 1 : Nat), .int .u8 (byt n 0 : Nat)] 5))) :
    Ok Try.prog F_octroiref01_Put #[.int .u32 (n : Nat), .int .i64 4] h Q := by
  refine octroiref01_Put_ok (by simp) ?_
  unfold octroiref01_Put_D
  simp (disch := omega) [octroiref01_Put_r0, octroiref01_Put_r1]
  intro b hb
  simp (disch := omega) [octroiref01_Put_r2, wrap_i64]
  refine ⟨RpInv h n b, ⟨4, 0, 0, 0, 0, by omega, by simp, by simp, by simp, by simp, by omega, by omega, by omega, by omega⟩, ?_⟩
  rintro m env g ⟨a0, a1, a2, a3, hm4, e0, e5, e6, rfl, q0, q1, q2, q3⟩
  unfold octroiref01_Put_L0
  by_cases hm : m = 0
  · subst hm
    have e6' : env 6 = .int .i64 (-1) := by rw [e6]; rfl
    simp (disch := omega) [octroiref01_Put_r3, octroiref01_Put_r7, e0, e5, e6']
    rw [q0 (by omega), q1 (by omega), q2 (by omega), q3 (by omega)]
    exact .to _ (.refl _) (hQ b hb)
  · have tm : ∀ x : Nat, ((x : Nat) : Int).tmod 256 = ((x % 256 : Nat) : Int) := fun x => rfl
    have td : ∀ x : Nat, ((x : Nat) : Int).tdiv 256 = ((x / 256 : Nat) : Int) := fun x => rfl
    have dd : ∀ x k : Nat, x / 2 ^ (8 * k) / 256 = x / 2 ^ (8 * (k + 1)) := fun x k => by rw [Nat.div_div_eq_div_mul, show 8 * (k + 1) = 8 * k + 8 by omega, Nat.pow_add]
    have lt : ∀ k, n / 2 ^ (8 * k) < 2 ^ 32 := fun k => Nat.lt_of_le_of_lt (Nat.div_le_self _ _) hn
    obtain ⟨k, hk⟩ : ∃ k, k = 4 - m := ⟨_, rfl⟩
    have hl := lt k
    have d2 := dd n k
    have hby : n / 2 ^ (8 * k) % 256 = byt n k := rfl
    have hbl : byt n k < 256 := by rw [← hby]; omega
    rw [← hk] at e0
    generalize n / 2 ^ (8 * k) = N at *
    have wu : IntKind.u8.wrap ((N : Int) % 256) = ((byt n k : Nat) : Int) := by rw [show (N : Int) % 256 = ((N % 256 : Nat) : Int) by omega, wrap_u8_nat, ← hby]; omega
    have wd : IntKind.u32.wrap ((N : Int) / 256) = ((n / 2 ^ (8 * (k + 1)) : Nat) : Int) := by
      rw [← d2]
      show ((N : Int) / 256) % 4294967296 = _
      omega
    have hmc : m = 4 ∨ m = 3 ∨ m = 2 ∨ m = 1 := by omega
    rcases hmc with rfl | rfl | rfl | rfl
    · have : k = 0 := by omega
      subst this
      have e6' : env 6 = .int .i64 3 := by rw [e6]; rfl
      simp (disch := omega) [octroiref01_Put_r3, octroiref01_Put_r4, octroiref01_Put_r5, octroiref01_Put_r6, e0, e5, e6', tm, td, wu, wd, wrap_i64]
      exact ⟨3, by omega, byt n 0, a1, a2, a3, by omega, by simp [d2], by simp [e5], by simp, by simp, by simp, by omega, by omega, by omega⟩
    · have : k = 1 := by omega
      subst this
      have e6' : env 6 = .int .i64 2 := by rw [e6]; rfl
      simp (disch := omega) [octroiref01_Put_r3, octroiref01_Put_r4, octroiref01_Put_r5, octroiref01_Put_r6, e0, e5, e6', tm, td, wu, wd, wrap_i64]
      exact ⟨2, by omega, a0, byt n 1, a2, a3, by omega, by simp [d2], by simp [e5], by simp, by simp, fun _ => q0 (by omega), by simp, by omega, by omega⟩
    · have : k = 2 := by omega
      subst this
      have e6' : env 6 = .int .i64 1 := by rw [e6]; rfl
      simp (disch := omega) [octroiref01_Put_r3, octroiref01_Put_r4, octroiref01_Put_r5, octroiref01_Put_r6, e0, e5, e6', tm, td, wu, wd, wrap_i64]
      exact ⟨1, by omega, a0, a1, byt n 2, a3, by omega, by simp [d2], by simp [e5], by simp, by simp, fun _ => q0 (by omega), fun _ => q1 (by omega), by simp, by omega⟩
    · have : k = 3 := by omega
      subst this
      have e6' : env 6 = .int .i64 0 := by rw [e6]; rfl
      simp (disch := omega) [octroiref01_Put_r3, octroiref01_Put_r4, octroiref01_Put_r5, octroiref01_Put_r6, e0, e5, e6', tm, td, wu, wd, wrap_i64]
      exact ⟨a0, a1, a2, byt n 3, by omega, by simp [d2], by simp [e5], by simp, by simp, fun _ => q0 (by omega), fun _ => q1 (by omega), fun _ => q2 (by omega), by simp⟩

section
variable {h h' : Hp} {q : Nat} {v : Value} {room : Int} {kp : Nat} {L : List F3} {Q : Value → Hp → Prop}
def RbInv (h0 : Hp) (q : Nat) (L : List F3) (n : Nat) (env : Env) (g : Hp) : Prop :=
  ∃ (i : Nat) (w : Value), i + n = L.length ∧ Le h0 g ∧ SlAt g 5 1 be w (fbs (L.take i)) ∧ (∀ b, blkOf w = some b → h0 b = none) ∧ env 0 = .pointer (some ⟨q, 0, none⟩) ∧ env 3 = w ∧ env 4 = .int .i64 (i : Nat)

set_option maxHeartbeats 2000000 in
set_option maxRecDepth 20000 in
theorem rbytesM (M : FjM h q v room kp L) (hl : L.length ≤ 10000) (ho : ∀ f ∈ L, okF f) (hQ : ∀ w h', SlAt h' 5 1 be w (fbs L) → Le h h' → Q w h') : Ok Try.prog F_octroiref12_Journal_Bytes #[.pointer (some ⟨q, 0, none⟩)] h Q := by
  refine octroiref12_Journal_Bytes_ok (by simp) ?_
  unfold octroiref12_Journal_Bytes_D
  simp (disch := omega) [octroiref12_Journal_Bytes_r0, octroiref12_Journal_Bytes_r1, octroiref12_Journal_Bytes_r2]
  obtain ⟨sp, cap, hv⟩ := M.sl.shape'
  refine ⟨RbInv h q L, ⟨L.length, 0, .slice none 0 0, by omega, .refl _, .inl ⟨rfl, by simp [fbs]⟩, by simp [blkOf], by simp, by simp, by simp⟩, ?_⟩
  rintro n env g ⟨i, w, hin, lg, S, nw, e0, e3, e4⟩
  unfold octroiref12_Journal_Bytes_L0
  have Mg := M.le' lg
  have hq := Mg.pt
  have hlen := fbs_length (L.take i)
  rw [List.length_take] at hlen
  by_cases hm : n = 0
  · have : i = L.length := by omega
    subst this
    rw [List.take_of_length_le (Nat.le_refl _)] at S
    simp (disch := omega) [octroiref12_Journal_Bytes_r3, octroiref12_Journal_Bytes_r8, e0, e3, e4, hq, hv]
    exact .to _ (.refl _) (hQ _ _ S lg)
  · obtain ⟨f, hf⟩ : ∃ f, L[i]? = some f := ⟨_, List.getElem?_eq_getElem (by omega)⟩
    have hi' : i < L.length := by omega
    obtain ⟨b2, cap2, c, hv', hb2, c0, c1, c2⟩ := fa_at Mg.sl hf
    obtain ⟨o1, o2, o3, o4⟩ := ho f (List.mem_of_getElem? hf)
    have hw : IntKind.u8.wrap f.1 = f.1 := by rw [wrap_u8] <;> omega
    obtain ⟨k0, hk0⟩ := Int.eq_ofNat_of_zero_le o1
    have hfb : fb f.1 f.2.1 f.2.2 = [k0, 0, 0, 0] ++ by4 f.2.1 ++ by4 f.2.2 := by unfold fb; rw [hk0]; congr 2; congr 1; omega
    have htk : fbs (L.take (i + 1)) = fbs (L.take i) ++ [k0, 0, 0, 0] ++ by4 f.2.1 ++ by4 f.2.2 := by rw [take_succ_of hf, fbs_append, fbs_one, hfb]; simp
    rw [hk0] at c0 hw
    simp (disch := omega) [octroiref12_Journal_Bytes_r3, octroiref12_Journal_Bytes_r4, e0, e3, e4, hq, hv', hb2, c0, c1, c2, hi', hw]
    intro b9 hb9
    have l9 : Le g (g.upd b9 (.cells #[.int .u8 (k0 : Nat), .int .u8 0, .int .u8 0, .int .u8 0] 5)) := .new hb9
    have f9 : (g.upd b9 (.cells #[.int .u8 (k0 : Nat), .int .u8 0, .int .u8 0, .int .u8 0] 5)) b9 = some (.cells #[.int .u8 (k0 : Nat), .int .u8 ((0 : Nat) : Int), .int .u8 ((0 : Nat) : Int), .int .u8 ((0 : Nat) : Int)] 5) := upd_same
    refine cat_bytes (S.le' l9) (sl4 f9).src (by simp; omega) (fun w1 g1 S1 G1 => ?_)
    obtain ⟨lg1, nw1⟩ := G1.news (lg.trans l9) nw
    have hq1 := lg1 _ _ M.pt
    obtain ⟨b3, cap3, c3, hv3, hb3, t0, t1, t2⟩ := fa_at (M.le' lg1).sl hf
    simp (disch := omega) [octroiref12_Journal_Bytes_r5, e0, e4, hq1, hv3, hb3, t1, hi']
    refine rput4 o3 (fun b4 hb4 => ?_)
    have f4 : (g1.upd b4 (.cells #[.int .u8 (byt f.2.1 3 : Nat), .int .u8 (byt f.2.1 2 : Nat), .int .u8 (byt f.2.1 1 : Nat), .int .u8 (byt f.2.1 0 : Nat)] 5)) b4 = some (.cells #[.int .u8 (byt f.2.1 3 : Nat), .int .u8 (byt f.2.1 2 : Nat), .int .u8 (byt f.2.1 1 : Nat), .int .u8 (byt f.2.1 0 : Nat)] 5) := upd_same
    have l4 : Le g1 (g1.upd b4 (.cells #[.int .u8 (byt f.2.1 3 : Nat), .int .u8 (byt f.2.1 2 : Nat), .int .u8 (byt f.2.1 1 : Nat), .int .u8 (byt f.2.1 0 : Nat)] 5)) := .new hb4
    generalize g1.upd b4 (.cells #[.int .u8 (byt f.2.1 3 : Nat), .int .u8 (byt f.2.1 2 : Nat), .int .u8 (byt f.2.1 1 : Nat), .int .u8 (byt f.2.1 0 : Nat)] 5) = g2 at *
    simp (disch := omega)
    refine cat_bytes (S1.le' l4) (sl4 f4).src (by simp; omega) (fun w2 g3 S2 G2 => ?_)
    obtain ⟨lg3, nw3⟩ := G2.news (lg1.trans l4) nw1
    have hq3 := lg3 _ _ M.pt
    obtain ⟨b5, cap5, c5, hv5, hb5, u0, u1, u2⟩ := fa_at (M.le' lg3).sl hf
    simp (disch := omega) [octroiref12_Journal_Bytes_r6, e0, e4, hq3, hv5, hb5, u2, hi']
    refine rput4 o4 (fun b6 hb6 => ?_)
    have f6 : (g3.upd b6 (.cells #[.int .u8 (byt f.2.2 3 : Nat), .int .u8 (byt f.2.2 2 : Nat), .int .u8 (byt f.2.2 1 : Nat), .int .u8 (byt f.2.2 0 : Nat)] 5)) b6 = some (.cells #[.int .u8 (byt f.2.2 3 : Nat), .int .u8 (byt f.2.2 2 : Nat), .int .u8 (byt f.2.2 1 : Nat), .int .u8 (byt f.2.2 0 : Nat)] 5) := upd_same
    have l6 : Le g3 (g3.upd b6 (.cells #[.int .u8 (byt f.2.2 3 : Nat), .int .u8 (byt f.2.2 2 : Nat), .int .u8 (byt f.2.2 1 : Nat), .int .u8 (byt f.2.2 0 : Nat)] 5)) := .new hb6
    generalize g3.upd b6 (.cells #[.int .u8 (byt f.2.2 3 : Nat), .int .u8 (byt f.2.2 2 : Nat), .int .u8 (byt f.2.2 1 : Nat), .int .u8 (byt f.2.2 0 : Nat)] 5) = g4 at *
    simp (disch := omega)
    refine cat_bytes (S2.le' l6) (sl4 f6).src (by simp; omega) (fun w3 g5 S3 G3 => ?_)
    obtain ⟨lg5, nw5⟩ := G3.news (lg3.trans l6) nw3
    simp (disch := omega) [octroiref12_Journal_Bytes_r7, e4, wrap_i64]
    exact ⟨n - 1, by omega, i + 1, w3, by omega, lg5, by rw [htk]; exact S3, nw5, by simp [e0], by simp, by simp⟩
end
end Go.Proofs.Ytjcecdjbllpmcaa

/- Op12: a flat struct (printed by wip/lib/struct.py). -/
namespace Go.Proofs.Ytjcecdjbllpmcaa
open Go
set_option linter.unusedSimpArgs false
set_option linter.unusedVariables false

structure Op12 where
  k : Int
  n : Int
  fk : Int
  fa : Nat
  fn : Nat
deriving DecidableEq

def Op12.enc (x : Op12) : List Value := [.int .i64 x.k, .int .i64 x.n, .int .i64 x.fk, .int .u32 (x.fa : Nat), .int .u32 (x.fn : Nat)]
abbrev Op12v (x : Op12) : Value := .agg #[.int .i64 x.k, .int .i64 x.n, .int .i64 x.fk, .int .u32 (x.fa : Nat), .int .u32 (x.fn : Nat)]
abbrev Op12.cells (x : Op12) : Array Value := #[.int .i64 x.k, .int .i64 x.n, .int .i64 x.fk, .int .u32 (x.fa : Nat), .int .u32 (x.fn : Nat)]
structure Op12.Good (x : Op12) : Prop where
  fa : x.fa < 2 ^ 32
  fn : x.fn < 2 ^ 32
theorem Op12.one (x : Op12) : (Op12.enc x).length = 5 ∧ ∀ u ∈ Op12.enc x, oneCell u = true := ⟨rfl, by simp [Op12.enc]⟩

theorem Op12_at {h : Hp} {v : Value} {xs : List Op12} {i : Nat} {x : Op12} (S : SlAt h 47 5 Op12.enc v xs) (hx : xs[i]? = some x) :
    ∃ b cap c, v = .slice (some ⟨b, 0, none⟩) xs.length cap ∧ h b = some (.cells c 47 (0, 0)) ∧ c[i * 5]? = some (.int .i64 x.k) ∧ c[i * 5 + 1]? = some (.int .i64 x.n) ∧ c[i * 5 + 2]? = some (.int .i64 x.fk) ∧ c[i * 5 + 3]? = some (.int .u32 (x.fa : Nat)) ∧ c[i * 5 + 4]? = some (.int .u32 (x.fn : Nat)) := by
  obtain ⟨b, cap, c, e, hb, H⟩ := SlAt.at' S hx
  exact ⟨b, cap, c, e, hb, H 0 (by omega), H 1 (by omega), H 2 (by omega), H 3 (by omega), H 4 (by omega)⟩

def Op12Ks : List Lk := [.int .i64, .int .i64, .int .i64, .int .u32, .int .u32]
theorem dec_Op12 {H : Type} {enc : TypeId × Value → H} {w : World} {base : Nat} {spare : Nat → Bool} {held : Bool} (cs : List Value) (h : okLs enc Try.prog w base spare held Op12Ks cs) : ∃ x : Op12, cs = x.enc ∧ x.Good := by
  obtain ⟨a0, _, rfl, w0, h⟩ := okLs_int h
  obtain ⟨a1, _, rfl, w1, h⟩ := okLs_int h
  obtain ⟨a2, _, rfl, w2, h⟩ := okLs_int h
  obtain ⟨a3, _, rfl, w3, h⟩ := okLs_int h
  obtain ⟨a4, _, rfl, w4, h⟩ := okLs_int h
  obtain rfl := okLs_nil h
  obtain ⟨b3, rfl, g3⟩ := u32_wf w3
  obtain ⟨b4, rfl, g4⟩ := u32_wf w4
  exact ⟨⟨a0, a1, a2, b3, b4⟩, rfl, ⟨g3, g4⟩⟩
end Go.Proofs.Ytjcecdjbllpmcaa

/- JournalDoes: a journal of any room answers any calls as the document says, through any crashes. -/
namespace Go.Proofs.Ytjcecdjbllpmcaa
open Go
set_option linter.unusedSimpArgs false
set_option linter.unusedVariables false

structure TwoJ (h0 g : Hp) (j : Nat) (room : Int) (O : List Nat) (kp : Nat) (L : List F3) (q : Nat) (v : Value) (kp2 : Nat) (L2 : List F3) : Prop where
  a : JOwn h0 g j room kp L O
  f : FjM g q v room kp2 L2
  d : ∀ x, x ∈ ownJ q v → x ∉ O
  nf : ∀ x, x ∈ ownJ q v → h0 x = none
section
variable {h0 g g' : Hp} {j : Nat} {room : Int} {O O' : List Nat} {kp kp' : Nat} {L L' : List F3} {q : Nat} {v : Value} {kp2 kp3 : Nat} {L2 L3 : List F3}
theorem TwoJ.to (T : TwoJ h0 g j room O kp L q v kp2 L2) (l : Le g g') : TwoJ h0 g' j room O kp L q v kp2 L2 := ⟨T.a.le2 l, T.f.le' l, T.d, T.nf⟩
theorem TwoJ.prog (T : TwoJ h0 g j room O kp L q v kp2 L2) (F : Fr g g' O O') (M : JM g' j room kp' L' O') : TwoJ h0 g' j room O' kp' L' q v kp2 L2 :=
  ⟨T.a.fr F M, T.f.keep fun x o hx e => F.keep x o e (T.d x hx), F.apart T.f.alive T.d, T.nf⟩
theorem TwoJ.ref (T : TwoJ h0 g j room O kp L q v kp2 L2) (k : FjQ g q v room kp3 L3 g') : ∃ v', TwoJ h0 g' j room O kp L q v' kp3 L3 := by
  obtain ⟨v', M, F⟩ := k
  have d' := F.apart T.a.m.alive (fun x hx hx2 => T.d x hx2 hx)
  exact ⟨v', ⟨T.a.m.keep (fun x o hx e => F.keep x o e (fun hx2 => T.d x hx2 hx)), F.le T.a.le T.nf, T.a.new⟩, M, fun x hx hx2 => d' x hx2 hx, F.new T.a.le T.nf⟩
end

theorem op12_at {h : Hp} {v : Value} {xs : List Op12} {i : Nat} {x : Op12} (A : ArgSl h 5 Op12.enc Op12.Good v xs) (hx : xs[i]? = some x) :
    x.Good ∧ ∃ b o cap c E fr, v = .slice (some ⟨b, o, none⟩) xs.length cap ∧ h b = some (.cells c E fr) ∧ c[o + i * 5]? = some (.int .i64 x.k) ∧ c[o + i * 5 + 1]? = some (.int .i64 x.n) ∧ c[o + i * 5 + 2]? = some (.int .i64 x.fk) ∧ c[o + i * 5 + 3]? = some (.int .u32 (x.fa : Nat)) ∧ c[o + i * 5 + 4]? = some (.int .u32 (x.fn : Nat)) := by
  obtain ⟨g, b, o, cap, c, E, fr, e, hb, H⟩ := A.at hx
  exact ⟨g, b, o, cap, c, E, fr, e, hb, H 0 (by omega), H 1 (by omega), H 2 (by omega), H 3 (by omega), H 4 (by omega)⟩

def JdInv (h : Hp) (room : Int) (q : Nat) (lv : Value) (l : List Op12) (n : Nat) (env : Env) (g : Hp) : Prop :=
  ∃ (i j : Nat) (O : List Nat) (v : Value) (kp : Nat) (L : List F3), i + n = l.length ∧ TwoJ h g j room O kp L q v kp L ∧ L.length ≤ i ∧ env 1 = lv ∧ env 6 = .pointer (some ⟨j, 0, none⟩) ∧ env 7 = .pointer (some ⟨q, 0, none⟩) ∧ env 8 = .int .i64 (i : Nat)

set_option maxHeartbeats 4000000 in
set_option maxRecDepth 20000 in
theorem JournalDoes_walk {h : Hp} {room : Int} {lv : Value} {l : List Op12} (A : ArgSl h 5 Op12.enc Op12.Good lv l) :
    Ok Try.prog F_octroilaw12_JournalDoes #[.int .i64 room, lv] h (fun v g => v = .bool true ∧ Le h g) := by
  refine octroilaw12_JournalDoes_ok (by simp) ?_
  unfold octroilaw12_JournalDoes_D
  obtain ⟨ap, acap, hlv⟩ := A.shape
  simp (disch := omega) [octroilaw12_JournalDoes_r0, octroilaw12_JournalDoes_r1]
  refine awake_spec (fun h1 L1 => ?_)
  simp (disch := omega) [octroilaw12_JournalDoes_r2]
  refine jnewM (fun j h2 O l2 n2 M2 => ?_)
  have J2 : JOwn h h2 j room 0 [] O := ⟨M2, L1.trans l2, fun x m => none_of_le L1 (n2 x m)⟩
  clear M2 n2 l2
  by_cases g1 : 150 < (l.length : Int)
  · simp (disch := omega) [octroilaw12_JournalDoes_r3, octroilaw12_JournalDoes_r4, hlv, g1]
    exact .to _ (.refl _) ⟨rfl, J2.le⟩
  simp (disch := omega) [octroilaw12_JournalDoes_r3, octroilaw12_JournalDoes_r5, hlv, g1]
  intro q hq
  have l3 : Le h2 (h2.upd q (.cells #[.int .i64 room, .slice none 0 0, .int .i64 0] 45)) := .new hq
  have T0 : TwoJ h (h2.upd q (.cells #[.int .i64 room, .slice none 0 0, .int .i64 0] 45)) j room O 0 [] q (.slice none 0 0) 0 [] :=
    ⟨J2.le2 l3, ⟨upd_same, .inl ⟨rfl, rfl⟩, by simp [blkOf]⟩, (fun x m m2 => by
      have hx : x = q := by simpa [ownJ, blkOf] using m
      obtain ⟨o, e⟩ := J2.m.alive _ m2
      rw [hx, hq] at e; cases e), (fun x m => by
      have hx : x = q := by simpa [ownJ, blkOf] using m
      rw [hx]; exact none_of_le J2.le hq)⟩
  simp (disch := omega) [octroilaw12_JournalDoes_r6]
  refine ⟨JdInv h room q lv l, ⟨l.length, 0, j, O, _, 0, [], by omega, T0, by simp, by simp [hlv], by simp, by simp, by simp⟩, ?_⟩
  clear T0 l3 hq J2 L1 O j h2 h1
  rintro n env g ⟨i, j, O, v, kp, L, hin, T, hLi, e1, e6, e7, e8⟩
  unfold octroilaw12_JournalDoes_L0
  by_cases hm : n = 0
  · have : i = l.length := by omega
    subst this
    simp (disch := omega) [octroilaw12_JournalDoes_r7, octroilaw12_JournalDoes_r27, e1, e8, hlv]
    exact .to _ (.refl _) ⟨rfl, T.a.le⟩
  · obtain ⟨o, ho⟩ : ∃ x, l[i]? = some x := ⟨_, List.getElem?_eq_getElem (by omega)⟩
    obtain ⟨og, b, off, cap, c, E, fr, hv', hb, q0, q1, q2, q3, q4⟩ := op12_at A ho
    have hi' : i < l.length := by omega
    have hbg := T.a.le _ _ hb
    have e1' := e1.trans hv'
    have rest : ∀ (env : Env) (g : Hp) (O : List Nat) (v : Value) (kp : Nat) (L : List F3), TwoJ h g j room O kp L q v kp L → L.length ≤ i + 1 → env 1 = lv → env 6 = .pointer (some ⟨j, 0, none⟩) → env 7 = .pointer (some ⟨q, 0, none⟩) → env 8 = .int .i64 (i : Nat) → env 9 = .bool true →
        octroilaw12_JournalDoes_r21 env g (thenK (sq (rg octroilaw12_JournalDoes_r22) (sq (rg octroilaw12_JournalDoes_r23) (sq (rg octroilaw12_JournalDoes_r24) (cnd (.tmp 166) (sq (rg octroilaw12_JournalDoes_r25) (ex .ret)) (ex .normal))))) (inBlk 1 (thenK (rg octroilaw12_JournalDoes_r26) (roundK (JdInv h room q lv l) n (inBlk 0 (thenK (sq (rg octroilaw12_JournalDoes_r27) (ex .ret)) (fin Try.prog [.tmp 4] fun v g => v = .bool true ∧ Le h g)))))) .normal) := by
      clear T hLi e1 e6 e7 e8 e1' hbg
      intro env g O v kp L T hL e1 e6 e7 e8 e9
      have e1' := e1.trans hv'
      have hbg := T.a.le _ _ hb
      have hok : ∀ f ∈ L, okF f := by obtain ⟨_, _, _, _, _, _, _, ho⟩ := T.a.m; exact ho
      simp (disch := omega) [octroilaw12_JournalDoes_r21, e1', e6, e8, hbg, hi', q2, q3]
      refine jgetM T.a.m ?_
      simp (disch := omega) [octroilaw12_JournalDoes_r22, e1', e7, e8, hbg, hi', q2, q3]
      refine rgetM T.f (by omega) ?_
      generalize (getM (lastOf L) (o.fk, o.fa)).getD 0 = z at *
      generalize (getM (lastOf L) (o.fk, o.fa)).isSome = zi at *
      simp (disch := omega) [octroilaw12_JournalDoes_r23, e6, e7]
      refine jfactsM T.a.m (by omega) (fun w1 g1 l1 S1 n1 => ?_)
      have T1 := T.to l1
      simp (disch := omega) [e7]
      refine rfactsM T1.f (by omega) (fun w2 g2 l2 S2 n2 => ?_)
      have T2 := T1.to l2
      have hfl : (factsL L).length ≤ 10000 := by rw [factsL_length]; exact Nat.le_trans last_length (by omega)
      simp (disch := omega)
      refine same_F (S1.le' l2) S2 (by omega) ?_
      have hqq := T2.f.pt
      obtain ⟨sp, scap, hsv⟩ := T2.f.sl.shape'
      simp (disch := omega) [octroilaw12_JournalDoes_r24, e6, e7, e9, hqq, hsv]
      refine jlenM T2.a.m (by omega) ?_
      simp (disch := omega) [e6, e7, hqq, hsv]
      have endK : ∀ (env : Env) (g : Hp), TwoJ h g j room O kp L q v kp L → env 1 = lv → env 6 = .pointer (some ⟨j, 0, none⟩) → env 7 = .pointer (some ⟨q, 0, none⟩) → env 8 = .int .i64 (i : Nat) →
          octroilaw12_JournalDoes_r26 env g (roundK (JdInv h room q lv l) n (inBlk 0 (thenK (sq (rg octroilaw12_JournalDoes_r27) (ex .ret)) (fin Try.prog [.tmp 4] fun v g => v = .bool true ∧ Le h g))) .normal) := by
        clear e1 e6 e7 e8 e9 e1'
        intro env g T e1 e6 e7 e8
        simp (disch := omega) [octroilaw12_JournalDoes_r26, e8, wrap_i64]
        exact ⟨n - 1, by omega, i + 1, j, O, v, kp, L, by omega, T, hL, by simp [e1], by simp [e6], by simp [e7], by simp⟩
      refine jbytesM T2.a.m (by omega) (fun v8 g8 S8 l8 => ?_)
      have T8 := T2.to l8
      simp (disch := omega)
      refine ⟨?_, ?_⟩
      · refine str_34 S8 ?_
        simp (disch := omega) [e7]
        refine rbytesM T8.f (by omega) hok (fun v9 g9 S9 l9 => ?_)
        simp (disch := omega)
        refine str_34 S9 ?_
        simp (disch := omega)
        refine endK _ g9 (T8.to l9) ?_ ?_ ?_ ?_ <;> simp [e1, e6, e7, e8]
      · simp (disch := omega) [e7]
        refine rbytesM T8.f (by omega) hok (fun v9 g9 S9 l9 => ?_)
        have S8' := S8.le' l9
        simp (disch := omega)
        refine ⟨?_, ?_⟩
        · refine str_34 S8' ?_
          simp (disch := omega)
          refine str_34 S9 ?_
          simp (disch := omega)
          refine endK _ g9 (T8.to l9) ?_ ?_ ?_ ?_ <;> simp [e1, e6, e7, e8]
        · refine str_34 S9 ?_
          simp (disch := omega)
          refine str_34 S8' ?_
          simp (disch := omega)
          refine endK _ g9 (T8.to l9) ?_ ?_ ?_ ?_ <;> simp [e1, e6, e7, e8]
    simp (disch := omega) [octroilaw12_JournalDoes_r7, octroilaw12_JournalDoes_r8, octroilaw12_JournalDoes_r9, e1', e8, hbg, hi', q0]
    have hkp : kp ≤ L.length := by obtain ⟨_, _, _, _, _, _, hk, _⟩ := T.a.m; exact hk
    by_cases k0 : o.k = 0
    · simp (disch := omega) [octroilaw12_JournalDoes_r10, octroilaw12_JournalDoes_r11, e1', e6, e7, e8, hbg, hi', q2, q3, q4, k0]
      refine jputM (f := (o.fk, o.fa, o.fn)) T.a.m (by omega) og.fa og.fn (fun g2 O2 F2 M2 => ?_)
      have T2 := T.prog F2 M2
      have hb2 := T2.a.le _ _ hb
      simp (disch := omega) [e1', e7, e8, hb2, hi', q2, q3, q4]
      refine rputM (f := (o.fk, o.fa, o.fn)) T2.f (by omega) (fun g3 k3 => ?_)
      obtain ⟨v3, T3⟩ := T2.ref k3
      have hlen := putJ_length room L (o.fk, o.fa, o.fn)
      simp (disch := omega)
      refine rest _ g3 O2 v3 kp _ T3 (by omega) ?_ ?_ ?_ ?_ ?_ <;> simp [e1, e6, e7, e8, hv']
    · by_cases k1 : o.k = 1
      · simp (disch := omega) [octroilaw12_JournalDoes_r10, octroilaw12_JournalDoes_r12, octroilaw12_JournalDoes_r13, e6, k0, k1]
        refine jsyncM T.a.m (by omega) (fun g2 F2 M2 => ?_)
        have T2 := T.prog F2 M2
        simp (disch := omega) [octroilaw12_JournalDoes_r14, e7]
        refine rsyncM T2.f (fun g3 k3 => ?_)
        obtain ⟨v3, T3⟩ := T2.ref k3
        simp (disch := omega)
        refine rest _ g3 O v3 _ _ T3 (by omega) ?_ ?_ ?_ ?_ ?_ <;> simp [e1, e6, e7, e8, hv']
      · by_cases k2 : o.k = 2
        · simp (disch := omega) [octroilaw12_JournalDoes_r10, octroilaw12_JournalDoes_r12, octroilaw12_JournalDoes_r15, octroilaw12_JournalDoes_r16, e1', e6, e8, hbg, hi', q1, k0, k1, k2]
          refine jcrashM (keep := o.n) T.a.m (by omega) (fun g2 O2 F2 M2 => ?_)
          have T2 := T.prog F2 M2
          have hb2 := T2.a.le _ _ hb
          simp (disch := omega) [octroilaw12_JournalDoes_r17, e1', e7, e8, hb2, hi', q1]
          refine rcrashM (keep := o.n) T2.f hkp (by omega) (fun g3 k3 => ?_)
          obtain ⟨v3, T3⟩ := T2.ref k3
          simp (disch := omega)
          refine rest _ g3 O2 v3 _ _ T3 (by rw [List.length_take]; omega) ?_ ?_ ?_ ?_ ?_ <;> simp [e1, e6, e7, e8, hv']
        · by_cases k3 : o.k = 3
          · simp (disch := omega) [octroilaw12_JournalDoes_r10, octroilaw12_JournalDoes_r12, octroilaw12_JournalDoes_r15, octroilaw12_JournalDoes_r18, octroilaw12_JournalDoes_r19, e6, k0, k1, k2, k3]
            refine jpackM T.a.m (by omega) (fun g2 O2 F2 M2 => ?_)
            have T2 := T.prog F2 M2
            have hfl : (factsL L).length ≤ L.length := by rw [factsL_length]; exact last_length
            simp (disch := omega) [octroilaw12_JournalDoes_r20, e7]
            refine rpackM T2.f (by omega) (fun g3 k3 => ?_)
            obtain ⟨v3, T3⟩ := T2.ref k3
            simp (disch := omega)
            refine rest _ g3 O2 v3 _ _ T3 (by omega) ?_ ?_ ?_ ?_ ?_ <;> simp [e1, e6, e7, e8, hv']
          · simp (disch := omega) [octroilaw12_JournalDoes_r10, octroilaw12_JournalDoes_r12, octroilaw12_JournalDoes_r15, octroilaw12_JournalDoes_r18, k0, k1, k2, k3]
            refine rest _ g O v kp L T (by omega) ?_ ?_ ?_ ?_ ?_ <;> simp [e1, e6, e7, e8, hv']
end Go.Proofs.Ytjcecdjbllpmcaa

/- JournalDoes: a journal of any room answers any calls as the document says, through any crashes; its device has the bytes that it says: the row. No condition. -/
namespace Go.Proofs.Ytjcecdjbllpmcaa.JournalDoes_row
open Go Go.ChangeShapes Go.WideShapes Go.RowKit
theorem own_knob : ownKnob Try.prog.godebug = none := by kernel_rfl
theorem laid_out : laidOutB Try.prog = true := by kernel_rfl
set_option maxRecDepth 100000 in
theorem lifted (os : Os) (started : os.Started) (H : Type) (enc : TypeId × Value → H) :
    ReturnsInHanded {} Try.checked os 7 .any (Rows.journalDoesSpec.pre6 enc Try.prog Try.f7 Rows.journalDoesRow.domain false) (Rows.journalDoesSpec.post enc Try.prog Try.f7 false true false false) := by
  refine returnsInHanded_of_change_sized (C := Try.checked) own_knob started (by kernel_rfl) Try.func7
    (ChangeSpec.witness6 (enc := enc) (C := Try.checked) false ⟨#[], #[.int .i64 0, .slice none 0 0], []⟩ 8 (by kernel_rfl) (by kernel_rfl) (by kernel_rfl) (by kernel_rfl)) ?_
  intro W base args ds gs before hval hW hcnd hsz _
  have hW' := hW
  obtain ⟨p, q, hA, hV, rfl, hfz, hnd⟩ := hW
  obtain ⟨rfl, rfl⟩ := trodVars_none hV
  have hA' : DataW.TrodAll enc Try.prog W 0 (fun _ => true) true Try.f7.params.toList args.toList ds p := hA
  have hval' : ∀ (j : Nat) t v, Try.f7.params[j]? = some t → args[j]? = some v → Value.okWide Try.prog W .any base t v := hval
  rw [Try.params7] at hA' hval'
  obtain ⟨v0, vs0, d0, ds0, p0, q0, hargs, rfl, rfl, h0, r0⟩ := trodAll_cons hA'
  obtain ⟨v1, vs1, d1, ds1, p1, q1, rfl, rfl, rfl, h1, r1⟩ := trodAll_cons r0
  obtain ⟨rfl, rfl, rfl⟩ := trodAll_nil r1
  obtain rfl : args = #[v0, v1] := by cases args; simp_all
  obtain ⟨n0, rfl, rfl, rfl, w0⟩ := open_int Try.underlying3 (hval' 0 _ v0 rfl rfl) h0
  obtain ⟨xs1, A1⟩ := open_argSl (ks := Op12Ks) (sz := 5) 4 Try.underlying42 (by kernel_rfl) (by kernel_rfl) (by decide) dec_Op12 (hval' 1 _ v1 rfl rfl) h1
  refine (below_of (JournalDoes_walk A1)).mono fun e W' ⟨he, bel⟩ => ?_
  subst he
  exact ⟨_, rfl, _, _, _, [], _, [], hW', trodAll_mk1 (shut_bool (by kernel_rfl) _), trodAll_below laid_out bel (by kernel_rfl) hA, rfl, bel.frame _, fun h => by cases h⟩
theorem over : Rows.journalDoesRow.holds Try.pinned (OpenSpec.ofChange Rows.journalDoesSpec) :=
  OpenClaim.holds_of_wide 7 Try.f7 rfl rfl rfl rfl rfl rfl rfl ⟨rfl, rfl, rfl, rfl, rfl⟩ rfl rfl rfl rfl rfl (by kernel_rfl) Try.func7 (by kernel_rfl)
    (of_decide_eq_true (by kernel_rfl)) (by unfold Func.isWrapper; first | (rw [if_pos (by decide +kernel)]; kernel_rfl) | (rw [if_neg (by decide +kernel)]; exact ⟨rfl, rfl⟩))
    (fun os started H enc _ => lifted os started H enc)
end Go.Proofs.Ytjcecdjbllpmcaa.JournalDoes_row
namespace Go.Proofs.Ytjcecdjbllpmcaa
theorem journalDoes_holds : Rows.JournalDoesSaid := JournalDoes_row.over
#print axioms journalDoes_holds
end Go.Proofs.Ytjcecdjbllpmcaa
