/- The journal's Crash. -/
import Derived.Test.YtjcecdjbllpmcaaRows
import Derived.Test.YtjcecdjbllpmcaaZ4

set_option linter.unusedSimpArgs false
set_option linter.unusedVariables false

namespace Go.Proofs.Ytjcecdjbllpmcaa
open Go
set_option linter.unusedSimpArgs false

def crN (kp : Nat) (L : List F3) (keep : Int) : Nat := kp + (keep.toNat % (12 * (L.length - kp) + 1)) / 12

theorem crN_le {kp : Nat} {L : List F3} {keep : Int} (h : kp ≤ L.length) : crN kp L keep ≤ L.length ∧ kp ≤ crN kp L keep := by
  unfold crN
  have := Nat.mod_lt keep.toNat (y := 12 * (L.length - kp) + 1) (by omega)
  omega

theorem fbs_take : ∀ (L : List F3) (n : Nat), (fbs L).take (12 * n) = fbs (L.take n)
  | [], n => by simp [fbs]
  | f :: L, 0 => by simp [fbs]
  | f :: L, n + 1 => by
    have e : fbs (f :: L) = fb f.1 f.2.1 f.2.2 ++ fbs L := by simp [fbs]
    rw [e, List.take_append, fb_length, List.take_of_length_le (by rw [fb_length]; omega), List.take_succ_cons, show 12 * (n + 1) - 12 = 12 * n by omega, fbs_take L n]
    simp [fbs]

theorem fbs_get : ∀ {L : List F3} {i : Nat} {f : F3} {j x : Nat}, L[i]? = some f → (fb f.1 f.2.1 f.2.2)[j]? = some x → (fbs L)[12 * i + j]? = some x
  | [], i, f, j, x, h, _ => by simp at h
  | g :: L, 0, f, j, x, h, h2 => by
    simp at h; subst h
    have e : fbs (g :: L) = fb g.1 g.2.1 g.2.2 ++ fbs L := by simp [fbs]
    have hj : j < 12 := (List.getElem?_eq_some_iff.1 h2).1
    rw [e, List.getElem?_append_left (by rw [fb_length]; omega)]
    simpa using h2
  | g :: L, i + 1, f, j, x, h, h2 => by
    have e : fbs (g :: L) = fb g.1 g.2.1 g.2.2 ++ fbs L := by simp [fbs]
    rw [e, List.getElem?_append_right (by rw [fb_length]; omega), fb_length, show 12 * (i + 1) + j - 12 = 12 * i + j by omega]
    exact fbs_get (by simpa using h) h2

theorem dev_to {h : Hp} {vd : Value} {bs : List Nat} {i : Nat} {z : Int} (S : SlAt h 5 1 be vd bs) (hz : z = (i : Nat)) (hi : i ≤ bs.length) :
    ∃ vd', rrun Try.prog (Instr.sliceAt 34 vd none (some (.int .i64 z)) none) noHp = some vd' ∧ SlAt h 5 1 be vd' (bs.take i) ∧ blkOf vd' = blkOf vd := by
  subst hz
  rcases S with ⟨rfl, rfl⟩ | ⟨b, cap, c, rfl, hb, h1, h2, h3⟩
  · have : i = 0 := by simpa using hi
    subst this
    exact ⟨_, sl_nil_34, .inl ⟨rfl, by simp⟩, rfl⟩
  · exact ⟨_, sl_to_34 (by omega) (by omega), SlAt.take (.inr ⟨b, cap, c, rfl, hb, h1, h2, h3⟩) _ hi, rfl⟩

section
variable {h : Hp} {j kp : Nat} {room : Int} {L : List F3} {O : List Nat} {Q : Value → Hp → Prop}

def CrInv (h0 : Hp) (j mr : Nat) (vd : Value) (room : Int) (kp : Nat) (L : List F3) (m : Nat) (env : Env) (g : Hp) : Prop :=
  ∃ i, i + m = L.length ∧ env 0 = .pointer (some ⟨j, 0, none⟩) ∧ env 4 = .int .i64 (12 * i : Nat) ∧ JAt g j room (12 * kp : Nat) vd (fbs L) mr (lastOf (L.take i)) ∧ Fr h0 g [mr] [mr]

set_option maxRecDepth 20000 in
theorem crStep {h0 : Hp} {mr m : Nat} {vd : Value} {env : Env} {g : Hp} {Q : Value → Hp → Prop} (I : CrInv h0 j mr vd room kp L m env g) (ho : ∀ f ∈ L, okF f) (hk : kp ≤ L.length) (hl : L.length ≤ 10000) (I' : Nat → Env → Hp → Prop)
    (hI : ∀ k env g, CrInv h0 j mr vd room kp L k env g → I' k env g)
    (hQ : ∀ g, JM g j room L.length L (j :: mr :: (blkOf vd).toList) → Fr h0 g (j :: mr :: (blkOf vd).toList) (j :: mr :: (blkOf vd).toList) → Q (.tuple #[]) g) :
    journal_Journal_Crash_S0_at0 (jumpK (fun l env h => l = 0 ∧ ∃ k, k < m ∧ I' k env h) (fin Try.prog [] Q)) env g := by
  obtain ⟨i, him, e0, e4, J, F⟩ := I
  unfold journal_Journal_Crash_S0_at0
  have hj := J.j
  have hlen := fbs_length L
  obtain ⟨p, cap, hv⟩ := J.d.shape'
  rw [hlen] at hv
  have F' : Fr h0 g (j :: mr :: (blkOf vd).toList) (j :: mr :: (blkOf vd).toList) := ⟨fun x o e n => F.keep x o e (fun q => n (by simp only [List.mem_cons, List.not_mem_nil, or_false] at q; simp [q])), fun _ e => .inl e⟩
  cases m with
  | zero =>
    have : i = L.length := by omega
    subst this
    rw [List.take_of_length_le (Nat.le_refl _)] at J
    have M : JM g j room kp L (j :: mr :: (blkOf vd).toList) := ⟨vd, mr, _, J, .refl _, rfl, hk, ho⟩
    rw [hv] at hj
    simp (disch := omega) [journal_Journal_Crash_r4, journal_Journal_Crash_r8, e0, e4, hj]
    refine jsyncM M hl (fun g' F2 M2 => ?_)
    simp (disch := omega)
    exact .to _ (.refl _) (hQ _ M2 (F'.trans F2))
  | succ m =>
    obtain ⟨f, hf⟩ : ∃ f, L[i]? = some f := ⟨_, List.getElem?_eq_getElem (by omega)⟩
    have hof := ho f (List.mem_of_getElem? hf)
    obtain ⟨hjm, hjd⟩ := J.ne
    have lt : i < L.length := by omega
    have D := J.d
    rcases D with ⟨rfl, hnil⟩ | ⟨b, cap', c, rfl, hb, h1, h2, h3⟩
    · simp only [Value.slice.injEq] at hv; omega
    rw [hlen] at hj h1
    have sl : rrun Try.prog (Instr.sliceAt 34 (.slice (some ⟨b, 0, none⟩) (12 * L.length) cap') (some (.int .i64 (12 * (i : Int)))) none none) noHp = some (.slice (some ⟨b, 12 * i, none⟩) (12 * L.length - 12 * i) (cap' - 12 * i)) := by
      rw [rr_slice_from und_34 size_5 (by omega) (by omega) (by omega)]
      simp only [Nat.zero_add, Nat.mul_one, show (12 * (i : Int)).toNat = 12 * i by omega]
    simp (disch := omega) [journal_Journal_Crash_r4, e0, e4, hj, lt]
    simp (disch := omega) [journal_Journal_Crash_r5, e0, e4, hj, sl]
    refine jgetf_spec (o := 12 * i) (len := 12 * L.length - 12 * i) (cap := cap' - 12 * i) hb hof (fun a x e => ?_) (by omega) (by omega) (by omega) (fun g1 l1 => ?_)
    · have := h3 (12 * i + a) x (fbs_get hf e) 0 (by omega)
      simpa [be] using this
    have hj1 := l1 _ _ hj
    obtain ⟨es, cl, em, hE⟩ := J.m
    have em1 := l1 _ _ em
    have hb1 := l1 _ _ hb
    obtain ⟨k, key, nn⟩ := f
    unfold fe
    simp (disch := omega)
    intro bx hbx
    have nj : j ≠ bx := ne_new hj1 hbx
    have nm : mr ≠ bx := ne_new em1 hbx
    have nb : b ≠ bx := ne_new hb1 hbx
    simp (disch := omega) [journal_Journal_Crash_r6, e0, hj1, nj]
    refine mu_50 (m := lastOf (L.take i)) ⟨es, cl, by simp [nm]; exact em1, hE⟩ (fun o2 H2 => ?_)
    simp (disch := omega) [journal_Journal_Crash_r7, e4, wrap_i64]
    refine ⟨m, by omega, hI _ _ _ ⟨i + 1, by omega, by simp [e0], by simp; omega, ⟨?_, ?_, ?_⟩, F.trans ⟨fun x o e n => ?_, fun _ e => .inl e⟩⟩⟩
    · have q1 : j ≠ mr := Ne.symm hjm
      have q2 : j ≠ bx := nj
      rw [upd_ne q1, upd_ne q2, hlen]; exact hj1
    · have q1 : b ≠ mr := (hjd b rfl).2
      refine SlAt.keep (.inr ⟨b, cap', c, by rw [hlen], hb1, by rw [hlen]; exact h1, h2, h3⟩) (fun x o e e2 => ?_)
      cases e
      rw [upd_ne q1, upd_ne nb]; exact e2
    · have tk : L.take (i + 1) = L.take i ++ [(k, key, nn)] := by rw [List.take_add_one, hf]; rfl
      rw [tk, lastOf_append]
      exact H2.keep (by rw [upd_same, upd_same])
    · have q1 : x ≠ mr := by rintro rfl; exact n (by simp)
      have q2 : x ≠ bx := ne_new (l1 _ _ e) hbx
      rw [upd_ne q1, upd_ne q2]; exact l1 _ _ e

set_option maxRecDepth 20000 in
theorem jcrashM {keep : Int} (M : JM h j room kp L O) (hl : L.length ≤ 10000) (hQ : ∀ h' O', Fr h h' O O' → JM h' j room (crN kp L keep) (L.take (crN kp L keep)) O' → Q (.tuple #[]) h') :
    Ok Try.prog F_journal_Journal_Crash #[.pointer (some ⟨j, 0, none⟩), .int .i64 keep] h Q := by
  obtain ⟨vd, mr, m, J, pm, rfl, hk, ho⟩ := M
  obtain ⟨hn1, hn2⟩ := crN_le (keep := keep) hk
  refine journal_Journal_Crash_ok (by simp) ?_
  unfold journal_Journal_Crash_D
  refine scp_one (r := fun env h K => journal_Journal_Crash_r0 env h fun env h => journal_Journal_Crash_r1 env h fun env h => journal_Journal_Crash_r2 env h fun env h => journal_Journal_Crash_r3 env h K) journal_Journal_Crash_S0_lab0 (by unfold journal_Journal_Crash_S0; rw [sq_rg, sq_rg, sq_rg]; rfl) ?_ ?_ ?_
  · exact fun m env g => ∃ vd' mr' h0, mr' ∉ j :: (blkOf vd').toList ∧ Fr h h0 (j :: mr :: (blkOf vd).toList) (j :: mr' :: (blkOf vd').toList) ∧ CrInv h0 j mr' vd' room kp (L.take (crN kp L keep)) m env g
  · intro K hK
    obtain ⟨hjm, hjd⟩ := J.ne
    have hj := J.j
    have hlen := fbs_length L
    obtain ⟨p, cap, hv⟩ := J.d.shape'
    obtain ⟨kb, hkb⟩ : ∃ kb, kb = 12 * kp := ⟨_, rfl⟩
    obtain ⟨nb, hnb⟩ : ∃ nb, nb = (fbs L).length := ⟨_, rfl⟩
    obtain ⟨q, hq⟩ : ∃ q, q = keep.toNat % (12 * (L.length - kp) + 1) := ⟨_, rfl⟩
    have hq2 : q < 12 * (L.length - kp) + 1 := by rw [hq]; exact Nat.mod_lt _ (by omega)
    have ht : (max keep 0).tmod ((nb : Int) - (kb : Int) + 1) = (q : Nat) := by
      rw [show max keep 0 = ((keep.toNat : Nat) : Int) by omega, show (nb : Int) - (kb : Int) + 1 = ((12 * (L.length - kp) + 1 : Nat) : Int) by omega, hq]
      rfl
    obtain ⟨vd1, sl1, S1, b1⟩ := dev_to (i := kb + q) (z := (kb : Int) + (q : Int)) J.d (by omega) (by omega)
    rw [hv, ← hnb] at sl1
    rw [hv, ← hkb, ← hnb] at hj
    have d0 : (nb : Int) - (kb : Int) + 1 ≠ 0 := by omega
    obtain ⟨p1, cap1, hv1⟩ := S1.shape'
    have hl1 : ((fbs L).take (kb + q)).length = kb + q := by rw [List.length_take]; omega
    rw [hl1] at hv1
    have hc : crN kp L keep = (kb + q) / 12 := by unfold crN; rw [← hq]; omega
    simp (disch := omega) [journal_Journal_Crash_r0, hj, wrap_i64, ht, d0, sl1]
    rw [hv1]
    obtain ⟨n, hn⟩ : ∃ n, n = crN kp L keep := ⟨_, rfl⟩
    rw [← hn] at hc
    have hd : ((kb : Int) + (q : Int)).tdiv 12 = (n : Nat) := by rw [hc, show (kb : Int) + (q : Int) = ((kb + q : Nat) : Int) by omega]; rfl
    obtain ⟨vd2, sl2, S2, b2⟩ := dev_to (i := 12 * n) (z := (n : Int) * 12) S1 (by omega) (by omega)
    rw [hv1] at sl2
    obtain ⟨p2, cap2, hv2⟩ := S2.shape'
    have hn12 : n ≤ L.length := by omega
    have hs2 : ((fbs L).take (kb + q)).take (12 * n) = fbs (L.take n) := by rw [List.take_take, Nat.min_eq_left (by omega), fbs_take]
    rw [hs2] at S2 hv2
    rw [fbs_length, List.length_take, Nat.min_eq_left hn12] at hv2
    simp (disch := omega) [journal_Journal_Crash_r1, hj, wrap_i64, hd, sl2]
    rw [hv2]
    simp (disch := omega) [journal_Journal_Crash_r2, hj]
    refine arun_makeMapB (kenc := nke) (venc := nve) (fun b hb MB => ?_)
    have hb2 := hb
    rw [setCell_def, upd_same] at hb2
    simp only [upd_upd] at hb2
    obtain ⟨nj, hb'⟩ := upd_none hb2
    simp (disch := omega) [journal_Journal_Crash_r3, hj, nj, Ne.symm nj]
    refine hK n _ _ ?_
    rw [← hn]
    have nvd : ∀ x, blkOf vd = some x → x ≠ b := fun x e q => by obtain ⟨o, e2⟩ := J.d.alive e; rw [q, hb'] at e2; cases e2
    have hjd2 : ∀ x, blkOf vd2 = some x → x ≠ j ∧ x ≠ b := fun x e => ⟨(hjd x (by rw [← b1, ← b2]; exact e)).1, nvd x (by rw [← b1, ← b2]; exact e)⟩
    refine ⟨vd2, b, _, ?_, ⟨fun x o e nx => ?_, fun x e => ?_⟩, 0, by rw [List.length_take]; omega, by simp, by simp, ⟨?_, ?_, MB.keep (by rw [upd_ne nj, upd_same, upd_same])⟩, .refl _ _⟩
    · simp only [List.mem_cons, not_or, Option.mem_toList]
      exact ⟨nj, fun e => (hjd2 _ e).2 rfl⟩
    · simp only [List.mem_cons, not_or] at nx
      have nb2 : x ≠ b := by rintro rfl; rw [hb'] at e; cases e
      rw [upd_ne nx.1, upd_ne nb2, upd_ne nx.1]; exact e
    · simp only [List.mem_cons, Option.mem_toList] at e ⊢
      rcases e with e | e | e
      · exact .inl (.inl e)
      · exact .inr (by rw [e]; exact hb')
      · exact .inl (.inr (.inr (by rw [← b1, ← b2]; exact e)))
    · rw [upd_same, hv2, hkb]
    · exact S2.keep (fun x o e e2 => by rw [upd_ne (hjd2 x e).1, upd_ne (hjd2 x e).2, upd_ne (hjd2 x e).1]; exact e2)
  · rintro m env g ⟨vd', mr', h0, hm, F, I⟩
    refine crStep I (fun f hf => ho f (List.mem_of_mem_take hf)) (by rw [List.length_take]; omega) (by rw [List.length_take]; omega) _ (fun k env g I => ⟨vd', mr', h0, hm, F, I⟩) (fun g M F2 => ?_)
    rw [show (L.take (crN kp L keep)).length = crN kp L keep by rw [List.length_take]; omega] at M
    exact hQ _ _ (F.trans F2) M
end
end Go.Proofs.Ytjcecdjbllpmcaa

/- The chapter's example is as the document says. -/
namespace Go.Proofs.Ytjcecdjbllpmcaa
open Go
set_option linter.unusedSimpArgs false

theorem aw1 : putJ 10 [] (1, 5, 7) = (0, [(1, 5, 7)]) := by decide +kernel
theorem aw2 : putJ 10 [(1, 5, 7)] (1, 5, 9) = (0, [(1, 5, 7), (1, 5, 9)]) := by decide +kernel
theorem aw3 : crN 1 [(1, 5, 7), (1, 5, 9)] 11 = 1 := by decide +kernel
theorem aw4 : getM (lastOf [(1, 5, 7)]) (1, 5) = some 7 := by decide +kernel

theorem fe_def (a : Int) (b c : Nat) : fe (a, b, c) = .agg #[.int .i64 a, .int .u32 (b : Nat), .int .u32 (c : Nat)] := rfl

set_option maxRecDepth 20000 in
theorem awake_spec {h : Hp} {Q : Value → Hp → Prop} (hQ : ∀ h', Le h h' → Q (.bool true) h') : Ok Try.prog F_octroilaw12_awake #[] h Q := by
  refine octroilaw12_awake_ok (by simp) ?_
  unfold octroilaw12_awake_D
  simp (disch := omega) [octroilaw12_awake_r0, octroilaw12_awake_r1]
  refine jnewM (fun j h1 O1 l1 n1 M1 => ?_)
  simp (disch := omega) [octroilaw12_awake_r2, octroilaw12_awake_r4]
  refine jputM (f := (1, 5, 7)) M1 (by simp) (by simp) (by simp) (fun h2 O2 F2 M2 => ?_)
  have l2 := F2.le l1 n1
  have n2 := F2.new l1 n1
  rw [aw1] at M2 ⊢
  simp (disch := omega) [octroilaw12_awake_r5]
  refine jsyncM M2 (by simp) (fun h3 F3 M3 => ?_)
  have l3 := F3.le l2 n2
  have n3 := F3.new l2 n2
  simp (disch := omega) [octroilaw12_awake_r6]
  refine jputM (f := (1, 5, 9)) M3 (by simp) (by simp) (by simp) (fun h4 O4 F4 M4 => ?_)
  have l4 := F4.le l3 n3
  have n4 := F4.new l3 n3
  rw [aw2] at M4 ⊢
  simp (disch := omega) [octroilaw12_awake_r7]
  refine jcrashM (kp := 1) M4 (by simp) (fun h5 O5 F5 M5 => ?_)
  have l5 := F5.le l4 n4
  simp only [] at M5
  rw [aw3] at M5
  simp (disch := omega) [octroilaw12_awake_r8]
  refine jgetM (k := 1) (key := 5) M5 ?_
  rw [show List.take 1 [((1 : Int), 5, 7), (1, 5, 9)] = [(1, 5, 7)] from rfl, aw4]
  simp (disch := omega) [octroilaw12_awake_r9]
  refine jlenM M5 (by simp) ?_
  simp (disch := omega)
  exact .to _ (.refl _) (hQ _ l5)
end Go.Proofs.Ytjcecdjbllpmcaa

/- JournalLast: what was put last is what is known: the walk. -/
namespace Go.Proofs.Ytjcecdjbllpmcaa
open Go
set_option linter.unusedSimpArgs false
set_option linter.unusedVariables false

def fc (f : F3) : List Value := [.int .i64 f.1, .int .u32 (f.2.1 : Nat), .int .u32 (f.2.2 : Nat)]
def fGood (f : F3) : Prop := f.2.1 < 2 ^ 32 ∧ f.2.2 < 2 ^ 32
def argFs (h : Hp) (v : Value) (xs : List F3) : Prop := ArgSl h 3 fc fGood v xs

theorem argFs.get {h : Hp} {v : Value} {xs : List F3} {i : Nat} {x : F3} (A : argFs h v xs) (hx : xs[i]? = some x) :
    fGood x ∧ ∃ b o cap c E fr, v = .slice (some ⟨b, o, none⟩) xs.length cap ∧ h b = some (.cells c E fr) ∧ c[o + i * 3]? = some (.int .i64 x.1) ∧ c[o + i * 3 + 1]? = some (.int .u32 (x.2.1 : Nat)) ∧ c[o + i * 3 + 2]? = some (.int .u32 (x.2.2 : Nat)) := by
  obtain ⟨hg, b, o, cap, c, E, fr, e, hb, he⟩ := ArgSl.at A hx
  exact ⟨hg, b, o, cap, c, E, fr, e, hb, he 0 (by omega), he 1 (by omega), he 2 (by omega)⟩

def putsJ (room : Int) (L : List F3) (xs : List F3) : List F3 := xs.foldl (fun L f => (putJ room L f).2) L

theorem putsJ_snoc {room : Int} {L xs : List F3} {x : F3} : putsJ room L (xs ++ [x]) = (putJ room (putsJ room L xs) x).2 := by simp [putsJ]

theorem putJ_length (room : Int) (L : List F3) (f : F3) : (putJ room L f).2.length ≤ L.length + 1 := by
  unfold putJ
  split
  · simp
  · split <;> simp

theorem putsJ_length (room : Int) : ∀ (xs L : List F3), (putsJ room L xs).length ≤ L.length + xs.length
  | [], L => by simp [putsJ]
  | x :: xs, L => by
    have h1 := putsJ_length room xs (putJ room L x).2
    have h2 := putJ_length room L x
    have e : putsJ room L (x :: xs) = putsJ room (putJ room L x).2 xs := rfl
    rw [e, List.length_cons]; omega

theorem take_succ_of {α : Type} {xs : List α} {i : Nat} {x : α} (h : xs[i]? = some x) : xs.take (i + 1) = xs.take i ++ [x] := by rw [List.take_add_one, h]; rfl

/-- A journal of one's own, behind an older heap. -/
structure JOwn (h0 g : Hp) (j : Nat) (room : Int) (kp : Nat) (L : List F3) (O : List Nat) : Prop where
  m : JM g j room kp L O
  le : Le h0 g
  new : ∀ x, x ∈ O → h0 x = none

theorem JOwn.fr {h0 g g' : Hp} {j : Nat} {room : Int} {kp kp' : Nat} {L L' : List F3} {O O' : List Nat} (A : JOwn h0 g j room kp L O) (F : Fr g g' O O') (M : JM g' j room kp' L' O') : JOwn h0 g' j room kp' L' O' :=
  ⟨M, F.le A.le A.new, F.new A.le A.new⟩

theorem last_none {L : List F3} {q : Int × Nat} (h : ∀ f ∈ L, (f.1, f.2.1) ≠ q) : getM (lastOf L) q = none := by
  have key : ∀ (L : List F3) (m : List ((Int × Nat) × Nat)), getM m q = none → (∀ f ∈ L, (f.1, f.2.1) ≠ q) → getM (L.foldl stF m) q = none := by
    intro L
    induction L with
    | nil => intro m h _; exact h
    | cons f L ih =>
      intro m h hne
      refine ih _ ?_ (fun g hg => hne g (List.mem_cons_of_mem _ hg))
      unfold stF
      rw [getM_setM, if_neg (fun e => hne f (List.mem_cons_self ..) e.symm)]; exact h
  exact key L [] rfl h

theorem getM_last {L : List F3} {f : F3} {q : Int × Nat} : getM (lastOf (L ++ [f])) q = if q = (f.1, f.2.1) then some f.2.2 else getM (lastOf L) q := by
  rw [lastOf_append]; unfold stF; rw [getM_setM]

def LastInv (h0 : Hp) (v : Value) (xs : List F3) (kind : Int) (key b : Nat) (m : Nat) (env : Env) (g : Hp) : Prop :=
  ∃ j O i, env 0 = v ∧ env 2 = .int .i64 kind ∧ env 3 = .int .u32 key ∧ env 5 = .pointer (some ⟨b, 0, none⟩) ∧ env 10 = .pointer (some ⟨j, 0, none⟩) ∧ env 11 = .int .i64 (i : Nat) ∧ i + m = xs.length ∧ i ≤ xs.length ∧
    JOwn h0 g j 1000 0 (putsJ 1000 [] (xs.take i)) O

set_option maxHeartbeats 2000000 in
set_option maxRecDepth 20000 in
theorem last_loop {h h0 : Hp} {v : Value} {xs : List F3} {p : Option Addr} {cap b : Nat} {kind fk : Int} {key fkey fn : Nat} (A0 : argFs h0 v xs) (hv : v = .slice p xs.length cap) (hbig : ¬ (150 : Int) < (xs.length : Int))
    (h5 : h0 b = some (.cells #[.int .i64 fk, .int .u32 fkey, .int .u32 fn] 25)) (hf1 : fkey < 2 ^ 32) (hf2 : fn < 2 ^ 32) (hpq : (kind, key) ≠ (fk, fkey)) (heq : ¬ (kind = fk ∧ key = fkey)) (L0 : Le h h0) :
    ∀ m env g, LastInv h0 v xs kind key b m env g → octroilaw12_JournalLast_L0 (roundK (LastInv h0 v xs kind key b) m (inBlk 0 (thenK (sq (rg octroilaw12_JournalLast_r9) (sq (rg octroilaw12_JournalLast_r10) (sq (rg octroilaw12_JournalLast_r11) (sq (rg octroilaw12_JournalLast_r12) (sq (rg octroilaw12_JournalLast_r13) (ex .ret))))))
      (fin Try.prog [ResultVar.tmp 8] (fun r g => r = .bool true ∧ Le h g))))) env g := by
  rintro m env g ⟨j, O, i, e0, e2, e3, e5, e10, e11, him, hi, J⟩
  have h5' := J.le _ _ h5
  have hl := putsJ_length 1000 (xs.take i) []
  rw [List.length_take, Nat.min_eq_left hi] at hl
  simp only [List.length_nil] at hl
  unfold octroilaw12_JournalLast_L0
  by_cases hm : m = 0
  · have hin : i = xs.length := by omega
    subst hin
    simp only [List.take_length] at J hl
    generalize putsJ 1000 [] xs = L at *
    simp (disch := omega) [octroilaw12_JournalLast_r6, octroilaw12_JournalLast_r9, e0, e2, e3, e5, e10, e11, hv]
    refine jgetM J.m ?_
    simp (disch := omega) [octroilaw12_JournalLast_r10, e0, e2, e3, e5, e10, e11, h5']
    refine jputM (f := (fk, fkey, fn)) J.m (by omega) hf1 hf2 (fun g1 O1 F1 M1 => ?_)
    have J1 := J.fr F1 M1
    have h51 := J1.le _ _ h5
    have ho : ∀ f ∈ L, okF f := by obtain ⟨_, _, _, _, _, _, _, ho⟩ := J.m; exact ho
    simp (disch := omega) [octroilaw12_JournalLast_r11, e0, e2, e3, e5, e10, e11, h51]
    refine jgetM J1.m ?_
    simp (disch := omega) [octroilaw12_JournalLast_r12, e0, e2, e3, e5, e10, e11, h51]
    refine jgetM J1.m ?_
    by_cases hr : fk < 0 ∨ 255 < fk
    · have e : putJ 1000 L (fk, fkey, fn) = (1, L) := by unfold putJ; rw [if_pos hr]
      have q : getM (lastOf L) (fk, fkey) = none := last_none (fun f m e => by have := ho f m; unfold okF at this; simp only [Prod.mk.injEq] at e; omega)
      simp (disch := omega) [octroilaw12_JournalLast_r13, e0, e2, e3, e5, e10, e11, h51, e, q]
      exact .to _ (.refl _) ⟨rfl, L0.trans J1.le⟩
    · have e : putJ 1000 L (fk, fkey, fn) = (0, L ++ [(fk, fkey, fn)]) := by unfold putJ; rw [if_neg hr, if_neg (by omega)]
      simp (disch := omega) [octroilaw12_JournalLast_r13, e0, e2, e3, e5, e10, e11, h51, e, getM_last, hpq, heq]
      exact .to _ (.refl _) ⟨rfl, L0.trans J1.le⟩
  · obtain ⟨x, hx⟩ : ∃ x, xs[i]? = some x := ⟨_, List.getElem?_eq_getElem (by omega)⟩
    obtain ⟨⟨g1, g2⟩, bb, o, cap', c, E, fr, hv', hbb, f0, f1, f2⟩ := argFs.get A0 hx
    have hbb' := J.le _ _ hbb
    obtain ⟨x1, x2, x3⟩ := x
    simp only at g1 g2 f0 f1 f2
    rw [hv'] at e0
    have hi' : (i : Int) < (xs.length : Int) := by omega
    simp (disch := omega) [octroilaw12_JournalLast_r6, octroilaw12_JournalLast_r7, e0, e2, e3, e5, e10, e11, hi', hbb', f0, f1, f2]
    refine jputM (f := (x1, x2, x3)) J.m (by omega) g1 g2 (fun g1 O1 F1 M1 => ?_)
    have J1 := J.fr F1 M1
    rw [← putsJ_snoc, ← take_succ_of hx] at J1
    simp (disch := omega) [octroilaw12_JournalLast_r8, e0, e2, e3, e5, e10, e11, wrap_i64]
    exact ⟨m - 1, by omega, j, O1, i + 1, by simp [e0, hv'], by simp [e2], by simp [e3], by simp [e5], by simp [e10], by simp, by omega, by omega, J1⟩

set_option maxHeartbeats 2000000 in
set_option maxRecDepth 20000 in
theorem JournalLast_walk {h : Hp} {v : Value} {xs : List F3} {f : F3} {kind : Int} {key : Nat} (A : argFs h v xs) (hf : fGood f) :
    Ok Try.prog F_octroilaw12_JournalLast #[v, fe f, .int .i64 kind, .int .u32 key] h (fun r g => r = .bool true ∧ Le h g) := by
  obtain ⟨fk, fkey, fn⟩ := f
  obtain ⟨hf1, hf2⟩ := hf
  simp only at hf1 hf2
  obtain ⟨p, cap, hv⟩ := ArgSl.shape A
  have hlen := ArgSl.len A
  have hmax : maxLen < 2 ^ 63 := by decide
  refine octroilaw12_JournalLast_ok (by simp) ?_
  unfold octroilaw12_JournalLast_D fe
  simp (disch := omega) [octroilaw12_JournalLast_r0]
  intro b hb
  have L0 : Le h (h.upd b (.cells #[.int .i64 fk, .int .u32 fkey, .int .u32 fn] 25)) := .new hb
  have h5 : (h.upd b (.cells #[.int .i64 fk, .int .u32 fkey, .int .u32 fn] 25)) b = some (.cells #[.int .i64 fk, .int .u32 fkey, .int .u32 fn] 25) := by simp
  simp (disch := omega) [octroilaw12_JournalLast_r1]
  generalize h.upd b (.cells #[.int .i64 fk, .int .u32 fkey, .int .u32 fn] 25) = h0 at *
  have A0 := ArgSl.le A L0
  refine awake_spec (fun h1 L1 => ?_)
  simp (disch := omega) [octroilaw12_JournalLast_r2]
  refine jnewM (fun j h2 O l2 n2 M2 => ?_)
  have J2 : JOwn h0 h2 j 1000 0 [] O := ⟨M2, L1.trans l2, fun x m => none_of_le L1 (n2 x m)⟩
  have h5' := J2.le _ _ h5
  clear M2 n2 l2
  by_cases hbig : (150 : Int) < (xs.length : Int)
  · simp (disch := omega) [octroilaw12_JournalLast_r3, octroilaw12_JournalLast_r4, hv, hbig]
    exact .to _ (.refl _) ⟨rfl, L0.trans J2.le⟩
  by_cases heq : kind = fk ∧ key = fkey
  · obtain ⟨rfl, rfl⟩ := heq
    simp (disch := omega) [octroilaw12_JournalLast_r3, octroilaw12_JournalLast_r4, hv, hbig, h5']
    exact .to _ (.refl _) ⟨rfl, L0.trans J2.le⟩
  have hpq : (kind, key) ≠ (fk, fkey) := by simp only [ne_eq, Prod.mk.injEq]; omega
  have hcs : kind ≠ fk ∨ (kind = fk ∧ (key : Int) ≠ (fkey : Int)) := by omega
  have hcs2 : kind ≠ fk ∨ (kind = fk ∧ key ≠ fkey) := by omega
  rcases hcs with hk | ⟨hk, hk2⟩
  · simp (disch := omega) [octroilaw12_JournalLast_r3, octroilaw12_JournalLast_r5, hv, hbig, h5', hk]
    refine ⟨LastInv h0 v xs kind key b, ⟨xs.length, j, O, 0, by simp [hv], by simp, by simp, by simp, by simp, by simp, by omega, by omega, by simpa [putsJ] using J2⟩, ?_⟩
    exact last_loop A0 hv hbig h5 hf1 hf2 hpq heq L0
  · have hk3 : key ≠ fkey := by omega
    simp (disch := omega) [octroilaw12_JournalLast_r3, octroilaw12_JournalLast_r5, hv, hbig, h5', hk, hk2, hk3]
    refine ⟨LastInv h0 v xs kind key b, ⟨xs.length, j, O, 0, by simp [hv], by simp [hk], by simp, by simp, by simp, by simp, by omega, by omega, by simpa [putsJ] using J2⟩, ?_⟩
    exact last_loop A0 hv hbig h5 hf1 hf2 hpq heq L0
end Go.Proofs.Ytjcecdjbllpmcaa

/- What the arguments of these laws read: their flat parts. -/
namespace Go.Proofs.Ytjcecdjbllpmcaa
open Go

def fcKs : List Lk := [.int .i64, .int .u32, .int .u32]

theorem dec_fc {H : Type} {enc : TypeId × Value → H} {w : World} {base : Nat} {spare : Nat → Bool} {held : Bool} (cs : List Value) (h : okLs enc Try.prog w base spare held fcKs cs) : ∃ x : F3, cs = fc x ∧ fGood x := by
  obtain ⟨k, _, rfl, w1, h⟩ := okLs_int h
  obtain ⟨a, _, rfl, w2, h⟩ := okLs_int h
  obtain ⟨n, _, rfl, w3, h⟩ := okLs_int h
  obtain rfl := okLs_nil h
  obtain ⟨a', rfl, ha⟩ := u32_wf w2
  obtain ⟨n', rfl, hn⟩ := u32_wf w3
  exact ⟨⟨k, a', n'⟩, rfl, ⟨ha, hn⟩⟩
end Go.Proofs.Ytjcecdjbllpmcaa

/- The journal's bytes: Clone, Bytes, as a string. -/
namespace Go.Proofs.Ytjcecdjbllpmcaa
open Go
set_option linter.unusedSimpArgs false

theorem clone_spec {h : Hp} {v : Value} {xs : List Nat} {Q : Value → Hp → Prop} (S : SlAt h 5 1 be v xs) (hl : xs.length ≤ 1000000) (hQ : ∀ v' h', SlAt h' 5 1 be v' xs → Le h h' → Q v' h') : Ok Try.prog F_slices_Clone_byte_byte #[v] h Q := by
  refine slices_Clone_byte_byte_ok (by simp) ?_
  unfold slices_Clone_byte_byte_D
  rcases S with ⟨rfl, rfl⟩ | ⟨b, cap, c, rfl, hb, h1, h2, h3⟩
  · simp (disch := omega) [slices_Clone_byte_byte_r0, slices_Clone_byte_byte_r1, slices_Clone_byte_byte_r2]
    exact .to _ (.refl _) (hQ _ _ (.inl ⟨rfl, rfl⟩) (.refl _))
  · simp (disch := omega) [slices_Clone_byte_byte_r0, slices_Clone_byte_byte_r1, slices_Clone_byte_byte_r3]
    intro b2 hb2
    have S2 : SlAt (h.upd b2 (.cells #[] 5)) 5 1 be (.slice (some ⟨b2, 0, none⟩) 0 0) [] := .inr ⟨b2, 0, #[], rfl, by simp, by simp, by simp, fun i x hx => by simp at hx⟩
    have S1 : SlAt h 5 1 be (.slice (some ⟨b, 0, none⟩) xs.length cap) xs := .inr ⟨b, cap, c, rfl, hb, h1, h2, h3⟩
    refine cat_bytes S2 (S1.le' (.new hb2)).src (by simpa using hl) (fun v' h' S' G => ?_)
    simp (disch := omega)
    refine .to _ (.refl _) (hQ _ _ (by simpa using S') (fun x o e => G.keep x o (Le.new hb2 _ _ e) (fun q => ?_)))
    have : x = b2 := by simpa [blkOf] using q
    rw [this, hb2] at e; cases e

section
variable {h : Hp} {j kp : Nat} {room : Int} {L : List F3} {O : List Nat} {Q : Value → Hp → Prop}

theorem jbytesM (M : JM h j room kp L O) (hl : L.length ≤ 10000) (hQ : ∀ v h', SlAt h' 5 1 be v (fbs L) → Le h h' → Q v h') : Ok Try.prog F_journal_Journal_Bytes #[.pointer (some ⟨j, 0, none⟩)] h Q := by
  obtain ⟨vd, mr, m, J, pm, rfl, r⟩ := M
  refine journal_Journal_Bytes_ok (by simp) ?_
  unfold journal_Journal_Bytes_D
  have hj := J.j
  simp (disch := omega) [journal_Journal_Bytes_r0, journal_Journal_Bytes_r1, hj]
  refine clone_spec J.d (by rw [fbs_length]; omega) (fun v' h' S' l => ?_)
  simp (disch := omega)
  exact .to _ (.refl _) (hQ _ _ S' l)

theorem str_34 {v : Value} {xs : List Nat} {K : Value → Hp → Prop} (S : SlAt h 5 1 be v xs) (hK : K (.string (mkB xs)) h) : arun Try.prog (convert 34 9 v) h K :=
  arun_convert_bytes und_34 Try.underlying5 Try.underlying9 S hK
end
end Go.Proofs.Ytjcecdjbllpmcaa

/- JournalSyncs: what was synced is left by any crash: the walk. -/
namespace Go.Proofs.Ytjcecdjbllpmcaa
open Go
set_option linter.unusedSimpArgs false
set_option linter.unusedVariables false

theorem crN_full (L : List F3) (k : Int) : crN L.length L k = L.length := by unfold crN; simp; omega

def SyncInv (h0 : Hp) (v : Value) (xs : List F3) (one two : Int) (m : Nat) (env : Env) (g : Hp) : Prop :=
  ∃ j O i, env 0 = v ∧ env 1 = .int .i64 one ∧ env 2 = .int .i64 two ∧ env 8 = .pointer (some ⟨j, 0, none⟩) ∧ env 9 = .int .i64 (i : Nat) ∧ i + m = xs.length ∧ i ≤ xs.length ∧
    JOwn h0 g j 1000 0 (putsJ 1000 [] (xs.take i)) O

theorem JOwn.le2 {h0 g g' : Hp} {j : Nat} {room : Int} {kp : Nat} {L : List F3} {O : List Nat} (A : JOwn h0 g j room kp L O) (l : Le g g') : JOwn h0 g' j room kp L O := ⟨A.m.le l, A.le.trans l, A.new⟩

set_option maxHeartbeats 2000000 in
set_option maxRecDepth 20000 in
theorem JournalSyncs_walk {h : Hp} {v : Value} {xs : List F3} {one two : Int} (A : argFs h v xs) :
    Ok Try.prog F_octroilaw12_JournalSyncs #[v, .int .i64 one, .int .i64 two] h (fun r g => r = .bool true ∧ Le h g) := by
  obtain ⟨p, cap, hv⟩ := ArgSl.shape A
  have hlen := ArgSl.len A
  have hmax : maxLen < 2 ^ 63 := by decide
  refine octroilaw12_JournalSyncs_ok (by simp) ?_
  unfold octroilaw12_JournalSyncs_D
  simp (disch := omega) [octroilaw12_JournalSyncs_r0, octroilaw12_JournalSyncs_r1]
  refine awake_spec (fun h1 L1 => ?_)
  simp (disch := omega) [octroilaw12_JournalSyncs_r2]
  refine jnewM (fun j h2 O l2 n2 M2 => ?_)
  have J2 : JOwn h h2 j 1000 0 [] O := ⟨M2, L1.trans l2, fun x m => none_of_le L1 (n2 x m)⟩
  clear M2 n2 l2
  by_cases hbig : (150 : Int) < (xs.length : Int)
  · simp (disch := omega) [octroilaw12_JournalSyncs_r3, octroilaw12_JournalSyncs_r4, hv, hbig]
    exact .to _ (.refl _) ⟨rfl, J2.le⟩
  simp (disch := omega) [octroilaw12_JournalSyncs_r3, octroilaw12_JournalSyncs_r5, hv, hbig]
  refine ⟨SyncInv h v xs one two, ⟨xs.length, j, O, 0, by simp [hv], by simp, by simp, by simp, by simp, by omega, by omega, by simpa [putsJ] using J2⟩, ?_⟩
  clear J2 L1
  rintro m env g ⟨j, O, i, e0, e1, e2, e8, e9, him, hi, J⟩
  have hl := putsJ_length 1000 (xs.take i) []
  rw [List.length_take, Nat.min_eq_left hi] at hl
  simp only [List.length_nil] at hl
  unfold octroilaw12_JournalSyncs_L0
  by_cases hm : m = 0
  · have hin : i = xs.length := by omega
    subst hin
    simp only [List.take_length] at J hl
    generalize putsJ 1000 [] xs = L at *
    simp (disch := omega) [octroilaw12_JournalSyncs_r6, octroilaw12_JournalSyncs_r9, e0, e1, e2, e8, e9, hv]
    refine jbytesM J.m (by omega) (fun v1 h3 S1 l1 => ?_)
    refine str_34 S1 ?_
    have J1 := J.le2 l1
    simp (disch := omega) [octroilaw12_JournalSyncs_r10, e0, e1, e2, e8, e9]
    refine jsyncM J1.m (by omega) (fun h4 F4 M4 => ?_)
    have J4 := J1.fr F4 M4
    simp (disch := omega) [octroilaw12_JournalSyncs_r11, e0, e1, e2, e8, e9]
    refine jcrashM J4.m (by omega) (fun h5 O5 F5 M5 => ?_)
    rw [crN_full, List.take_length] at M5
    have J5 := J4.fr F5 M5
    simp (disch := omega) [octroilaw12_JournalSyncs_r12, e0, e1, e2, e8, e9]
    refine jbytesM J5.m (by omega) (fun v6 h6 S6 l6 => ?_)
    refine str_34 S6 ?_
    have J6 := J5.le2 l6
    simp (disch := omega) [octroilaw12_JournalSyncs_r13, e0, e1, e2, e8, e9]
    refine jcrashM J6.m (by omega) (fun h7 O7 F7 M7 => ?_)
    rw [crN_full, List.take_length] at M7
    have J7 := J6.fr F7 M7
    simp (disch := omega) [octroilaw12_JournalSyncs_r14, e0, e1, e2, e8, e9]
    refine jbytesM J7.m (by omega) (fun v8 h8 S8 l8 => ?_)
    refine str_34 S8 ?_
    simp (disch := omega)
    exact .to _ (.refl _) ⟨rfl, (J7.le2 l8).le⟩
  · obtain ⟨x, hx⟩ : ∃ x, xs[i]? = some x := ⟨_, List.getElem?_eq_getElem (by omega)⟩
    obtain ⟨⟨g1, g2⟩, bb, o, cap', c, E, fr, hv', hbb, f0, f1, f2⟩ := argFs.get A hx
    have hbb' := J.le _ _ hbb
    obtain ⟨x1, x2, x3⟩ := x
    simp only at g1 g2 f0 f1 f2
    rw [hv'] at e0
    have hi' : (i : Int) < (xs.length : Int) := by omega
    simp (disch := omega) [octroilaw12_JournalSyncs_r6, octroilaw12_JournalSyncs_r7, e0, e1, e2, e8, e9, hi', hbb', f0, f1, f2]
    refine jputM (f := (x1, x2, x3)) J.m (by omega) g1 g2 (fun g1 O1 F1 M1 => ?_)
    have J1 := J.fr F1 M1
    rw [← putsJ_snoc, ← take_succ_of hx] at J1
    simp (disch := omega) [octroilaw12_JournalSyncs_r8, e0, e1, e2, e8, e9, wrap_i64]
    exact ⟨m - 1, by omega, j, O1, i + 1, by simp [e0, hv'], by simp [e1], by simp [e2], by simp [e8], by simp, by omega, by omega, J1⟩
end Go.Proofs.Ytjcecdjbllpmcaa

/- The journal's Facts. -/
namespace Go.Proofs.Ytjcecdjbllpmcaa
open Go
set_option linter.unusedSimpArgs false
set_option linter.unusedVariables false

def insN (k : NK) : List NK → List NK
  | [] => [k]
  | y :: ys => if nlt k y then k :: y :: ys else y :: insN k ys
theorem insN_perm {k : NK} : ∀ {l : List NK}, (insN k l).Perm (k :: l)
  | [] => .refl _
  | y :: ys => by
    rw [insN]
    split
    · exact .refl _
    · exact ((insN_perm (l := ys)).cons y).trans (.swap _ _ _)
theorem insN_srt {k : NK} : ∀ {l : List NK}, SrtJ l → SrtJ (insN k l)
  | [], _ => by simp [insN, SrtJ]
  | y :: ys, s => by
    unfold SrtJ at *
    rw [List.pairwise_cons] at s
    rw [insN]
    by_cases h : nlt k y
    · rw [if_pos h, List.pairwise_cons, List.pairwise_cons]
      refine ⟨fun z hz => ?_, s⟩
      rcases List.mem_cons.1 hz with rfl | hz
      · exact nlt_asym h
      · intro q
        exact s.1 z hz (nlt_trans q h)
    · rw [if_neg h, List.pairwise_cons]
      refine ⟨fun z hz => ?_, insN_srt s.2⟩
      rcases List.mem_cons.1 (insN_perm.mem_iff.1 hz) with rfl | hz
      · exact h
      · exact s.1 z hz
def sortN (l : List NK) : List NK := l.foldr insN []
theorem sortN_perm : ∀ {l : List NK}, (sortN l).Perm l
  | [] => .refl _
  | k :: l => insN_perm.trans (sortN_perm.cons k)
theorem sortN_srt : ∀ {l : List NK}, SrtJ (sortN l)
  | [] => .nil
  | k :: l => insN_srt sortN_srt
/-- The last numbers, in order. -/
def factsL (L : List F3) : List F3 := (sortN ((lastOf L).map (·.1))).map fun k => (k.1, k.2, (getM (lastOf L) k).getD 0)
theorem last_length : ∀ {L : List F3}, (lastOf L).length ≤ L.length := by
  have key : ∀ (L : List F3) (m : List ((Int × Nat) × Nat)), (L.foldl stF m).length ≤ m.length + L.length := by
    intro L
    induction L with
    | nil => intro m; simp
    | cons f L ih =>
      intro m
      rw [List.foldl_cons]
      refine Nat.le_trans (ih _) ?_
      unfold stF
      rw [setM_length, List.length_cons]
      split <;> omega
  intro L
  exact Nat.le_trans (key L []) (by simp)
theorem factsL_length {L : List F3} : (factsL L).length = (lastOf L).length := by unfold factsL; rw [List.length_map, sortN_perm.length_eq, List.length_map]

theorem lk1_50 {h : Hp} {r : Nat} {p : Int × Nat} {m : List ((Int × Nat) × Nat)} (M : MapAt h r nke nve m) :
    rrun Try.prog (Instr.lookup 50 (.map (some r)) (.agg #[.int .i64 p.1, .int .u32 (p.2 : Nat)]) false) h = some (.int .u32 (((getM m p).getD 0 : Nat) : Int)) := by
  have := rr_lookup1 (a := p) (z := .int .u32 0) Try.underlying50 M (fun e => ck_55) (fun es H => fk_55 H) (by kernel_rfl)
  unfold nke at this
  rw [this]
  cases getM m p <;> simp [nve]
theorem nk_at {h : Hp} {v : Value} {xs : List NK} {i : Nat} {x : NK} (S : SlAt h 55 2 kencJ v xs) (hx : xs[i]? = some x) :
    ∃ b cap c, v = .slice (some ⟨b, 0, none⟩) xs.length cap ∧ h b = some (.cells c 55 (0, 0)) ∧ c[i * 2]? = some (.int .i64 x.1) ∧ c[i * 2 + 1]? = some (.int .u32 (x.2 : Nat)) := by
  obtain ⟨b, cap, c, e, hb, H⟩ := SlAt.at' S hx
  exact ⟨b, cap, c, e, hb, H 0 (by omega), H 1 (by omega)⟩
theorem fa_at {h : Hp} {v : Value} {xs : List F3} {i : Nat} {x : F3} (S : SlAt h 25 3 fc v xs) (hx : xs[i]? = some x) :
    ∃ b cap c, v = .slice (some ⟨b, 0, none⟩) xs.length cap ∧ h b = some (.cells c 25 (0, 0)) ∧ c[i * 3]? = some (.int .i64 x.1) ∧ c[i * 3 + 1]? = some (.int .u32 (x.2.1 : Nat)) ∧ c[i * 3 + 2]? = some (.int .u32 (x.2.2 : Nat)) := by
  obtain ⟨b, cap, c, e, hb, H⟩ := SlAt.at' S hx
  exact ⟨b, cap, c, e, hb, H 0 (by omega), H 1 (by omega), H 2 (by omega)⟩

/-- A slice is one longer, and new. -/
theorem Grew.news {h0 g g' : Hp} {w w' : Value} (G : Grew g g' w w') (lg : Le h0 g) (nw : ∀ b, blkOf w = some b → h0 b = none) : Le h0 g' ∧ ∀ b, blkOf w' = some b → h0 b = none := by
  refine ⟨fun x o e => G.keep x o (lg _ _ e) (fun q => by rw [nw x q.symm] at e; cases e), fun b e => ?_⟩
  rcases G.fresh with q1 | q1
  · exact nw b (by rw [← q1]; exact e)
  · exact none_of_le lg (q1 b e)

section
variable {h : Hp} {j kp : Nat} {room : Int} {L : List F3} {O : List Nat} {Q : Value → Hp → Prop}

def FaInv (h0 : Hp) (j : Nat) (wk : Value) (m : List (NK × Nat)) (ks : List NK) (n : Nat) (env : Env) (g : Hp) : Prop :=
  ∃ (i : Nat) (w : Value), i + n = ks.length ∧ Le h0 g ∧ SlAt g 25 3 fc w ((ks.take i).map fun k => (k.1, k.2, (getM m k).getD 0)) ∧ (∀ b, blkOf w = some b → h0 b = none) ∧
    env 0 = .pointer (some ⟨j, 0, none⟩) ∧ env 3 = w ∧ env 11 = wk ∧ env 12 = .int .i64 (ks.length : Nat) ∧ env 13 = .int .i64 (i : Nat)

set_option maxHeartbeats 2000000 in
set_option maxRecDepth 20000 in
theorem jfactsM (M : JM h j room kp L O) (hl : L.length ≤ 10000) (hQ : ∀ w h', Le h h' → SlAt h' 25 3 fc w (factsL L) → (∀ b, blkOf w = some b → h b = none) → Q w h') : Ok Try.prog F_journal_Journal_Facts #[.pointer (some ⟨j, 0, none⟩)] h Q := by
  obtain ⟨vd, mr, m, J, pm, rfl, r⟩ := M
  refine journal_Journal_Facts_ok (by simp) ?_
  unfold journal_Journal_Facts_D
  have hj := J.j
  have um : Uniq m := Uniq_perm pm.symm uniq_last
  have hml : m.length ≤ 10000 := by rw [pm.length_eq]; exact Nat.le_trans last_length hl
  simp (disch := omega) [journal_Journal_Facts_r0, journal_Journal_Facts_r1, journal_Journal_Facts_r2, hj]
  have kn : ∀ {K : Value → Hp → Prop}, (∀ Bm h1, Le h h1 → h1 Bm = some (.cells #[.map (some mr)] 50 (0, 0)) → h Bm = none → K (.func (.func F_maps_Keys_map_journal_name_uint32_journal_name_uint32_1) #[] #[.pointer (some ⟨Bm, 0, none⟩)]) h1) →
      Ok Try.prog F_maps_Keys_map_journal_name_uint32_journal_name_uint32 #[.map (some mr)] h K := by
    intro K hK
    refine maps_Keys_map_journal_name_uint32_journal_name_uint32_ok (by simp) ?_
    unfold maps_Keys_map_journal_name_uint32_journal_name_uint32_D
    simp (disch := omega) [maps_Keys_map_journal_name_uint32_journal_name_uint32_r0]
    intro Bm hBm
    simp (disch := omega) [maps_Keys_map_journal_name_uint32_journal_name_uint32_r1]
    exact .to _ (.refl _) (hK Bm _ (.new hBm) upd_same hBm)
  refine kn (fun Bm h1 l1 hB nB => ?_)
  simp (disch := omega)
  refine slices_SortedFunc_journal_name_ok (by simp) ?_
  unfold slices_SortedFunc_journal_name_D
  simp (disch := omega) [slices_SortedFunc_journal_name_r0, slices_SortedFunc_journal_name_r1]
  refine collectJ (venc := nve) hB (J.m.le l1) um (by omega) (fun v ks h2 l2 S hp nv => ?_)
  simp (disch := omega) [slices_SortedFunc_journal_name_r2]
  have hkl : ks.length ≤ 10000 := by rw [hp.length_eq, List.length_map]; exact hml
  refine sort_specJ S (by omega) (fun d h3 hp3 hs3 k3 S3 => ?_)
  simp (disch := omega) [slices_SortedFunc_journal_name_r3]
  have l3 : Le h h3 := fun x o e => k3 x o (l2 _ _ (l1 _ _ e)) (fun q => by have := nv x q; rw [l1 _ _ e] at this; cases this)
  have nv3 : ∀ b, blkOf v = some b → h b = none := fun b e => none_of_le l1 (nv b e)
  have hd : d = sortN ((lastOf L).map (·.1)) := srtJ_unique hs3 sortN_srt ((hp3.trans hp).trans ((pm.map _).trans sortN_perm.symm))
  have hval : factsL L = d.map fun k => (k.1, k.2, (getM m k).getD 0) := by
    unfold factsL
    rw [← hd]
    refine List.map_congr_left fun k _ => ?_
    rw [getM_perm um pm]
  rw [hval] at hQ
  have hdl : d.length ≤ 10000 := by rw [hp3.length_eq]; exact hkl
  refine .to _ (.refl _) ?_
  clear hval hd hs3 hp3 hp S k3 l2 hB nB l1 kn
  obtain ⟨dp, dcap, hvd⟩ := S3.shape'
  simp (disch := omega) [hvd]
  refine ⟨FaInv h3 j v m d, ⟨d.length, 0, .slice none 0 0, by omega, .refl _, .inl ⟨rfl, rfl⟩, by simp [blkOf], by simp, by simp, by simp [hvd], by simp, by simp⟩, ?_⟩
  rintro n env g ⟨i, w, hin, lg, Sw, nw, e0, e3, e11, e12, e13⟩
  unfold journal_Journal_Facts_L0
  by_cases hm : n = 0
  · have : i = d.length := by omega
    subst this
    rw [List.take_of_length_le (Nat.le_refl _)] at Sw
    simp (disch := omega) [journal_Journal_Facts_r3, journal_Journal_Facts_r7, e0, e3, e11, e12, e13]
    exact .to _ (.refl _) (hQ _ _ (l3.trans lg) Sw (fun b e => none_of_le l3 (nw b e)))
  · obtain ⟨k, hk⟩ : ∃ k, d[i]? = some k := ⟨_, List.getElem?_eq_getElem (by omega)⟩
    obtain ⟨b2, cap, c, hv', hb2, c0, c1⟩ := nk_at (S3.le' lg) hk
    have hi' : i < d.length := by omega
    have e11' := e11.trans hv'
    simp (disch := omega) [journal_Journal_Facts_r3, journal_Journal_Facts_r4, e11', e12, e13, hb2, c0, c1, hi']
    intro b5 hb5
    have L5 : Le g (g.upd b5 (.cells #[.int .i64 k.1, .int .u32 (k.2 : Nat)] 55)) := .new hb5
    have f5 : (g.upd b5 (.cells #[.int .i64 k.1, .int .u32 (k.2 : Nat)] 55)) b5 = some (.cells #[.int .i64 k.1, .int .u32 (k.2 : Nat)] 55 (0, 0)) := upd_same
    simp (disch := omega)
    show journal_Journal_Facts_r5 _ (g.upd b5 (.cells #[.int .i64 k.1, .int .u32 (k.2 : Nat)] 55)) _
    generalize g.upd b5 (.cells #[.int .i64 k.1, .int .u32 (k.2 : Nat)] 55) = g1 at *
    have lg1 := lg.trans L5
    have J1 := J.fr (h' := g1) (fun x o _ e => lg1 _ _ (l3 _ _ e))
    have hj1 := J1.j
    have lk : ∀ g2, Le g1 g2 → _ := fun g2 l2 => lk1_50 (p := k) (J1.m.le l2).at
    have lk1 := lk g1 (.refl _)
    simp (disch := omega) [journal_Journal_Facts_r5, e0, e3, hj1, f5, lk1]
    refine snoc_api_Fact (Sw.le' L5) (y := (k.1, k.2, (getM m k).getD 0)) rfl (by simp [fc]) (by simp; omega) (fun b9 w' g' S' G hb9 => ?_)
    obtain ⟨lg', nw'⟩ := G.news lg1 nw
    simp (disch := omega) [journal_Journal_Facts_r6, e13, wrap_i64]
    exact ⟨n - 1, by omega, i + 1, w', by omega, lg', by rw [take_succ_of hk, List.map_append]; exact S', nw', by simp [e0], by simp, by simp [e11], by simp [e12], by simp⟩
end
end Go.Proofs.Ytjcecdjbllpmcaa

/- The journal's Pack. -/
namespace Go.Proofs.Ytjcecdjbllpmcaa
open Go
set_option linter.unusedSimpArgs false
set_option linter.unusedVariables false

theorem last_mem : ∀ {L : List F3} {e : NK × Nat}, e ∈ lastOf L → (e.1.1, e.1.2, e.2) ∈ L := by
  have key : ∀ (L : List F3) (m : List (NK × Nat)) (P : F3 → Prop), (∀ e ∈ m, P (e.1.1, e.1.2, e.2)) → (∀ f ∈ L, P f) → ∀ e ∈ L.foldl stF m, P (e.1.1, e.1.2, e.2) := by
    intro L
    induction L with
    | nil => intro m P h _; exact h
    | cons f L ih =>
      intro m P h hL
      rw [List.foldl_cons]
      refine ih _ P (fun e he => ?_) (fun g hg => hL g (by simp [hg]))
      unfold stF at he
      rcases setM_mem he with rfl | q
      · exact hL f (by simp)
      · exact h e q
  intro L e he
  exact key L [] (fun f => f ∈ L) (by simp) (fun f hf => hf) e he
theorem factsL_mem {L : List F3} {f : F3} (h : f ∈ factsL L) : f ∈ L := by
  unfold factsL at h
  obtain ⟨k, hk, rfl⟩ := List.mem_map.1 h
  have hk2 := sortN_perm.mem_iff.1 hk
  obtain ⟨e, he, rfl⟩ := List.mem_map.1 hk2
  rw [getM_of_mem (a := e.1) (v := e.2) uniq_last he]
  exact last_mem he
theorem last_uniq : ∀ {d : List NK} {v : NK → Nat} {m : List (NK × Nat)}, d.Nodup → (∀ k ∈ d, k ∉ m.map (·.1)) → (d.map fun k => ((k.1, k.2, v k) : F3)).foldl stF m = m ++ d.map fun k => (k, v k)
  | [], v, m, _, _ => by simp
  | k :: d, v, m, n, h => by
    rw [List.nodup_cons] at n
    have hn : getM m k = none := getM_none.2 (h k (by simp))
    have hs : stF m (k.1, k.2, v k) = m ++ [(k, v k)] := by
      unfold stF
      have : ∀ {m : List (NK × Nat)}, getM m k = none → setM k (v k) m = m ++ [(k, v k)] := by
        intro m
        induction m with
        | nil => intro _; rfl
        | cons y ys ih =>
          intro h
          rw [getM_cons] at h
          by_cases e : k = y.1
          · rw [if_pos e] at h; cases h
          · rw [if_neg e] at h; rw [setM, if_neg e, ih h]; rfl
      exact this hn
    rw [List.map_cons, List.foldl_cons, hs, last_uniq n.2 (fun k' hk' q => ?_)]
    · simp
    · rw [List.map_append, List.mem_append] at q
      rcases q with q | q
      · exact h k' (by simp [hk']) q
      · simp at q; subst q; exact n.1 hk'
theorem last_facts {L : List F3} : (lastOf (factsL L)).Perm (lastOf L) := by
  have nd : (sortN ((lastOf L).map (·.1))).Nodup := by
    have := uniq_last (L := L)
    unfold Uniq at this
    exact sortN_perm.nodup_iff.2 this
  have e : lastOf (factsL L) = (sortN ((lastOf L).map (·.1))).map fun k => (k, (getM (lastOf L) k).getD 0) := by
    unfold factsL
    have := last_uniq (v := fun k => (getM (lastOf L) k).getD 0) (m := []) nd (by simp)
    rw [List.nil_append] at this
    exact this
  rw [e]
  refine (sortN_perm.map _).trans ?_
  rw [List.map_map]
  have : (lastOf L).map ((fun k => (k, (getM (lastOf L) k).getD 0)) ∘ fun x => x.1) = lastOf L := by
    conv => rhs; rw [← List.map_id (lastOf L)]
    refine List.map_congr_left fun x hx => ?_
    simp only [Function.comp, id]
    rw [getM_of_mem (a := x.1) (v := x.2) uniq_last hx]; rfl
  rw [this]
theorem facts_facts {L : List F3} : factsL (factsL L) = factsL L := by
  have p := last_facts (L := L)
  unfold factsL at p ⊢
  have e : sortN ((lastOf (List.map (fun k => (k.1, k.2, (getM (lastOf L) k).getD 0)) (sortN ((lastOf L).map (·.1))))).map (·.1)) = sortN ((lastOf L).map (·.1)) :=
    srtJ_unique sortN_srt sortN_srt (sortN_perm.trans ((p.map _).trans sortN_perm.symm))
  rw [e]
  refine List.map_congr_left fun k _ => ?_
  rw [getM_perm uniq_last p]
theorem factsL_congr {L L' : List F3} (p : (lastOf L).Perm (lastOf L')) : factsL L = factsL L' := by
  unfold factsL
  rw [srtJ_unique sortN_srt sortN_srt (sortN_perm.trans ((p.map _).trans sortN_perm.symm))]
  refine List.map_congr_left fun k _ => ?_
  rw [getM_perm uniq_last p]

section
variable {h : Hp} {j kp : Nat} {room : Int} {L : List F3} {O : List Nat} {Q : Value → Hp → Prop}

def PkInv (h0 : Hp) (j mr : Nat) (room kept : Int) (m : List (NK × Nat)) (w : Value) (fs : List F3) (n : Nat) (env : Env) (g : Hp) : Prop :=
  ∃ (i : Nat) (vd : Value), i + n = fs.length ∧ JAt g j room kept vd (fbs (fs.take i)) mr m ∧ (∀ x o, h0 x = some o → x ≠ j → g x = some o) ∧ (∀ b, blkOf vd = some b → h0 b = none) ∧
    env 0 = .pointer (some ⟨j, 0, none⟩) ∧ env 10 = w ∧ env 11 = .int .i64 (fs.length : Nat) ∧ env 12 = .int .i64 (i : Nat)

set_option maxHeartbeats 2000000 in
set_option maxRecDepth 20000 in
theorem jpackM (M : JM h j room kp L O) (hl : L.length ≤ 10000) (hQ : ∀ h' O', Fr h h' O O' → JM h' j room (factsL L).length (factsL L) O' → Q (.tuple #[]) h') : Ok Try.prog F_journal_Journal_Pack #[.pointer (some ⟨j, 0, none⟩)] h Q := by
  refine journal_Journal_Pack_ok (by simp) ?_
  unfold journal_Journal_Pack_D
  simp (disch := omega) [journal_Journal_Pack_r0]
  refine jfactsM M hl (fun w h1 l1 Sw nw => ?_)
  have M1 := M.le l1
  obtain ⟨vd, mr, m, J, pm, rfl, hkp, ho⟩ := M1
  have hfl : (factsL L).length ≤ 10000 := by rw [factsL_length]; exact Nat.le_trans last_length hl
  have hfo : ∀ f ∈ factsL L, okF f := fun f hf => ho f (factsL_mem hf)
  have pm2 : m.Perm (lastOf (factsL L)) := pm.trans last_facts.symm
  generalize factsL L = fs at *
  clear pm hkp ho
  have hj := J.j
  obtain ⟨hjm, hjd⟩ := J.ne
  have hjh : ∃ o, h j = some o := M.alive j (by simp)
  have hmh : ∃ o, h mr = some o := M.alive mr (by simp)
  have nwj : ∀ b, blkOf w = some b → b ≠ j := fun b e q => by subst q; obtain ⟨o, e2⟩ := hjh; rw [nw _ e] at e2; cases e2
  obtain ⟨wp, wcap, hw⟩ := Sw.shape'
  simp (disch := omega) [journal_Journal_Pack_r1, hj, journal_Journal_Pack_r2, hw]
  have J2 : JAt (h1.upd j (.cells #[.int .i64 room, .int .i64 ((12 * kp : Nat) : Int), .slice none 0 0, .map (some mr)] T_journal_Journal)) j room (12 * kp : Nat) (.slice none 0 0) (fbs (fs.take 0)) mr m :=
    ⟨upd_same, .inl ⟨rfl, by simp [fbs]⟩, J.m.keep (upd_ne hjm)⟩
  refine ⟨PkInv h1 j mr room (12 * kp : Nat) m w fs, ⟨fs.length, 0, .slice none 0 0, by omega, by simpa using J2, fun x o e n => by rw [upd_ne n]; exact e, by simp [blkOf], by simp, by simp [hw], by simp, by simp⟩, ?_⟩
  clear J2
  rintro n env g ⟨i, vd2, hin, J3, kp3, nv3, e0, e10, e11, e12⟩
  unfold journal_Journal_Pack_L0
  have hj3 := J3.j
  obtain ⟨hjm3, hjd3⟩ := J3.ne
  have flen := fbs_length (fs.take i)
  obtain ⟨vp, vcap, hvd⟩ := J3.d.shape'
  have fin2 : ∀ (hi : i = fs.length) (g' : Hp), g' = g.upd j (.cells #[.int .i64 room, .int .i64 ((12 * fs.length : Nat) : Int), vd2, .map (some mr)] T_journal_Journal) → Q (.tuple #[]) g' := by
    rintro hi g' rfl
    rw [hi, List.take_length] at J3
    refine hQ _ (j :: mr :: (blkOf vd2).toList) ⟨fun x o e nx => ?_, fun x hx => ?_⟩ ⟨vd2, mr, m, ⟨upd_same, J3.d.keep (fun b o e e2 => by rw [upd_ne (hjd3 b e).1]; exact e2), J3.m.keep (upd_ne hjm3)⟩, pm2, rfl, Nat.le_refl _, hfo⟩
    · have nj : x ≠ j := by rintro rfl; exact nx (by simp)
      rw [upd_ne nj]
      exact kp3 x o (l1 _ _ e) nj
    · simp only [List.mem_cons, Option.mem_toList] at hx ⊢
      rcases hx with hx | hx | hx
      · exact .inl (.inl hx)
      · exact .inl (.inr (.inl hx))
      · exact .inr (none_of_le l1 (nv3 x hx))
  by_cases hm : n = 0
  · have hi : i = fs.length := by omega
    simp (disch := omega) [journal_Journal_Pack_r3, journal_Journal_Pack_r7, e0, e10, e11, e12, hi]
    refine journal_Journal_Sync_ok (by simp) ?_
    unfold journal_Journal_Sync_D
    have hv2 : vd2 = .slice vp (12 * fs.length) vcap := by rw [hvd, flen, hi, List.take_length]
    rw [hv2] at hj3
    simp (disch := omega) [journal_Journal_Sync_r0, hj3]
    refine .to _ (.refl _) ?_
    refine .to _ (.refl _) (fin2 hi _ ?_)
    rw [hv2]; rfl
  · obtain ⟨f, hf⟩ : ∃ f, fs[i]? = some f := ⟨_, List.getElem?_eq_getElem (by omega)⟩
    have hi' : i < fs.length := by omega
    have hof := hfo f (List.mem_of_getElem? hf)
    have Swg : SlAt g 25 3 fc w fs := Sw.keep fun b o e e2 => kp3 b o e2 (nwj b e)
    obtain ⟨b2, cap, c, hv', hb2, c0, c1, c2⟩ := fa_at Swg hf
    have e10' := e10.trans hv'
    have htk : fbs (fs.take (i + 1)) = fbs (fs.take i) ++ fb f.1 f.2.1 f.2.2 := by rw [take_succ_of hf, fbs_append, fbs_one]
    simp (disch := omega) [journal_Journal_Pack_r3, journal_Journal_Pack_r4, e10', e11, e12, hb2, c0, c1, c2, hi']
    intro b4 hb4
    have L4 : Le g (g.upd b4 (.cells #[.int .i64 f.1, .int .u32 (f.2.1 : Nat), .int .u32 (f.2.2 : Nat)] 25)) := .new hb4
    have f4 : (g.upd b4 (.cells #[.int .i64 f.1, .int .u32 (f.2.1 : Nat), .int .u32 (f.2.2 : Nat)] 25)) b4 = some (.cells #[.int .i64 f.1, .int .u32 (f.2.1 : Nat), .int .u32 (f.2.2 : Nat)] 25 (0, 0)) := upd_same
    simp (disch := omega)
    show journal_Journal_Pack_r5 _ (g.upd b4 (.cells #[.int .i64 f.1, .int .u32 (f.2.1 : Nat), .int .u32 (f.2.2 : Nat)] 25)) _
    generalize g.upd b4 (.cells #[.int .i64 f.1, .int .u32 (f.2.1 : Nat), .int .u32 (f.2.2 : Nat)] 25) = g1 at *
    have hj4 := L4 _ _ hj3
    simp (disch := omega) [journal_Journal_Pack_r5, e0, hj4, f4]
    refine jput_spec ⟨hof.1, hof.2.1⟩ hof.2.2.1 hof.2.2.2 (fun v5 g5 S5 l5 n5 => ?_)
    have J5 := J3.fr (h' := g5) (fun x o _ e => l5 _ _ (L4 _ _ e))
    have hj5 := J5.j
    simp (disch := omega) [e0, hj5]
    refine cat_bytes J5.d S5.src (by rw [fbs_length, fb_length, List.length_take]; omega) (fun v6 g6 S6 G6 => ?_)
    rw [← htk] at S6
    have hj6 := G6.keep _ _ hj5 (fun q => (hjd3 _ q.symm).1 rfl)
    obtain ⟨xp, xcap, hv6⟩ := S6.shape'
    have e6 := fbs_length (fs.take (i + 1))
    simp (disch := omega) [e0, hj6, hv6, journal_Journal_Pack_r6, e12, wrap_i64]
    have v6f : ∀ b, blkOf v6 = some b → h1 b = none ∧ b ≠ j ∧ b ≠ mr := fun b e => by
      rcases G6.fresh with q | q
      · have e' : blkOf vd2 = some b := by rw [← q]; exact e
        exact ⟨nv3 b e', (hjd3 b e').1, (hjd3 b e').2⟩
      · have h0 := q b e
        refine ⟨?_, ?_, ?_⟩
        · cases hh : h1 b with
          | none => rfl
          | some o =>
            by_cases hbj : b = j
            · subst hbj; rw [hj5] at h0; cases h0
            · rw [l5 _ _ (L4 _ _ (kp3 b o hh hbj))] at h0; cases h0
        · rintro rfl; rw [hj5] at h0; cases h0
        · rintro rfl; obtain ⟨o, e2⟩ := J5.m.alive; rw [e2] at h0; cases h0
    rw [← hv6]
    refine ⟨n - 1, by omega, i + 1, v6, by omega, ⟨upd_same, S6.keep (fun b o e e2 => by rw [upd_ne (v6f b e).2.1]; exact e2), ?_⟩, fun x o e nx => ?_, fun b e => (v6f b e).1, by simp [e0], by simp [e10], by simp [e11], by simp⟩
    · refine J5.m.keep ?_
      rw [upd_ne hjm3]
      obtain ⟨o, e2⟩ := J5.m.alive
      rw [e2]
      exact G6.keep _ _ e2 (fun q => (hjd3 _ q.symm).2 rfl)
    · rw [upd_ne nx]
      exact G6.keep _ _ (l5 _ _ (L4 _ _ (kp3 x o e nx))) (fun q => by rw [nv3 x q.symm] at e; cases e)
end
end Go.Proofs.Ytjcecdjbllpmcaa

/- JournalFull, JournalLasts, JournalPacks: the walks. -/
namespace Go.Proofs.Ytjcecdjbllpmcaa
open Go
set_option linter.unusedSimpArgs false
set_option linter.unusedVariables false

def SameInvF (g0 : Hp) (v w : Value) (L : List F3) (mm : Nat) (env : Env) (g : Hp) : Prop :=
  g = g0 ∧ ∃ i : Nat, env 0 = v ∧ env 1 = w ∧ env 5 = .int .i64 (i : Nat) ∧ i + mm = L.length ∧ i ≤ L.length
set_option maxRecDepth 20000 in
theorem same_F {h : Hp} {v w : Value} {L : List F3} {Q : Value → Hp → Prop} (S : SlAt h 25 3 fc v L) (S' : SlAt h 25 3 fc w L) (hl : L.length ≤ 1000000) (hQ : Q (.bool true) h) : Ok Try.prog F_octroiref12_Same #[v, w] h Q := by
  obtain ⟨p, cap, hv⟩ := S.shape'
  obtain ⟨p', cap', hw⟩ := S'.shape'
  refine octroiref12_Same_ok (by simp) ?_
  unfold octroiref12_Same_D
  simp (disch := omega) [octroiref12_Same_r0, octroiref12_Same_r1, octroiref12_Same_r3, hv, hw]
  refine ⟨SameInvF h v w L, ⟨L.length, rfl, 0, by simp [hv], by simp [hw], by simp, by omega, by omega⟩, ?_⟩
  rintro mm env g ⟨rfl, i, e0, e1, e5, him, hi⟩
  unfold octroiref12_Same_L0
  by_cases hm : mm = 0
  · have : i = L.length := by omega
    subst this
    simp (disch := omega) [octroiref12_Same_r4, octroiref12_Same_r8, e0, e1, e5, hv]
    exact .to _ (.refl _) hQ
  · obtain ⟨y, hy⟩ : ∃ y, L[i]? = some y := ⟨_, List.getElem?_eq_getElem (by omega)⟩
    obtain ⟨b, c1, c, ev, hb, q0, q1, q2⟩ := fa_at S hy
    obtain ⟨b', c1', c', ew, hb', t0, t1, t2⟩ := fa_at S' hy
    have hi' : i < L.length := by omega
    rw [ev] at e0
    rw [ew] at e1
    simp (disch := omega) [octroiref12_Same_r4, octroiref12_Same_r5, octroiref12_Same_r7, e0, e1, e5, hi', hb, hb', q0, q1, q2, t0, t1, t2, wrap_i64]
    exact ⟨mm - 1, by omega, rfl, i + 1, by simp [e0, ev], by simp [e1, ew], by simp, by omega, by omega⟩

theorem putsJ_room {room : Int} (hr : 0 ≤ room) : ∀ {xs L : List F3}, (L.length : Int) ≤ room → ((putsJ room L xs).length : Int) ≤ room
  | [], L, h => h
  | x :: xs, L, h => by
    have e : putsJ room L (x :: xs) = putsJ room (putJ room L x).2 xs := rfl
    rw [e]
    refine putsJ_room hr (xs := xs) ?_
    unfold putJ
    split
    · exact h
    · split
      · exact h
      · rename_i q; simp; omega

/-- A slice that a journal does not own stays. -/
structure Kept (g : Hp) (O : List Nat) (w : Value) (X : List F3) : Prop where
  s : SlAt g 25 3 fc w X
  d : ∀ b, blkOf w = some b → b ∉ O
theorem Kept.fr {g g' : Hp} {O O' : List Nat} {w : Value} {X : List F3} (K : Kept g O w X) (F : Fr g g' O O') : Kept g' O' w X :=
  ⟨K.s.fr F K.d, fun b e => F.apart (R := (blkOf w).toList) (fun x hx => K.s.alive (by simpa using hx)) (fun x hx => K.d x (by simpa using hx)) b (by simp [e])⟩
theorem Kept.le {g g' : Hp} {O : List Nat} {w : Value} {X : List F3} (K : Kept g O w X) (l : Le g g') : Kept g' O w X := ⟨K.s.le' l, K.d⟩

def FullInv (h0 : Hp) (b5 : Nat) (room : Int) (v : Value) (xs : List F3) (m : Nat) (env : Env) (g : Hp) : Prop :=
  ∃ j O i, env 0 = .int .i64 room ∧ env 1 = v ∧ env 5 = .pointer (some ⟨b5, 0, none⟩) ∧ env 8 = .pointer (some ⟨j, 0, none⟩) ∧ env 9 = .int .i64 (i : Nat) ∧ i + m = xs.length ∧ i ≤ xs.length ∧ JOwn h0 g j room 0 (putsJ room [] (xs.take i)) O

set_option maxHeartbeats 2000000 in
set_option maxRecDepth 20000 in
theorem JournalFull_walk {h : Hp} {room : Int} {v : Value} {xs : List F3} {f : F3} (A : argFs h v xs) (hf : fGood f) :
    Ok Try.prog F_octroilaw12_JournalFull #[.int .i64 room, v, .agg (fc f).toArray] h (fun r g => r = .bool true ∧ Le h g) := by
  obtain ⟨p, cap, hv⟩ := ArgSl.shape A
  obtain ⟨f1, f2, f3⟩ := f
  obtain ⟨hf2, hf3⟩ := hf
  simp only at hf2 hf3
  refine octroilaw12_JournalFull_ok (by simp) ?_
  unfold octroilaw12_JournalFull_D
  simp (disch := omega) [octroilaw12_JournalFull_r0, fc]
  intro b5 hb5
  have l5 : Le h (h.upd b5 (.cells #[.int .i64 f1, .int .u32 (f2 : Nat), .int .u32 (f3 : Nat)] 25)) := .new hb5
  have f5 : (h.upd b5 (.cells #[.int .i64 f1, .int .u32 (f2 : Nat), .int .u32 (f3 : Nat)] 25)) b5 = some (.cells #[.int .i64 f1, .int .u32 (f2 : Nat), .int .u32 (f3 : Nat)] 25 (0, 0)) := upd_same
  show octroilaw12_JournalFull_r1 _ (h.upd b5 (.cells #[.int .i64 f1, .int .u32 (f2 : Nat), .int .u32 (f3 : Nat)] 25)) _
  generalize h.upd b5 (.cells #[.int .i64 f1, .int .u32 (f2 : Nat), .int .u32 (f3 : Nat)] 25) = g0 at *
  simp (disch := omega) [octroilaw12_JournalFull_r1]
  refine awake_spec (fun h1 L1 => ?_)
  simp (disch := omega) [octroilaw12_JournalFull_r2]
  refine jnewM (fun j h2 O l2 n2 M2 => ?_)
  have J2 : JOwn g0 h2 j room 0 [] O := ⟨M2, L1.trans l2, fun x m => none_of_le L1 (n2 x m)⟩
  clear M2 n2 l2
  have f52 := J2.le _ _ f5
  by_cases hbig : (150 : Int) < (xs.length : Int)
  · simp (disch := omega) [octroilaw12_JournalFull_r3, octroilaw12_JournalFull_r4, hv, hbig]
    exact .to _ (.refl _) ⟨rfl, l5.trans J2.le⟩
  by_cases hr : room < 1
  · simp (disch := omega) [octroilaw12_JournalFull_r3, octroilaw12_JournalFull_r4, hv, hbig, hr]
    exact .to _ (.refl _) ⟨rfl, l5.trans J2.le⟩
  by_cases k0 : f1 < 0
  · simp (disch := omega) [octroilaw12_JournalFull_r3, octroilaw12_JournalFull_r4, hv, hbig, hr, f52, k0]
    exact .to _ (.refl _) ⟨rfl, l5.trans J2.le⟩
  by_cases k1 : 255 < f1
  · simp (disch := omega) [octroilaw12_JournalFull_r3, octroilaw12_JournalFull_r4, hv, hbig, hr, f52, k0, k1]
    exact .to _ (.refl _) ⟨rfl, l5.trans J2.le⟩
  simp (disch := omega) [octroilaw12_JournalFull_r3, octroilaw12_JournalFull_r5, hv, hbig, hr, f52, k0, k1]
  refine ⟨FullInv g0 b5 room v xs, ⟨xs.length, j, O, 0, by simp, by simp [hv], by simp, by simp, by simp, by omega, by omega, by simpa [putsJ] using J2⟩, ?_⟩
  clear J2 L1 f52
  rintro m env g ⟨j, O, i, e0, e1, e5, e8, e9, him, hi, J⟩
  have hl := putsJ_length room (xs.take i) []
  rw [List.length_take, Nat.min_eq_left hi] at hl
  simp only [List.length_nil] at hl
  have hrm := putsJ_room (room := room) (by omega) (xs := xs.take i) (L := []) (by simp; omega)
  unfold octroilaw12_JournalFull_L0
  by_cases hm : m = 0
  · have hin : i = xs.length := by omega
    subst hin
    simp only [List.take_length] at J hl hrm
    generalize putsJ room [] xs = L at *
    simp (disch := omega) [octroilaw12_JournalFull_r6, octroilaw12_JournalFull_r9, e0, e1, e5, e8, e9, hv]
    refine jlenM J.m (by omega) ?_
    simp (disch := omega) [octroilaw12_JournalFull_r10, e8]
    refine jfactsM J.m (by omega) (fun w h3 l3 Sw nw => ?_)
    have J3 := J.le2 l3
    have K3 : Kept h3 O w (factsL L) := ⟨Sw, fun b e m => by obtain ⟨o, e2⟩ := J.m.alive b m; rw [nw b e] at e2; cases e2⟩
    have hfl : (factsL L).length ≤ 10000 := by rw [factsL_length]; exact Nat.le_trans last_length (by omega)
    have f53 := J3.le _ _ f5
    simp (disch := omega) [octroilaw12_JournalFull_r11, e8, e5, f53]
    refine jputM (f := (f1, f2, f3)) J3.m (by omega) hf2 hf3 (fun h4 O4 F4 M4 => ?_)
    have J4 := J3.fr F4 M4
    have K4 := K3.fr F4
    have hp : putJ room L (f1, f2, f3) = if room ≤ (L.length : Int) then (4, L) else (0, L ++ [(f1, f2, f3)]) := by unfold putJ; rw [if_neg (by simp only; omega)]
    by_cases hfull : room ≤ (L.length : Int)
    · rw [if_pos hfull] at hp
      rw [hp] at J4 ⊢
      replace J4 : JOwn g0 h4 j room 0 L O4 := J4
      have q1 : ¬ room < (L.length : Int) := by omega
      have q2 : (L.length : Int) = room := by omega
      simp (disch := omega) [octroilaw12_JournalFull_r12, octroilaw12_JournalFull_r14, octroilaw12_JournalFull_r16, e0, e8, q1, q2]
      refine jfactsM J4.m (by omega) (fun w2 h5 l5' Sw2 nw2 => ?_)
      have J5 := J4.le2 l5'
      have K5 := K4.le l5'
      simp (disch := omega)
      refine same_F Sw2 K5.s (by omega) ?_
      simp (disch := omega) [octroilaw12_JournalFull_r17, e8]
      refine jpackM J5.m (by omega) (fun h6 O6 F6 M6 => ?_)
      have J6 := J5.fr F6 M6
      have f56 := J6.le _ _ f5
      obtain ⟨wp, wcap, hw⟩ := K5.s.shape'
      simp (disch := omega) [octroilaw12_JournalFull_r18, e8, e5, f56]
      refine jputM (f := (f1, f2, f3)) J6.m (by omega) hf2 hf3 (fun h7 O7 F7 M7 => ?_)
      have J7 := J6.fr F7 M7
      have hp2 : putJ room (factsL L) (f1, f2, f3) = if room ≤ ((factsL L).length : Int) then (4, factsL L) else (0, factsL L ++ [(f1, f2, f3)]) := by unfold putJ; rw [if_neg (by simp only; omega)]
      simp only
      rw [hp2]
      by_cases h2 : room ≤ ((factsL L).length : Int)
      · have h2' : ¬ ((factsL L).length : Int) < room := by omega
        rw [if_pos h2]
        simp (disch := omega) [octroilaw12_JournalFull_r19, e0, hw, h2']
        exact .to _ (.refl _) ⟨rfl, l5.trans J7.le⟩
      · have h2' : ((factsL L).length : Int) < room := by omega
        rw [if_neg h2]
        simp (disch := omega) [octroilaw12_JournalFull_r19, e0, hw, h2']
        exact .to _ (.refl _) ⟨rfl, l5.trans J7.le⟩
    · rw [if_neg hfull] at hp
      rw [hp] at J4 ⊢
      have q1 : ¬ room < (L.length : Int) := by omega
      have q2 : ¬ (L.length : Int) = room := by omega
      simp (disch := omega) [octroilaw12_JournalFull_r12, octroilaw12_JournalFull_r14, octroilaw12_JournalFull_r15, e0, e8, q1, q2]
      exact .to _ (.refl _) ⟨rfl, l5.trans J4.le⟩
  · obtain ⟨x, hx⟩ : ∃ x, xs[i]? = some x := ⟨_, List.getElem?_eq_getElem (by omega)⟩
    obtain ⟨⟨g1, g2⟩, bb, o, cap', c, E, fr, hv', hbb, q0, q1, q2⟩ := argFs.get A hx
    have hbb' := J.le _ _ (l5 _ _ hbb)
    obtain ⟨x1, x2, x3⟩ := x
    simp only at g1 g2 q0 q1 q2
    have e1' := e1.trans hv'
    have hi' : i < xs.length := by omega
    simp (disch := omega) [octroilaw12_JournalFull_r6, octroilaw12_JournalFull_r7, e0, e1', e8, e9, hi', hbb', q0, q1, q2]
    refine jputM (f := (x1, x2, x3)) J.m (by omega) g1 g2 (fun g1 O1 F1 M1 => ?_)
    have J1 := J.fr F1 M1
    rw [← putsJ_snoc, ← take_succ_of hx] at J1
    simp (disch := omega) [octroilaw12_JournalFull_r8, e9, wrap_i64]
    exact ⟨m - 1, by omega, j, O1, i + 1, by simp [e0], by simp [e1], by simp [e5], by simp [e8], by simp, by omega, by omega, J1⟩
end Go.Proofs.Ytjcecdjbllpmcaa

/- JournalLasts: the walk. -/
namespace Go.Proofs.Ytjcecdjbllpmcaa
open Go
set_option linter.unusedSimpArgs false
set_option linter.unusedVariables false

def kpt (synced i : Nat) : Nat := if synced ≤ i then synced else 0
def LstInv (h0 : Hp) (keep : Int) (sy : Nat) (v : Value) (xs : List F3) (m : Nat) (env : Env) (g : Hp) : Prop :=
  ∃ j O i, env 0 = v ∧ env 1 = .int .i64 (sy : Nat) ∧ env 2 = .int .i64 keep ∧ env 8 = .pointer (some ⟨j, 0, none⟩) ∧ env 9 = .int .i64 (i : Nat) ∧ i + m = xs.length ∧ i ≤ xs.length ∧ (∀ f ∈ xs.take i, 0 ≤ f.1 ∧ f.1 ≤ 255) ∧ JOwn h0 g j 1000 (kpt sy i) (xs.take i) O
def LsuInv (h0 : Hp) (j : Nat) (O : List Nat) (L : List F3) (kp : Nat) (v : Value) (xs : List F3) (n m : Nat) (env : Env) (g : Hp) : Prop :=
  ∃ s O' i, env 0 = v ∧ env 8 = .pointer (some ⟨j, 0, none⟩) ∧ env 11 = .int .i64 (n : Nat) ∧ env 12 = .pointer (some ⟨s, 0, none⟩) ∧ env 13 = .int .i64 (i : Nat) ∧ i + m = n ∧ JOwn h0 g j 1000 kp L O ∧ JOwn h0 g s 1000 0 (xs.take i) O' ∧ (∀ x ∈ O', x ∉ O)

set_option maxHeartbeats 2000000 in
set_option maxRecDepth 20000 in
theorem JournalLasts_walk {h : Hp} {v : Value} {xs : List F3} {sy keep : Int} (A : argFs h v xs) :
    Ok Try.prog F_octroilaw12_JournalLasts #[v, .int .i64 sy, .int .i64 keep] h (fun r g => r = .bool true ∧ Le h g) := by
  obtain ⟨p, cap, hv⟩ := ArgSl.shape A
  refine octroilaw12_JournalLasts_ok (by simp) ?_
  unfold octroilaw12_JournalLasts_D
  simp (disch := omega) [octroilaw12_JournalLasts_r0, octroilaw12_JournalLasts_r1]
  refine awake_spec (fun h1 L1 => ?_)
  simp (disch := omega) [octroilaw12_JournalLasts_r2]
  refine jnewM (fun j h2 O l2 n2 M2 => ?_)
  have J2 : JOwn h h2 j 1000 0 [] O := ⟨M2, L1.trans l2, fun x m => none_of_le L1 (n2 x m)⟩
  clear M2 n2 l2
  by_cases hbig : (150 : Int) < (xs.length : Int)
  · simp (disch := omega) [octroilaw12_JournalLasts_r3, octroilaw12_JournalLasts_r4, hv, hbig]
    exact .to _ (.refl _) ⟨rfl, J2.le⟩
  by_cases hs0 : sy < 0
  · simp (disch := omega) [octroilaw12_JournalLasts_r3, octroilaw12_JournalLasts_r4, hv, hbig, hs0]
    exact .to _ (.refl _) ⟨rfl, J2.le⟩
  by_cases hs1 : (xs.length : Int) < sy
  · simp (disch := omega) [octroilaw12_JournalLasts_r3, octroilaw12_JournalLasts_r4, hv, hbig, hs0, hs1]
    exact .to _ (.refl _) ⟨rfl, J2.le⟩
  simp (disch := omega) [octroilaw12_JournalLasts_r3, octroilaw12_JournalLasts_r5, hv, hbig, hs0, hs1]
  obtain ⟨sn, rfl⟩ := Int.eq_ofNat_of_zero_le (show 0 ≤ sy by omega)
  have hk0 : kpt sn 0 = 0 := by unfold kpt; split <;> omega
  refine ⟨LstInv h keep sn v xs, ⟨xs.length, j, O, 0, by simp [hv], by simp, by simp, by simp, by simp, by omega, by omega, by simp, by rw [hk0]; simpa using J2⟩, ?_⟩
  clear J2 L1
  rintro m env g ⟨j, O, i, e0, e1, e2, e8, e9, him, hi, hok, J⟩
  have hl : (xs.take i).length = i := by rw [List.length_take]; omega
  unfold octroilaw12_JournalLasts_L0
  by_cases hm : m = 0
  · have hin : i = xs.length := by omega
    subst hin
    have hkp : kpt sn xs.length = sn := by unfold kpt; rw [if_pos (by omega)]
    rw [hkp] at J
    simp only [List.take_length] at J hl hok
    simp (disch := omega) [octroilaw12_JournalLasts_r6, octroilaw12_JournalLasts_r13, e0, e1, e2, e8, e9, hv]
    refine jcrashM (keep := keep) J.m (by omega) (fun h3 O3 F3 M3 => ?_)
    have J3 := J.fr F3 M3
    have hcr := crN_le (kp := sn) (L := xs) (keep := keep) (by omega)
    generalize crN sn xs keep = n at *
    have hnl : (xs.take n).length = n := by rw [List.length_take]; omega
    simp (disch := omega) [octroilaw12_JournalLasts_r14, e8]
    refine jlenM J3.m (by omega) ?_
    rw [hnl]
    have q1 : ¬ (n : Int) < (sn : Int) := by omega
    have q2 : ¬ (xs.length : Int) < (n : Int) := by omega
    simp (disch := omega) [octroilaw12_JournalLasts_r15, octroilaw12_JournalLasts_r17, e0, e1, hv, q1, q2]
    refine jnewM (fun s h4 O4 l4 n4 M4 => ?_)
    have J4 := J3.le2 l4
    have S4 : JOwn h h4 s 1000 0 [] O4 := ⟨M4, J4.le, fun x m => none_of_le J3.le (n4 x m)⟩
    have hd : ∀ x ∈ O4, x ∉ O3 := fun x m m2 => by obtain ⟨o, e⟩ := J3.m.alive x m2; rw [n4 x m] at e; cases e
    simp (disch := omega) [octroilaw12_JournalLasts_r18, octroilaw12_JournalLasts_r20]
    refine ⟨LsuInv h j O3 (xs.take n) n v xs n, ⟨n, s, O4, 0, by simp [e0, hv], by simp [e8], by simp, by simp, by simp, by omega, J4, by simpa using S4, hd⟩, ?_⟩
    clear e0 e1 e2 e8 e9 hd S4 J4 M4 n4 l4 J3 M3 F3
    clear him J
    rintro m env g ⟨s, O5, i, e0, e8, e11, e12, e13, him, J5, S5, hd⟩
    unfold octroilaw12_JournalLasts_L1
    by_cases hm2 : m = 0
    · have hi2 : i = n := by omega
      subst hi2
      simp (disch := omega) [octroilaw12_JournalLasts_r21, octroilaw12_JournalLasts_r24, e8, e11, e12, e13]
      refine jfactsM J5.m (by omega) (fun w6 h6 l6 Sw6 nw6 => ?_)
      have J6 := J5.le2 l6
      have S6 := S5.le2 l6
      simp (disch := omega) [e12]
      refine jfactsM S6.m (by omega) (fun w7 h7 l7 Sw7 nw7 => ?_)
      have J7 := J6.le2 l7
      have S7 := S6.le2 l7
      have hfl : (factsL (xs.take i)).length ≤ 10000 := by rw [factsL_length]; exact Nat.le_trans last_length (by omega)
      simp (disch := omega)
      refine same_F (Sw6.le' l7) Sw7 (by omega) ?_
      simp (disch := omega) [octroilaw12_JournalLasts_r25, e8, e12]
      refine jbytesM J7.m (by omega) (fun v8 h8 S8 l8 => ?_)
      simp (disch := omega)
      have T8 := S7.le2 l8
      refine ⟨?_, ?_⟩
      · refine str_34 S8 ?_
        simp (disch := omega) [e12]
        refine jbytesM T8.m (by omega) (fun v9 h9 S9 l9 => ?_)
        simp (disch := omega)
        refine str_34 S9 ?_
        simp (disch := omega)
        exact .to _ (.refl _) ⟨rfl, (T8.le2 l9).le⟩
      · simp (disch := omega) [e12]
        refine jbytesM T8.m (by omega) (fun v9 h9 S9 l9 => ?_)
        have S8' := S8.le' l9
        have fin2 : ∀ {Q : Prop}, Q → Q := fun q => q
        simp (disch := omega)
        refine ⟨?_, ?_⟩
        · refine str_34 S8' ?_
          simp (disch := omega)
          refine str_34 S9 ?_
          simp (disch := omega)
          exact .to _ (.refl _) ⟨rfl, (T8.le2 l9).le⟩
        · refine str_34 S9 ?_
          simp (disch := omega)
          refine str_34 S8' ?_
          simp (disch := omega)
          exact .to _ (.refl _) ⟨rfl, (T8.le2 l9).le⟩
    · obtain ⟨x, hx⟩ : ∃ x, xs[i]? = some x := ⟨_, List.getElem?_eq_getElem (by omega)⟩
      obtain ⟨⟨g1, g2⟩, bb, o, cap', c, E, fr, hv', hbb, q0, q1, q2⟩ := argFs.get A hx
      have hbb' := J5.le _ _ hbb
      have hkx := hok x (List.mem_of_getElem? hx)
      obtain ⟨x1, x2, x3⟩ := x
      simp only at g1 g2 q0 q1 q2 hkx
      have e0' := e0.trans hv'
      have hi' : i < xs.length := by omega
      have hin : i < n := by omega
      have hli : (xs.take i).length = i := by rw [List.length_take]; omega
      simp (disch := omega) [octroilaw12_JournalLasts_r21, octroilaw12_JournalLasts_r22, e0', e8, e11, e12, e13, hi', hin, hbb', q0, q1, q2]
      refine jputM (f := (x1, x2, x3)) S5.m (by omega) g1 g2 (fun g6 O6 F6 M6 => ?_)
      have hp : putJ 1000 (xs.take i) (x1, x2, x3) = (0, xs.take (i + 1)) := by
        unfold putJ; rw [if_neg (by simp only; omega), if_neg (by rw [hli]; omega), take_succ_of hx]
      have S6 := S5.fr F6 M6
      rw [hp] at S6
      have J6 : JOwn h g6 j 1000 n (xs.take n) O3 := ⟨J5.m.keep (fun y o hy e => F6.keep y o e (fun hy2 => hd y hy2 hy)), S6.le, J5.new⟩
      have hd6 : ∀ x ∈ O6, x ∉ O3 := fun y hy hy2 => F6.apart (R := O3) J5.m.alive (fun z hz hz2 => hd z hz2 hz) y hy2 hy
      simp (disch := omega) [octroilaw12_JournalLasts_r23, e13, wrap_i64]
      exact ⟨m - 1, by omega, s, O6, i + 1, by simp [e0], by simp [e8], by simp [e11], by simp [e12], by simp, by omega, J6, S6, hd6⟩
  · obtain ⟨x, hx⟩ : ∃ x, xs[i]? = some x := ⟨_, List.getElem?_eq_getElem (by omega)⟩
    obtain ⟨⟨g1, g2⟩, bb, o, cap', c, E, fr, hv', hbb, q0, q1, q2⟩ := argFs.get A hx
    have hbb' := J.le _ _ hbb
    obtain ⟨x1, x2, x3⟩ := x
    simp only at g1 g2 q0 q1 q2
    have e0' := e0.trans hv'
    have hi' : i < xs.length := by omega
    simp (disch := omega) [octroilaw12_JournalLasts_r6, octroilaw12_JournalLasts_r7, e0', e1, e2, e8, e9, hi', hbb', q0, q1, q2]
    refine jputM (f := (x1, x2, x3)) J.m (by omega) g1 g2 (fun g6 O6 F6 M6 => ?_)
    have J6 := J.fr F6 M6
    by_cases hk : x1 < 0 ∨ 255 < x1
    · have hp : putJ 1000 (xs.take i) (x1, x2, x3) = (1, xs.take i) := by unfold putJ; rw [if_pos hk]
      rw [hp]
      simp (disch := omega) [octroilaw12_JournalLasts_r8, octroilaw12_JournalLasts_r9]
      exact .to _ (.refl _) ⟨rfl, J6.le⟩
    · have hp : putJ 1000 (xs.take i) (x1, x2, x3) = (0, xs.take (i + 1)) := by
        unfold putJ; rw [if_neg hk, if_neg (by rw [hl]; omega), take_succ_of hx]
      rw [hp] at J6 ⊢
      replace J6 : JOwn h g6 j 1000 (kpt sn i) (xs.take (i + 1)) O6 := J6
      have hok' : ∀ f ∈ xs.take (i + 1), 0 ≤ f.1 ∧ f.1 ≤ 255 := by
        intro f hf
        rw [take_succ_of hx] at hf
        rcases List.mem_append.1 hf with q | q
        · exact hok f q
        · simp at q; subst q; simp only; omega
      have hl1 : (xs.take (i + 1)).length = i + 1 := by rw [List.length_take]; omega
      by_cases hsy : (i : Int) + 1 = (sn : Int)
      · simp (disch := omega) [octroilaw12_JournalLasts_r8, octroilaw12_JournalLasts_r10, octroilaw12_JournalLasts_r11, e1, e8, e9, wrap_i64, hsy]
        refine jsyncM J6.m (by omega) (fun g7 F7 M7 => ?_)
        have J7 := J6.fr F7 M7
        have hkk : kpt sn (i + 1) = (xs.take (i + 1)).length := by unfold kpt; rw [if_pos (by omega), hl1]; omega
        simp (disch := omega) [octroilaw12_JournalLasts_r12, e9, wrap_i64]
        exact ⟨m - 1, by omega, j, O6, i + 1, by simp [e0], by simp [e1], by simp [e2], by simp [e8], by simp, by omega, by omega, hok', by rw [hkk]; exact J7⟩
      · have hkk : kpt sn i = kpt sn (i + 1) := by unfold kpt; split <;> split <;> omega
        rw [hkk] at J6
        simp (disch := omega) [octroilaw12_JournalLasts_r8, octroilaw12_JournalLasts_r10, octroilaw12_JournalLasts_r12, e1, e8, e9, wrap_i64, hsy]
        exact ⟨m - 1, by omega, j, O6, i + 1, by simp [e0], by simp [e1], by simp [e2], by simp [e8], by simp, by omega, by omega, hok', J6⟩
end Go.Proofs.Ytjcecdjbllpmcaa

/- JournalLasts: behind any crash what is known are the last numbers of some beginning of what was written, with all that was synced: the row. No condition. -/
namespace Go.Proofs.Ytjcecdjbllpmcaa.JournalLasts_row
open Go Go.ChangeShapes Go.WideShapes Go.RowKit
theorem own_knob : ownKnob Try.prog.godebug = none := by kernel_rfl
theorem laid_out : laidOutB Try.prog = true := by kernel_rfl
set_option maxRecDepth 100000 in
theorem lifted (os : Os) (started : os.Started) (H : Type) (enc : TypeId × Value → H) :
    ReturnsInHanded {} Try.checked os 6 .any (Rows.journalLastsSpec.pre6 enc Try.prog Try.f6 Rows.journalLastsRow.domain false) (Rows.journalLastsSpec.post enc Try.prog Try.f6 false true false false) := by
  refine returnsInHanded_of_change_sized (C := Try.checked) own_knob started (by kernel_rfl) Try.func6
    (ChangeSpec.witness6 (enc := enc) (C := Try.checked) false ⟨#[], #[.slice none 0 0, .int .i64 0, .int .i64 0], []⟩ 8 (by kernel_rfl) (by kernel_rfl) (by kernel_rfl) (by kernel_rfl)) ?_
  intro W base args ds gs before hval hW hcnd hsz _
  have hW' := hW
  obtain ⟨p, q, hA, hV, rfl, hfz, hnd⟩ := hW
  obtain ⟨rfl, rfl⟩ := trodVars_none hV
  have hA' : DataW.TrodAll enc Try.prog W 0 (fun _ => true) true Try.f6.params.toList args.toList ds p := hA
  have hval' : ∀ (j : Nat) t v, Try.f6.params[j]? = some t → args[j]? = some v → Value.okWide Try.prog W .any base t v := hval
  rw [Try.params6] at hA' hval'
  obtain ⟨v0, vs0, d0, ds0, p0, q0, hargs, rfl, rfl, h0, r0⟩ := trodAll_cons hA'
  obtain ⟨v1, vs1, d1, ds1, p1, q1, rfl, rfl, rfl, h1, r1⟩ := trodAll_cons r0
  obtain ⟨v2, vs2, d2, ds2, p2, q2, rfl, rfl, rfl, h2, r2⟩ := trodAll_cons r1
  obtain ⟨rfl, rfl, rfl⟩ := trodAll_nil r2
  obtain rfl : args = #[v0, v1, v2] := by cases args; simp_all
  obtain ⟨xs0, A0⟩ := open_argSl (ks := fcKs) (sz := 3) 4 Try.underlying22 (by kernel_rfl) (by kernel_rfl) (by decide) dec_fc (hval' 0 _ v0 rfl rfl) h0
  obtain ⟨n1, rfl, rfl, rfl, w1⟩ := open_int Try.underlying3 (hval' 1 _ v1 rfl rfl) h1
  obtain ⟨n2, rfl, rfl, rfl, w2⟩ := open_int Try.underlying3 (hval' 2 _ v2 rfl rfl) h2
  refine (below_of (JournalLasts_walk A0)).mono fun e W' ⟨he, bel⟩ => ?_
  subst he
  exact ⟨_, rfl, _, _, _, [], _, [], hW', trodAll_mk1 (shut_bool (by kernel_rfl) _), trodAll_below laid_out bel (by kernel_rfl) hA, rfl, bel.frame _, fun h => by cases h⟩
theorem over : Rows.journalLastsRow.holds Try.pinned (OpenSpec.ofChange Rows.journalLastsSpec) :=
  OpenClaim.holds_of_wide 6 Try.f6 rfl rfl rfl rfl rfl rfl rfl ⟨rfl, rfl, rfl, rfl, rfl⟩ rfl rfl rfl rfl rfl (by kernel_rfl) Try.func6 (by kernel_rfl)
    (of_decide_eq_true (by kernel_rfl)) (by unfold Func.isWrapper; first | (rw [if_pos (by decide +kernel)]; kernel_rfl) | (rw [if_neg (by decide +kernel)]; exact ⟨rfl, rfl⟩))
    (fun os started H enc _ => lifted os started H enc)
end Go.Proofs.Ytjcecdjbllpmcaa.JournalLasts_row
namespace Go.Proofs.Ytjcecdjbllpmcaa
theorem journalLasts_holds : Rows.JournalLastsSaid := JournalLasts_row.over
#print axioms journalLasts_holds
end Go.Proofs.Ytjcecdjbllpmcaa
