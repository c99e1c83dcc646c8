/- The journal's Crash. -/
import Derived.Test.YtjcecdjbllpmcaaJ9
namespace Go.Proofs.Ytjcecdjbllpmcaa
open Go
set_option linter.unusedSimpArgs false

def crN (kp : Nat) (L : List F3) (keep : Int) : Nat := kp + (keep.toNat % (12 * (L.length - kp) + 1)) / 12

theorem crN_le {kp : Nat} {L : List F3} {keep : Int} (h : kp ≤ L.length) : crN kp L keep ≤ L.length ∧ kp ≤ crN kp L keep := by
  unfold crN
  have := Nat.mod_lt keep.toNat (y := 12 * (L.length - kp) + 1) (by omega)
  omega

theorem fbs_take : ∀ (L : List F3) (n : Nat), (fbs L).take (12 * n) = fbs (L.take n)
  | [], n => by simp [fbs]
  | f :: L, 0 => by simp [fbs]
  | f :: L, n + 1 => by
    have e : fbs (f :: L) = fb f.1 f.2.1 f.2.2 ++ fbs L := by simp [fbs]
    rw [e, List.take_append, fb_length, List.take_of_length_le (by rw [fb_length]; omega), List.take_succ_cons, show 12 * (n + 1) - 12 = 12 * n by omega, fbs_take L n]
    simp [fbs]

theorem fbs_get : ∀ {L : List F3} {i : Nat} {f : F3} {j x : Nat}, L[i]? = some f → (fb f.1 f.2.1 f.2.2)[j]? = some x → (fbs L)[12 * i + j]? = some x
  | [], i, f, j, x, h, _ => by simp at h
  | g :: L, 0, f, j, x, h, h2 => by
    simp at h; subst h
    have e : fbs (g :: L) = fb g.1 g.2.1 g.2.2 ++ fbs L := by simp [fbs]
    have hj : j < 12 := (List.getElem?_eq_some_iff.1 h2).1
    rw [e, List.getElem?_append_left (by rw [fb_length]; omega)]
    simpa using h2
  | g :: L, i + 1, f, j, x, h, h2 => by
    have e : fbs (g :: L) = fb g.1 g.2.1 g.2.2 ++ fbs L := by simp [fbs]
    rw [e, List.getElem?_append_right (by rw [fb_length]; omega), fb_length, show 12 * (i + 1) + j - 12 = 12 * i + j by omega]
    exact fbs_get (by simpa using h) h2

theorem dev_to {h : Hp} {vd : Value} {bs : List Nat} {i : Nat} {z : Int} (S : SlAt h 5 1 be vd bs) (hz : z = (i : Nat)) (hi : i ≤ bs.length) :
    ∃ vd', rrun Try.prog (Instr.sliceAt 34 vd none (some (.int .i64 z)) none) noHp = some vd' ∧ SlAt h 5 1 be vd' (bs.take i) ∧ blkOf vd' = blkOf vd := by
  subst hz
  rcases S with ⟨rfl, rfl⟩ | ⟨b, cap, c, rfl, hb, h1, h2, h3⟩
  · have : i = 0 := by simpa using hi
    subst this
    exact ⟨_, sl_nil_34, .inl ⟨rfl, by simp⟩, rfl⟩
  · exact ⟨_, sl_to_34 (by omega) (by omega), SlAt.take (.inr ⟨b, cap, c, rfl, hb, h1, h2, h3⟩) _ hi, rfl⟩

section
variable {h : Hp} {j kp : Nat} {room : Int} {L : List F3} {O : List Nat} {Q : Value → Hp → Prop}

def CrInv (h0 : Hp) (j mr : Nat) (vd : Value) (room : Int) (kp : Nat) (L : List F3) (m : Nat) (env : Env) (g : Hp) : Prop :=
  ∃ i, i + m = L.length ∧ env 0 = .pointer (some ⟨j, 0, none⟩) ∧ env 4 = .int .i64 (12 * i : Nat) ∧ JAt g j room (12 * kp : Nat) vd (fbs L) mr (lastOf (L.take i)) ∧ Fr h0 g [mr] [mr]

set_option maxRecDepth 20000 in
theorem crStep {h0 : Hp} {mr m : Nat} {vd : Value} {env : Env} {g : Hp} {Q : Value → Hp → Prop} (I : CrInv h0 j mr vd room kp L m env g) (ho : ∀ f ∈ L, okF f) (hk : kp ≤ L.length) (hl : L.length ≤ 10000) (I' : Nat → Env → Hp → Prop)
    (hI : ∀ k env g, CrInv h0 j mr vd room kp L k env g → I' k env g)
    (hQ : ∀ g, JM g j room L.length L (j :: mr :: (blkOf vd).toList) → Fr h0 g (j :: mr :: (blkOf vd).toList) (j :: mr :: (blkOf vd).toList) → Q (.tuple #[]) g) :
    journal_Journal_Crash_S0_at0 (jumpK (fun l env h => l = 0 ∧ ∃ k, k < m ∧ I' k env h) (fin Try.prog [] Q)) env g := by
  obtain ⟨i, him, e0, e4, J, F⟩ := I
  unfold journal_Journal_Crash_S0_at0
  have hj := J.j
  have hlen := fbs_length L
  obtain ⟨p, cap, hv⟩ := J.d.shape'
  rw [hlen] at hv
  have F' : Fr h0 g (j :: mr :: (blkOf vd).toList) (j :: mr :: (blkOf vd).toList) := ⟨fun x o e n => F.keep x o e (fun q => n (by simp only [List.mem_cons, List.not_mem_nil, or_false] at q; simp [q])), fun _ e => .inl e⟩
  cases m with
  | zero =>
    have : i = L.length := by omega
    subst this
    rw [List.take_of_length_le (Nat.le_refl _)] at J
    have M : JM g j room kp L (j :: mr :: (blkOf vd).toList) := ⟨vd, mr, J, rfl, hk, ho⟩
    rw [hv] at hj
    simp (disch := omega) [journal_Journal_Crash_r4, journal_Journal_Crash_r8, e0, e4, hj]
    refine jsyncM M hl (fun g' F2 M2 => ?_)
    exact .to _ (.refl _) (hQ _ M2 (F'.trans F2))
  | succ m =>
    obtain ⟨f, hf⟩ : ∃ f, L[i]? = some f := ⟨_, List.getElem?_eq_getElem (by omega)⟩
    have hof := ho f (List.mem_of_getElem? hf)
    obtain ⟨hjm, hjd⟩ := J.ne
    have lt : i < L.length := by omega
    have D := J.d
    rcases D with ⟨rfl, hnil⟩ | ⟨b, cap', c, rfl, hb, h1, h2, h3⟩
    · simp only [Value.slice.injEq] at hv; omega
    rw [hlen] at hj h1
    have sl : rrun Try.prog (Instr.sliceAt 34 (.slice (some ⟨b, 0, none⟩) (12 * L.length) cap') (some (.int .i64 (12 * (i : Int)))) none none) noHp = some (.slice (some ⟨b, 12 * i, none⟩) (12 * L.length - 12 * i) (cap' - 12 * i)) := by
      rw [rr_slice_from und_34 size_5 (by omega) (by omega) (by omega)]
      simp only [Nat.zero_add, Nat.mul_one, show (12 * (i : Int)).toNat = 12 * i by omega]
    simp (disch := omega) [journal_Journal_Crash_r4, e0, e4, hj, lt]
    simp (disch := omega) [journal_Journal_Crash_r5, e0, e4, hj, sl]
    refine jgetf_spec (o := 12 * i) (len := 12 * L.length - 12 * i) (cap := cap' - 12 * i) hb hof (fun a x e => ?_) (by omega) (by omega) (by omega) (fun g1 l1 => ?_)
    · have := h3 (12 * i + a) x (fbs_get hf e) 0 (by omega)
      simpa [be] using this
    have hj1 := l1 _ _ hj
    obtain ⟨es, cl, em, hE⟩ := J.m
    have em1 := l1 _ _ em
    have hb1 := l1 _ _ hb
    obtain ⟨k, key, nn⟩ := f
    unfold fe
    simp (disch := omega)
    intro bx hbx
    have nj : j ≠ bx := ne_new hj1 hbx
    have nm : mr ≠ bx := ne_new em1 hbx
    have nb : b ≠ bx := ne_new hb1 hbx
    simp (disch := omega) [journal_Journal_Crash_r6, e0, hj1, nj]
    refine mu_50 (m := lastOf (L.take i)) ⟨es, cl, by simp [nm]; exact em1, hE⟩ (fun es2 cl2 H2 => ?_)
    simp (disch := omega) [journal_Journal_Crash_r7, e4, wrap_i64]
    refine ⟨m, by omega, hI _ _ _ ⟨i + 1, by omega, by simp [e0], by simp; omega, ⟨?_, ?_, ⟨es2, cl2, ?_, ?_⟩⟩, F.trans ⟨fun x o e n => ?_, fun _ e => .inl e⟩⟩⟩
    · have q1 : j ≠ mr := Ne.symm hjm
      have q2 : j ≠ bx := nj
      rw [upd_ne q1, upd_ne q2, hlen]; exact hj1
    · have q1 : b ≠ mr := (hjd b rfl).2
      refine SlAt.keep (.inr ⟨b, cap', c, by rw [hlen], hb1, by rw [hlen]; exact h1, h2, h3⟩) (fun x o e e2 => ?_)
      cases e
      rw [upd_ne q1, upd_ne nb]; exact e2
    · rw [upd_same]
    · have tk : L.take (i + 1) = L.take i ++ [(k, key, nn)] := by rw [List.take_add_one, hf]; rfl
      rw [tk, lastOf_append]
      exact H2
    · have q1 : x ≠ mr := by rintro rfl; exact n (by simp)
      have q2 : x ≠ bx := ne_new (l1 _ _ e) hbx
      rw [upd_ne q1, upd_ne q2]; exact l1 _ _ e

set_option maxRecDepth 20000 in
theorem jcrashM {keep : Int} (M : JM h j room kp L O) (hl : L.length ≤ 10000) (hQ : ∀ h' O', Fr h h' O O' → JM h' j room (crN kp L keep) (L.take (crN kp L keep)) O' → Q (.tuple #[]) h') :
    Ok Try.prog F_journal_Journal_Crash #[.pointer (some ⟨j, 0, none⟩), .int .i64 keep] h Q := by
  obtain ⟨vd, mr, J, rfl, hk, ho⟩ := M
  obtain ⟨hn1, hn2⟩ := crN_le (keep := keep) hk
  refine journal_Journal_Crash_ok (by simp) ?_
  unfold journal_Journal_Crash_D
  refine scp_one (r := fun env h K => journal_Journal_Crash_r0 env h fun env h => journal_Journal_Crash_r1 env h fun env h => journal_Journal_Crash_r2 env h fun env h => journal_Journal_Crash_r3 env h K) journal_Journal_Crash_S0_lab0 (by unfold journal_Journal_Crash_S0; rw [sq_rg, sq_rg, sq_rg]; rfl) ?_ ?_ ?_
  · exact fun m env g => ∃ vd' mr' h0, mr' ∉ j :: (blkOf vd').toList ∧ Fr h h0 (j :: mr :: (blkOf vd).toList) (j :: mr' :: (blkOf vd').toList) ∧ CrInv h0 j mr' vd' room kp (L.take (crN kp L keep)) m env g
  · intro K hK
    obtain ⟨hjm, hjd⟩ := J.ne
    have hj := J.j
    have hlen := fbs_length L
    obtain ⟨p, cap, hv⟩ := J.d.shape'
    obtain ⟨kb, hkb⟩ : ∃ kb, kb = 12 * kp := ⟨_, rfl⟩
    obtain ⟨nb, hnb⟩ : ∃ nb, nb = (fbs L).length := ⟨_, rfl⟩
    obtain ⟨q, hq⟩ : ∃ q, q = keep.toNat % (12 * (L.length - kp) + 1) := ⟨_, rfl⟩
    have hq2 : q < 12 * (L.length - kp) + 1 := by rw [hq]; exact Nat.mod_lt _ (by omega)
    have ht : (max keep 0).tmod ((nb : Int) - (kb : Int) + 1) = (q : Nat) := by
      rw [show max keep 0 = ((keep.toNat : Nat) : Int) by omega, show (nb : Int) - (kb : Int) + 1 = ((12 * (L.length - kp) + 1 : Nat) : Int) by omega, hq]
      rfl
    obtain ⟨vd1, sl1, S1, b1⟩ := dev_to (i := kb + q) (z := (kb : Int) + (q : Int)) J.d (by omega) (by omega)
    rw [hv, ← hnb] at sl1
    rw [hv, ← hkb, ← hnb] at hj
    have d0 : (nb : Int) - (kb : Int) + 1 ≠ 0 := by omega
    obtain ⟨p1, cap1, hv1⟩ := S1.shape'
    have hl1 : ((fbs L).take (kb + q)).length = kb + q := by rw [List.length_take]; omega
    rw [hl1] at hv1
    have hc : crN kp L keep = (kb + q) / 12 := by unfold crN; rw [← hq]; omega
    simp (disch := omega) [journal_Journal_Crash_r0, hj, wrap_i64, ht, d0, sl1]
    rw [hv1]
    obtain ⟨n, hn⟩ : ∃ n, n = crN kp L keep := ⟨_, rfl⟩
    rw [← hn] at hc
    have hd : ((kb : Int) + (q : Int)).tdiv 12 = (n : Nat) := by rw [hc, show (kb : Int) + (q : Int) = ((kb + q : Nat) : Int) by omega]; rfl
    obtain ⟨vd2, sl2, S2, b2⟩ := dev_to (i := 12 * n) (z := (n : Int) * 12) S1 (by omega) (by omega)
    rw [hv1] at sl2
    obtain ⟨p2, cap2, hv2⟩ := S2.shape'
    have hn12 : n ≤ L.length := by omega
    have hs2 : ((fbs L).take (kb + q)).take (12 * n) = fbs (L.take n) := by rw [List.take_take, Nat.min_eq_left (by omega), fbs_take]
    rw [hs2] at S2 hv2
    rw [fbs_length, List.length_take, Nat.min_eq_left hn12] at hv2
    simp (disch := omega) [journal_Journal_Crash_r1, hj, wrap_i64, hd, sl2]
    rw [hv2]
    simp (disch := omega) [journal_Journal_Crash_r2, hj]
    refine arun_makeMap (fun b hb => ?_)
    obtain ⟨nj, hb'⟩ := upd_none hb
    simp (disch := omega) [journal_Journal_Crash_r3, hj, nj, Ne.symm nj]
    refine hK n _ _ ?_
    rw [← hn]
    have nvd : ∀ x, blkOf vd = some x → x ≠ b := fun x e q => by obtain ⟨o, e2⟩ := J.d.alive e; rw [q, hb'] at e2; cases e2
    have hjd2 : ∀ x, blkOf vd2 = some x → x ≠ j ∧ x ≠ b := fun x e => ⟨(hjd x (by rw [← b1, ← b2]; exact e)).1, nvd x (by rw [← b1, ← b2]; exact e)⟩
    refine ⟨vd2, b, _, ?_, ⟨fun x o e nx => ?_, fun x e => ?_⟩, 0, by rw [List.length_take]; omega, by simp, by simp, ⟨?_, ?_, ⟨#[], 0, ?_, .nil⟩⟩, .refl _ _⟩
    · simp only [List.mem_cons, not_or, Option.mem_toList]
      exact ⟨nj, fun e => (hjd2 _ e).2 rfl⟩
    · simp only [List.mem_cons, not_or] at nx
      have nb2 : x ≠ b := by rintro rfl; rw [hb'] at e; cases e
      rw [upd_ne nx.1, upd_ne nb2, upd_ne nx.1]; exact e
    · simp only [List.mem_cons, Option.mem_toList] at e ⊢
      rcases e with e | e | e
      · exact .inl (.inl e)
      · exact .inr (by rw [e]; exact hb')
      · exact .inl (.inr (.inr (by rw [← b1, ← b2]; exact e)))
    · rw [upd_same, hv2, hkb]
    · exact S2.keep (fun x o e e2 => by rw [upd_ne (hjd2 x e).1, upd_ne (hjd2 x e).2, upd_ne (hjd2 x e).1]; exact e2)
    · rw [upd_ne nj, upd_same]
  · rintro m env g ⟨vd', mr', h0, hm, F, I⟩
    refine crStep I (fun f hf => ho f (List.mem_of_mem_take hf)) (by rw [List.length_take]; omega) (by rw [List.length_take]; omega) _ (fun k env g I => ⟨vd', mr', h0, hm, F, I⟩) (fun g M F2 => ?_)
    rw [show (L.take (crN kp L keep)).length = crN kp L keep by rw [List.length_take]; omega] at M
    exact hQ _ _ (F.trans F2) M
end
end Go.Proofs.Ytjcecdjbllpmcaa
