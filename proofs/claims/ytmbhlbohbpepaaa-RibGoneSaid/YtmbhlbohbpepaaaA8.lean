/- The trie's answers, told by a list of pairs in order. -/
import Derived.Test.YtmbhlbohbpepaaaA7
namespace Go.Proofs.Ytmbhlbohbpepaaa

def plt (p q : Nat × Nat) : Prop := p.1 < q.1 ∨ p.1 = q.1 ∧ p.2 < q.2
instance (p q : Nat × Nat) : Decidable (plt p q) := by unfold plt; exact inferInstance

theorem plt_irrefl (p : Nat × Nat) : ¬ plt p p := by unfold plt; omega
theorem plt_trans {p q r : Nat × Nat} (h : plt p q) (h' : plt q r) : plt p r := by unfold plt at *; omega
theorem plt_asymm {p q : Nat × Nat} (h : plt p q) : ¬ plt q p := by unfold plt at *; omega
theorem plt_tri (p q : Nat × Nat) : plt p q ∨ p = q ∨ plt q p := by
  obtain ⟨a, n⟩ := p; obtain ⟨b, m⟩ := q; unfold plt; simp only [Prod.mk.injEq]; omega

/-- What is at the end of a way. -/
def hasN (ns : List Nd) (at_ : Nat) (cs : List Nat) : Option Int :=
  match down ns at_ cs with
  | some k => match ns[k]? with
    | some x => if x.has = true then some x.n else none
    | none => none
  | none => none

theorem valOf_hasN (ns : List Nd) (p : Nat × Nat) : valOf ns p = hasN ns 0 (bitsFrom p.1 0 p.2) := rfl

theorem hasN_cons {ns : List Nd} {at_ : Nat} {x : Nd} (hx : ns[at_]? = some x) (b : Nat) (cs : List Nat) : hasN ns at_ (b :: cs) = if child x b = 0 then none else hasN ns (child x b) cs := by
  unfold hasN
  simp only [down, hx]
  by_cases h : child x b = 0
  · simp [h]
  · simp [h]

theorem hasN_nil {ns : List Nd} {at_ : Nat} {x : Nd} (hx : ns[at_]? = some x) : hasN ns at_ [] = if x.has = true then some x.n else none := by
  simp [hasN, down, hx]

theorem hasN_gone {ns : List Nd} {at_ : Nat} (hx : ns[at_]? = none) (cs : List Nat) : hasN ns at_ cs = none := by
  cases cs with
  | nil => simp [hasN, down, hx]
  | cons b cs => simp [hasN, down, hx]

/-! ### The longest one -/
theorem best_law (ns : List Nd) (addr : Nat) : ∀ d at_ i cur, i + d = 32 →
    (∃ l k, best ns addr d at_ i cur = some (l, k) ∧ i ≤ l ∧ l ≤ 32 ∧ hasN ns at_ (bitsFrom addr i (l - i)) = some k ∧ ∀ l', l < l' → l' ≤ 32 → hasN ns at_ (bitsFrom addr i (l' - i)) = none) ∨
    (best ns addr d at_ i cur = cur ∧ ∀ l', i ≤ l' → l' ≤ 32 → hasN ns at_ (bitsFrom addr i (l' - i)) = none)
  | 0, at_, i, cur, h => by
    have e0 : bitsFrom addr i (i - i) = [] := by rw [Nat.sub_self]; rfl
    simp only [best]
    cases hx : ns[at_]? with
    | none => exact .inr ⟨rfl, fun l' _ _ => hasN_gone hx _⟩
    | some x =>
      simp only
      by_cases hh : x.has = true
      · rw [if_pos hh]
        exact .inl ⟨i, x.n, rfl, Nat.le_refl _, by omega, by rw [e0, hasN_nil hx, if_pos hh], fun l' h1 h2 => by omega⟩
      · rw [if_neg hh]
        refine .inr ⟨rfl, fun l' h1 h2 => ?_⟩
        have : l' = i := by omega
        rw [this, e0, hasN_nil hx, if_neg hh]
  | d + 1, at_, i, cur, h => by
    have e0 : bitsFrom addr i (i - i) = [] := by rw [Nat.sub_self]; rfl
    have e1 : ∀ l, i < l → bitsFrom addr i (l - i) = bitAt addr i :: bitsFrom addr (i + 1) (l - (i + 1)) := by
      intro l hl
      have : l - i = (l - (i + 1)) + 1 := by omega
      rw [this, bitsFrom_succ]
    simp only [best]
    cases hx : ns[at_]? with
    | none => exact .inr ⟨rfl, fun l' _ _ => hasN_gone hx _⟩
    | some x =>
      simp only
      by_cases hc : child x (bitAt addr i) = 0
      · rw [if_pos hc]
        have hno : ∀ l', i < l' → hasN ns at_ (bitsFrom addr i (l' - i)) = none := fun l' hl => by rw [e1 l' hl, hasN_cons hx, if_pos hc]
        by_cases hh : x.has = true
        · rw [if_pos hh]
          exact .inl ⟨i, x.n, rfl, Nat.le_refl _, by omega, by rw [e0, hasN_nil hx, if_pos hh], fun l' h1 h2 => hno l' h1⟩
        · rw [if_neg hh]
          refine .inr ⟨rfl, fun l' h1 h2 => ?_⟩
          rcases Nat.eq_or_lt_of_le h1 with e | e
          · rw [← e, e0, hasN_nil hx, if_neg hh]
          · exact hno l' e
      · rw [if_neg hc]
        rcases best_law ns addr d (child x (bitAt addr i)) (i + 1) (if x.has = true then some (i, x.n) else cur) (by omega) with ⟨l, k, h1, h2, h3, h4, h5⟩ | ⟨h1, h2⟩
        · refine .inl ⟨l, k, h1, by omega, h3, by rw [e1 l (by omega), hasN_cons hx, if_neg hc, h4], fun l' h6 h7 => ?_⟩
          rw [e1 l' (by omega), hasN_cons hx, if_neg hc, h5 l' h6 h7]
        · rw [h1]
          have hno : ∀ l', i < l' → l' ≤ 32 → hasN ns at_ (bitsFrom addr i (l' - i)) = none := fun l' hl hl2 => by
            rw [e1 l' hl, hasN_cons hx, if_neg hc, h2 l' (by omega) hl2]
          by_cases hh : x.has = true
          · rw [if_pos hh]
            exact .inl ⟨i, x.n, rfl, Nat.le_refl _, by omega, by rw [e0, hasN_nil hx, if_pos hh], fun l' h1 h2 => hno l' h1 h2⟩
          · rw [if_neg hh]
            refine .inr ⟨rfl, fun l' h1 h2 => ?_⟩
            rcases Nat.eq_or_lt_of_le h1 with e | e
            · rw [← e, e0, hasN_nil hx, if_neg hh]
            · exact hno l' e h2

theorem cutA_div (a l : Nat) : cutA a l / 2 ^ (32 - l) = a / 2 ^ (32 - l) := Nat.mul_div_cancel _ (Nat.two_pow_pos _)

theorem cutA_lt {a l : Nat} (ha : a < 2 ^ 32) : cutA a l < 2 ^ 32 := Nat.lt_of_le_of_lt (Nat.div_mul_le_self _ _) ha

theorem pok_cut {a l : Nat} (ha : a < 2 ^ 32) (hl : l ≤ 32) : Pok (cutA a l, l) := ⟨cutA_lt ha, hl, Nat.mul_mod_left _ _⟩

theorem val_cut (ns : List Nd) {a l : Nat} (hl : l ≤ 32) : valOf ns (cutA a l, l) = hasN ns 0 (bitsFrom a 0 l) := by
  rw [valOf_hasN]
  congr 1
  exact bits_of_eq l 0 (by omega) (by simpa using cutA_div a l)

theorem bestOf_law (ns : List Nd) (addr : Nat) :
    (∃ l k, bestOf ns addr = some (l, k) ∧ l ≤ 32 ∧ valOf ns (cutA addr l, l) = some k ∧ ∀ l', l < l' → l' ≤ 32 → valOf ns (cutA addr l', l') = none) ∨
    (bestOf ns addr = none ∧ ∀ l', l' ≤ 32 → valOf ns (cutA addr l', l') = none) := by
  rcases best_law ns addr 32 0 0 none (by omega) with ⟨l, k, h1, _, h3, h4, h5⟩ | ⟨h1, h2⟩
  · refine .inl ⟨l, k, h1, h3, by rw [val_cut ns h3]; simpa using h4, fun l' h6 h7 => ?_⟩
    rw [val_cut ns h7]; simpa using h5 l' h6 h7
  · refine .inr ⟨h1, fun l' h => ?_⟩
    rw [val_cut ns h]; simpa using h2 l' (by omega) h

/-! ### Those below a node -/
theorem pow_split {n : Nat} (hn : n ≤ 31) : 2 ^ (32 - n) = 2 * 2 ^ (31 - n) := by
  have : 32 - n = (31 - n) + 1 := by omega
  rw [this, Nat.pow_succ]; omega

theorem bit_split {a n : Nat} (hn : n ≤ 31) : a / 2 ^ (31 - n) = 2 * (a / 2 ^ (32 - n)) + bitAt a n := by
  unfold bitAt
  have : a / 2 ^ (32 - n) = a / 2 ^ (31 - n) / 2 := by rw [pow_split hn, Nat.mul_comm, Nat.div_div_eq_div_mul]
  rw [this]; omega

theorem gath_mem (ns : List Nd) (q : Nat × Nat) : ∀ d at_ a n, n + d = 32 → a % 2 ^ (32 - n) = 0 →
    (q ∈ gath ns d at_ a n ↔ n ≤ q.2 ∧ q.2 ≤ 32 ∧ q.1 % 2 ^ (32 - q.2) = 0 ∧ q.1 / 2 ^ (32 - n) = a / 2 ^ (32 - n) ∧ hasN ns at_ (bitsFrom q.1 n (q.2 - n)) ≠ none)
  | 0, at_, a, n, hd, hm => by
    have hn : n = 32 := by omega
    subst hn
    obtain ⟨b, m⟩ := q
    simp only [gath]
    cases hx : ns[at_]? with
    | none => simp [hasN_gone hx]
    | some x =>
      simp only
      constructor
      · intro h
        split at h
        · rename_i hh
          simp at h
          obtain ⟨rfl, rfl⟩ := h
          refine ⟨Nat.le_refl _, Nat.le_refl _, hm, rfl, ?_⟩
          rw [show bitsFrom b 32 (32 - 32) = [] from rfl, hasN_nil hx, if_pos hh]; simp
        · cases h
      · rintro ⟨h1, h2, h3, h4, h5⟩
        have : m = 32 := by omega
        subst this
        simp only [show bitsFrom b 32 (32 - 32) = [] from rfl, hasN_nil hx] at h5
        simp at h4
        subst h4
        split at h5
        · rename_i hh; simp [hh]
        · exact absurd rfl h5
  | d + 1, at_, a, n, hd, hm => by
    have hn : n ≤ 31 := by omega
    have hp := Nat.two_pow_pos (31 - n)
    have e1 : 32 - (n + 1) = 31 - n := by omega
    have e2 := pow_split hn
    have hml : a % 2 ^ (32 - (n + 1)) = 0 := by
      rw [e1]
      have := Nat.div_add_mod a (2 ^ (32 - n))
      rw [hm, e2, Nat.mul_assoc, Nat.mul_left_comm] at this
      rw [← this]; exact Nat.mul_mod_right _ _
    have hmr : (a + 2 ^ (31 - n)) % 2 ^ (32 - (n + 1)) = 0 := by
      rw [e1] at hml ⊢; rw [Nat.add_mod_right]; exact hml
    have ha := bit_split (a := a) hn
    have hb0 : bitAt a n = 0 := by
      have h1 := Nat.div_add_mod a (2 ^ (32 - n))
      have h2 : 2 ^ (31 - n) * (2 * (a / 2 ^ (32 - n))) = a := by
        rw [hm, e2, Nat.mul_assoc, Nat.mul_left_comm, Nat.add_zero, ← e2] at h1
        exact h1
      have h3 : a / 2 ^ (31 - n) = 2 * (a / 2 ^ (32 - n)) := Nat.div_eq_of_eq_mul_right hp h2.symm
      omega
    have har : (a + 2 ^ (31 - n)) / 2 ^ (31 - n) = a / 2 ^ (31 - n) + 1 := Nat.add_div_right _ hp
    have hq := bit_split (a := q.1) hn
    have hlt := bitAt_lt q.1 n
    have H := gath_mem ns q d
    simp only [gath]
    cases hx : ns[at_]? with
    | none => simp [hasN_gone hx]
    | some x =>
      simp only [List.mem_append]
      have HL := H x.l a (n + 1) (by omega) hml
      have HR := H x.r (a + 2 ^ (31 - n)) (n + 1) (by omega) hmr
      rw [e1] at HL HR
      rw [har] at HR
      have hcons : ∀ m, n + 1 ≤ m → bitsFrom q.1 n (m - n) = bitAt q.1 n :: bitsFrom q.1 (n + 1) (m - (n + 1)) := by
        intro m hl
        have : m - n = (m - (n + 1)) + 1 := by omega
        rw [this, bitsFrom_succ]
      constructor
      · rintro ((h | h) | h)
        · split at h
          · rename_i hh
            simp at h
            subst h
            refine ⟨Nat.le_refl _, by simp only; omega, hm, rfl, ?_⟩
            simp only [Nat.sub_self]
            rw [show bitsFrom a n 0 = [] from rfl, hasN_nil hx, if_pos hh]; simp
          · cases h
        · split at h
          · cases h
          · rename_i hc
            obtain ⟨h1, h2, h3, h4, h5⟩ := HL.1 h
            refine ⟨by omega, h2, h3, by omega, ?_⟩
            have hb : bitAt q.1 n = 0 := by omega
            rw [hcons _ h1, hasN_cons hx, hb]
            simpa [child, hc] using h5
        · split at h
          · cases h
          · rename_i hc
            obtain ⟨h1, h2, h3, h4, h5⟩ := HR.1 h
            refine ⟨by omega, h2, h3, by omega, ?_⟩
            have hb : bitAt q.1 n = 1 := by omega
            rw [hcons _ h1, hasN_cons hx, hb]
            simpa [child, hc] using h5
      · rintro ⟨h1, h2, h3, h4, h5⟩
        rcases Nat.eq_or_lt_of_le h1 with e | e
        · refine .inl (.inl ?_)
          obtain ⟨b, m⟩ := q
          simp only at e h3 h4 h5
          subst e
          rw [Nat.sub_self, show bitsFrom b n 0 = [] from rfl, hasN_nil hx] at h5
          have : b = a := by
            have h6 := Nat.div_add_mod b (2 ^ (32 - n))
            have h7 := Nat.div_add_mod a (2 ^ (32 - n))
            rw [h3, h4] at h6; rw [hm] at h7; omega
          subst this
          split at h5
          · rename_i hh; simp [hh]
          · exact absurd rfl h5
        · rw [hcons _ e, hasN_cons hx] at h5
          have h6 : bitAt q.1 n = 0 ∨ bitAt q.1 n = 1 := by omega
          rcases h6 with h6 | h6
          · rw [h6] at h5
            refine .inl (.inr ?_)
            by_cases hc : x.l = 0
            · simp [child, hc] at h5
            · rw [if_neg hc]
              exact HL.2 ⟨e, h2, h3, by omega, by simpa [child, hc] using h5⟩
          · rw [h6] at h5
            refine .inr ?_
            by_cases hc : x.r = 0
            · simp [child, hc] at h5
            · rw [if_neg hc]
              exact HR.2 ⟨e, h2, h3, by omega, by simpa [child, hc] using h5⟩

theorem gath_sorted (ns : List Nd) : ∀ d at_ a n, n + d = 32 → a % 2 ^ (32 - n) = 0 → (gath ns d at_ a n).Pairwise plt
  | 0, at_, a, n, hd, hm => by
    simp only [gath]
    split
    · exact .nil
    · split
      · simp
      · exact .nil
  | d + 1, at_, a, n, hd, hm => by
    have hn : n ≤ 31 := by omega
    have hp := Nat.two_pow_pos (31 - n)
    have e1 : 32 - (n + 1) = 31 - n := by omega
    have e2 := pow_split hn
    have hml : a % 2 ^ (31 - n) = 0 := by
      have := Nat.div_add_mod a (2 ^ (32 - n))
      rw [hm, e2, Nat.mul_assoc, Nat.mul_left_comm] at this
      rw [← this]; exact Nat.mul_mod_right _ _
    have hmr : (a + 2 ^ (31 - n)) % 2 ^ (31 - n) = 0 := by rw [Nat.add_mod_right]; exact hml
    have har : (a + 2 ^ (31 - n)) / 2 ^ (31 - n) = a / 2 ^ (31 - n) + 1 := Nat.add_div_right _ hp
    have hda := Nat.div_add_mod a (2 ^ (31 - n))
    simp only [gath]
    split
    · exact .nil
    · rename_i x hx
      have hl : ∀ q ∈ (if x.l = 0 then [] else gath ns d x.l a (n + 1)), n + 1 ≤ q.2 ∧ q.1 / 2 ^ (31 - n) = a / 2 ^ (31 - n) := by
        intro q hq
        split at hq
        · cases hq
        · obtain ⟨h1, _, _, h4, _⟩ := (gath_mem ns q d x.l a (n + 1) (by omega) (by rw [e1]; exact hml)).1 hq
          rw [e1] at h4; exact ⟨h1, h4⟩
      have hr : ∀ q ∈ (if x.r = 0 then [] else gath ns d x.r (a + 2 ^ (31 - n)) (n + 1)), n + 1 ≤ q.2 ∧ q.1 / 2 ^ (31 - n) = a / 2 ^ (31 - n) + 1 := by
        intro q hq
        split at hq
        · cases hq
        · obtain ⟨h1, _, _, h4, _⟩ := (gath_mem ns q d x.r (a + 2 ^ (31 - n)) (n + 1) (by omega) (by rw [e1]; exact hmr)).1 hq
          rw [e1, har] at h4; exact ⟨h1, h4⟩
      have hge : ∀ q : Nat × Nat, a / 2 ^ (31 - n) ≤ q.1 / 2 ^ (31 - n) → a ≤ q.1 := by
        intro q hq
        have h1 := Nat.div_mul_le_self q.1 (2 ^ (31 - n))
        have h2 := Nat.mul_le_mul_right (2 ^ (31 - n)) hq
        have h3 : a / 2 ^ (31 - n) * 2 ^ (31 - n) = a := by rw [Nat.mul_comm]; omega
        omega
      refine List.pairwise_append.2 ⟨List.pairwise_append.2 ⟨?_, ?_, ?_⟩, ?_, ?_⟩
      · split <;> simp
      · split
        · exact .nil
        · exact gath_sorted ns d x.l a (n + 1) (by omega) (by rw [e1]; exact hml)
      · intro p hpm q hqm
        split at hpm
        · simp at hpm; subst hpm
          obtain ⟨h1, h2⟩ := hl q hqm
          have := hge q (by omega)
          unfold plt; simp only; omega
        · cases hpm
      · split
        · exact .nil
        · exact gath_sorted ns d x.r _ (n + 1) (by omega) (by rw [e1]; exact hmr)
      · intro p hpm q hqm
        obtain ⟨h1, h2⟩ := hr q hqm
        rcases List.mem_append.1 hpm with h | h
        · split at h
          · simp at h; subst h
            have := hge q (by omega)
            unfold plt; simp only; omega
          · cases h
        · obtain ⟨h3, h4⟩ := hl p h
          have : p.1 < q.1 := Nat.lt_of_div_lt_div (by rw [h4, h2]; omega : p.1 / 2 ^ (31 - n) < q.1 / 2 ^ (31 - n))
          exact .inl this

/-- Two lists in order with the same members are one. -/
theorem sorted_ext : ∀ {l l' : List (Nat × Nat)}, l.Pairwise plt → l'.Pairwise plt → (∀ q, q ∈ l ↔ q ∈ l') → l = l'
  | [], [], _, _, _ => rfl
  | [], y :: l', _, _, h => absurd ((h y).2 (by simp)) (by simp)
  | x :: l, [], _, _, h => absurd ((h x).1 (by simp)) (by simp)
  | x :: l, y :: l', hs, hs', h => by
    have h1 := List.pairwise_cons.1 hs
    have h2 := List.pairwise_cons.1 hs'
    have hxy : x = y := by
      rcases List.mem_cons.1 ((h x).1 (by simp)) with e | e
      · exact e
      · rcases List.mem_cons.1 ((h y).2 (by simp)) with e' | e'
        · exact e'.symm
        · exact absurd (plt_trans (h1.1 y e') (h2.1 x e)) (plt_irrefl _)
    subst hxy
    congr 1
    refine sorted_ext h1.2 h2.2 (fun q => ⟨fun hq => ?_, fun hq => ?_⟩)
    · rcases List.mem_cons.1 ((h q).1 (by simp [hq])) with e | e
      · subst e; exact absurd (h1.1 q hq) (plt_irrefl _)
      · exact e
    · rcases List.mem_cons.1 ((h q).2 (by simp [hq])) with e | e
      · subst e; exact absurd (h2.1 q hq) (plt_irrefl _)
      · exact e
end Go.Proofs.Ytmbhlbohbpepaaa
