/- The best of a prefix: in words. -/
import Derived.Test.YtmbhlbohbpepaaaP14
namespace Go.Proofs.Ytmbhlbohbpepaaa
open Go
set_option linter.unusedSimpArgs false
set_option linter.unusedVariables false

theorem lexR_ntrans {x y z : Rt} (h : lexR x z) : lexR x y ∨ lexR y z := by
  unfold lexR at *; omega
theorem lexR_asymm {x y : Rt} (h : lexR x y) : ¬ lexR y x := by
  unfold lexR at *; omega
theorem lexR_tri {x y : Rt} (h : ¬ lexR x y) (h2 : ¬ lexR y x) : x.d = y.d ∧ x.ds = y.ds ∧ x.m = y.m ∧ x.nx = y.nx ∧ x.tg = y.tg := by
  unfold lexR at *; omega

theorem minR_min : ∀ {xs : List Rt} {c y : Rt}, y ∈ c :: xs → ¬ lexR y (minR c xs)
  | [], c, y, h => by
    simp at h; subst h
    exact fun q => lexR_asymm q q
  | x :: xs, c, y, h => by
    simp only [minR]
    rw [List.mem_cons, List.mem_cons] at h
    by_cases hx : cmpR x c < 0
    · rw [if_pos hx]
      have ih := fun y h => minR_min (xs := xs) (c := x) (y := y) h
      rcases h with rfl | h | h
      · intro q
        exact ih x (by simp) (by
          have := cmpR_lt.1 hx
          rcases lexR_ntrans (y := minR x xs) this with a | a
          · exact a
          · exact (lexR_asymm q a).elim)
      · exact ih y (by simp [h])
      · exact ih y (by simp [h])
    · rw [if_neg hx]
      have ih := fun y h => minR_min (xs := xs) (c := c) (y := y) h
      rcases h with rfl | h | h
      · exact ih y (by simp)
      · subst h
        intro q
        rcases lexR_ntrans (y := c) q with a | a
        · exact hx (cmpR_lt.2 a)
        · exact ih c (by simp) a
      · exact ih y (by simp [h])

/-- What is taken for a prefix. -/
def IsBest (m : List (RK × Rt)) (a : Nat) (l : Int) (b : Rt) : Prop := getM m b.key = some b ∧ b.a = a ∧ b.l = l ∧ ∀ y, getM m y.key = some y → y.a = a → y.l = l → ¬ lexR y b

theorem best_is {m : List (RK × Rt)} {T : PL} (R : RInv m T) {a : Nat} {l : Int} {b : Rt} (h : bestR m a l = some b) : IsBest m a l b := by
  unfold bestR at h
  cases hL : ofN m a l 16 with
  | nil => rw [hL] at h; cases h
  | cons x xs =>
    rw [hL] at h
    simp only [bestL, Option.some.injEq] at h
    have hb : b ∈ ofN m a l 16 := by
      rw [hL, ← h]
      rcases minR_mem (xs := xs) (c := x) with e | e
      · rw [e]; simp
      · exact List.mem_cons_of_mem _ e
    obtain ⟨h1, h2, h3⟩ := (ofN_mem_iff R).1 hb
    refine ⟨h1, h2, h3, fun y hy ha hl => ?_⟩
    have := (ofN_mem_iff R).2 ⟨hy, ha, hl⟩
    rw [hL] at this
    rw [← h]
    exact minR_min this

theorem best_none {m : List (RK × Rt)} {T : PL} (R : RInv m T) {a : Nat} {l : Int} (h : bestR m a l = none) {y : Rt} (hy : getM m y.key = some y) : ¬ (y.a = a ∧ y.l = l) := by
  rintro ⟨ha, hl⟩
  have := (ofN_mem_iff R).2 ⟨hy, ha, hl⟩
  unfold bestR at h
  cases hL : ofN m a l 16 with
  | nil => rw [hL] at this; cases this
  | cons x xs => rw [hL] at h; cases h

theorem best_some {m : List (RK × Rt)} {T : PL} (R : RInv m T) {y : Rt} (hy : getM m y.key = some y) : ∃ b, bestR m y.a y.l = some b := by
  cases h : bestR m y.a y.l with
  | none => exact (best_none R h hy ⟨rfl, rfl⟩).elim
  | some b => exact ⟨b, rfl⟩

theorem best_uniq {m m' : List (RK × Rt)} (hm : ∀ k, getM m k = getM m' k) {a : Nat} {l : Int} {b b' : Rt} (h : IsBest m a l b) (h' : IsBest m' a l b') : b = b' := by
  obtain ⟨h1, h2, h3, h4⟩ := h
  obtain ⟨g1, g2, g3, g4⟩ := h'
  have e1 := h4 b' (by rw [hm]; exact g1) g2 g3
  have e2 := g4 b (by rw [← hm]; exact h1) h2 h3
  obtain ⟨q1, q2, q3, q4, q5⟩ := lexR_tri e2 e1
  cases b; cases b'
  simp only at *
  subst_vars
  rfl

theorem best_ext {m m' : List (RK × Rt)} {T T' : PL} (R : RInv m T) (R' : RInv m' T') (hm : ∀ k, getM m k = getM m' k) (a : Nat) (l : Int) : bestR m a l = bestR m' a l := by
  cases h : bestR m a l with
  | none =>
    cases h' : bestR m' a l with
    | none => rfl
    | some b =>
      obtain ⟨g1, g2, g3, _⟩ := best_is R' h'
      exact (best_none R h (y := b) (by rw [hm]; exact g1) ⟨g2, g3⟩).elim
  | some b =>
    cases h' : bestR m' a l with
    | none =>
      obtain ⟨g1, g2, g3, _⟩ := best_is R h
      exact (best_none R' h' (y := b) (by rw [← hm]; exact g1) ⟨g2, g3⟩).elim
    | some b' => rw [best_uniq hm (best_is R h) (best_is R' h')]

theorem keys_ext {m m' : List (RK × Rt)} {T T' : PL} (R : RInv m T) (R' : RInv m' T') (hm : ∀ k, getM m k = getM m' k) : T.map (·.1) = T'.map (·.1) := by
  refine sorted_ext (List.pairwise_map.2 R.srt) (List.pairwise_map.2 R'.srt) fun q => ?_
  rw [R.has_pf, R'.has_pf]
  simp only [hm]
end Go.Proofs.Ytmbhlbohbpepaaa
