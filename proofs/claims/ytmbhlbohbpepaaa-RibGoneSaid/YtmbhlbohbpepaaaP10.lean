/- The table's answers: MinFunc, Best. -/
import Derived.Test.YtmbhlbohbpepaaaP9
namespace Go.Proofs.Ytmbhlbohbpepaaa
open Go
set_option linter.unusedSimpArgs false
set_option linter.unusedVariables false

def minR (c : Rt) : List Rt → Rt
  | [] => c
  | x :: xs => minR (if cmpR x c < 0 then x else c) xs

def bestL : List Rt → Option Rt
  | [] => none
  | x :: xs => some (minR x xs)

theorem minR_snoc {x : Rt} : ∀ {xs : List Rt} {c : Rt}, minR c (xs ++ [x]) = if cmpR x (minR c xs) < 0 then x else minR c xs
  | [], c => rfl
  | y :: ys, c => by simp only [List.cons_append, minR]; exact minR_snoc

theorem minR_mem : ∀ {xs : List Rt} {c : Rt}, minR c xs = c ∨ minR c xs ∈ xs
  | [], c => .inl rfl
  | x :: xs, c => by
    simp only [minR]
    rcases minR_mem (xs := xs) (c := if cmpR x c < 0 then x else c) with h | h
    · rw [h]; split
      · exact .inr (by simp)
      · exact .inl rfl
    · exact .inr (List.mem_cons_of_mem _ h)

theorem rt_at {h : Hp} {v : Value} {xs : List Rt} {i : Nat} {x : Rt} (S : SlAt h T_api_Route 7 Rt.enc v xs) (hx : xs[i]? = some x) :
    ∃ b cap c, v = .slice (some ⟨b, 0, none⟩) xs.length cap ∧ h b = some (.cells c T_api_Route (0, 0)) ∧ c[i * 7]? = some (.int .u32 (x.a : Nat)) ∧ c[i * 7 + 1]? = some (.int .i64 x.l) ∧ c[i * 7 + 2]? = some (.int .i64 x.d) ∧ c[i * 7 + 3]? = some (.int .i64 x.ds) ∧
      c[i * 7 + 4]? = some (.int .i64 x.m) ∧ c[i * 7 + 5]? = some (.int .i64 x.nx) ∧ c[i * 7 + 6]? = some (.int .u16 (x.tg : Nat)) := by
  obtain ⟨b, cap, c, e, hb, H⟩ := SlAt.at' S hx
  exact ⟨b, cap, c, e, hb, H 0 (by omega), H 1 (by omega), H 2 (by omega), H 3 (by omega), H 4 (by omega), H 5 (by omega), H 6 (by omega)⟩

abbrev rls (x : Rt) : List Value := [.int .u32 (x.a : Nat), .int .i64 x.l, .int .i64 x.d, .int .i64 x.ds, .int .i64 x.m, .int .i64 x.nx, .int .u16 (x.tg : Nat)]

section
variable {h : Hp} {Q : Value → Hp → Prop}

def MinInv (h0 : Hp) (x : Rt) (xs : List Rt) (v : Value) (b4 b5 : Nat) (mm : Nat) (env : Env) (g : Hp) : Prop :=
  ∃ i : Nat, 1 ≤ i ∧ i + mm = xs.length + 1 ∧ env 0 = v ∧ env 1 = .func (.func F_rib_compare) #[] #[] ∧ env 4 = .pointer (some ⟨b4, 0, none⟩) ∧ env 5 = .pointer (some ⟨b5, 0, none⟩) ∧ env 6 = .int .i64 (i : Nat) ∧ Le h0 g ∧
    (∃ z, g b4 = some (rcl z)) ∧ g b5 = some (rcl (minR x (xs.take (i - 1))))

set_option maxRecDepth 20000 in
set_option maxHeartbeats 2000000 in
theorem min_spec {v : Value} {x : Rt} {xs : List Rt} (S : SlAt h T_api_Route 7 Rt.enc v (x :: xs)) (hg : ∀ y ∈ x :: xs, y.Good) (hl : xs.length ≤ 100000) (hQ : ∀ h', Le h h' → Q (rv (minR x xs)) h') :
    Ok Try.prog F_slices_MinFunc_api_Route_api_Route #[v, .func (.func F_rib_compare) #[] #[]] h Q := by
  refine slices_MinFunc_api_Route_api_Route_ok (by simp) ?_
  unfold slices_MinFunc_api_Route_api_Route_D
  simp (disch := omega) [slices_MinFunc_api_Route_api_Route_r0]
  intro b4 hb4
  have L1 : Le h (h.upd b4 (.cells #[.int .u32 0, .int .i64 0, .int .i64 0, .int .i64 0, .int .i64 0, .int .i64 0, .int .u16 0] 27)) := .new hb4
  have f4 : ∃ z, (h.upd b4 (.cells #[.int .u32 0, .int .i64 0, .int .i64 0, .int .i64 0, .int .i64 0, .int .i64 0, .int .u16 0] 27)) b4 = some (rcl z) := ⟨rz, upd_same⟩
  generalize h.upd b4 (.cells #[.int .u32 0, .int .i64 0, .int .i64 0, .int .i64 0, .int .i64 0, .int .i64 0, .int .u16 0] 27) = g1 at *
  have S1 := S.le' L1
  obtain ⟨b, cap, c, hv, hb, hc⟩ := SlAt.at' S1 (i := 0) (x := x) rfl
  have c0 : ∀ j, j < 7 → c[j]? = x.enc[j]? := fun j hj => by have := hc j hj; simpa using this
  have e0 := c0 0 (by omega)
  have e1 := c0 1 (by omega)
  have e2 := c0 2 (by omega)
  have e3 := c0 3 (by omega)
  have e4 := c0 4 (by omega)
  have e5 := c0 5 (by omega)
  have e6 := c0 6 (by omega)
  simp [Rt.enc] at e0 e1 e2 e3 e4 e5 e6
  rw [List.length_cons] at hv
  have hlt : ¬ ((xs.length + 1 : Nat) : Int) < 1 := by omega
  subst hv
  have hpos : (0 : Int) < (xs.length + 1 : Nat) := by omega
  have hpos' : (0 : Int) < (xs.length : Int) + 1 := by omega
  have hlt' : ¬ (xs.length : Int) + 1 < 1 := by omega
  simp (disch := omega) [slices_MinFunc_api_Route_api_Route_r1, slices_MinFunc_api_Route_api_Route_r3, hb, e0, e1, e2, e3, e4, e5, e6, hlt, hlt']
  intro b5 hb5
  have n45 : b4 ≠ b5 := by obtain ⟨z, e⟩ := f4; exact ne_new e hb5
  simp (disch := omega) [slices_MinFunc_api_Route_api_Route_r4]
  have L5 := Le.new (o := rcl x) hb5
  have S5 := S1.le' L5
  refine ⟨MinInv g1 x xs (.slice (some ⟨b, 0, none⟩) (xs.length + 1) cap) b4 b5, ⟨xs.length, 1, by omega, by omega, by simp, by simp, by simp, by simp, by simp, L5, ?_, by simp [minR]⟩, ?_⟩
  · obtain ⟨z, e⟩ := f4; exact ⟨z, L5 _ _ e⟩
  clear hb e0 e1 e2 e3 e4 e5 e6 c0 hc
  rintro mm env g ⟨i, hi1, him, e0, ee1, e4, e5, e6, lg, ⟨z, f4'⟩, f5⟩
  unfold slices_MinFunc_api_Route_api_Route_L0
  by_cases hm : mm = 0
  · have : i = xs.length + 1 := by omega
    subst this
    rw [Nat.add_sub_cancel, List.take_of_length_le (Nat.le_refl _)] at f5
    simp (disch := omega) [slices_MinFunc_api_Route_api_Route_r5, slices_MinFunc_api_Route_api_Route_r9, e0, ee1, e4, e5, e6, f5]
    rw [stA_of (vals := rls (minR x xs)) f4' rfl rfl]
    simp (disch := omega) [e0, e4, e5]
    refine .to h ?_ (hQ _ (.refl _))
    exact Le.put (L1.trans lg) hb4
  · obtain ⟨y, hy⟩ : ∃ y, (x :: xs)[i]? = some y := ⟨_, List.getElem?_eq_getElem (by simp; omega)⟩
    obtain ⟨b', cap', c', hv, hb', q0, q1, q2, q3, q4, q5, q6⟩ := rt_at (S1.le' lg) hy
    simp only [List.length_cons, Value.slice.injEq, Option.some.injEq, Addr.mk.injEq, true_and, and_true] at hv
    obtain ⟨rfl, rfl⟩ := hv
    have hi' : (i : Int) < (xs.length + 1 : Nat) := by omega
    have hi2 : (i : Int) < (xs.length : Int) + 1 := by omega
    have hi3 : i < xs.length + 1 := by omega
    have gy := hg y (List.mem_of_getElem? hy)
    have gm : (minR x (xs.take (i - 1))).Good := by
      rcases minR_mem (xs := xs.take (i - 1)) (c := x) with e | e
      · rw [e]; exact hg x (by simp)
      · exact hg _ (List.mem_cons_of_mem _ (List.mem_of_mem_take e))
    have hys : xs[i - 1]? = some y := by
      obtain ⟨j, rfl⟩ : ∃ j, i = j + 1 := ⟨i - 1, by omega⟩
      simpa using hy
    have tk : minR x (xs.take (i + 1 - 1)) = if cmpR y (minR x (xs.take (i - 1))) < 0 then y else minR x (xs.take (i - 1)) := by
      rw [show i + 1 - 1 = (i - 1) + 1 by omega, List.take_add_one, hys, Option.toList_some, minR_snoc]
    generalize minR x (xs.take (i - 1)) = cur at *
    simp (disch := omega) [slices_MinFunc_api_Route_api_Route_r5, slices_MinFunc_api_Route_api_Route_r6, e0, ee1, e4, e5, e6, f5, hb', q0, q1, q2, q3, q4, q5, q6, hi', hi2, hi3]
    refine cmpR_spec gy gm ?_
    by_cases hlt : cmpR y cur < 0
    · rw [if_pos hlt] at tk
      simp (disch := omega) [slices_MinFunc_api_Route_api_Route_r7, slices_MinFunc_api_Route_api_Route_r8, e0, ee1, e4, e5, e6, f5, hb', q0, q1, q2, q3, q4, q5, q6, hi', hi2, hi3, hlt]
      rw [stA_of (vals := rls y) f5 rfl rfl]
      simp (disch := omega) [slices_MinFunc_api_Route_api_Route_r8, e0, ee1, e4, e5, e6, wrap_i64]
      refine ⟨mm - 1, by omega, i + 1, by omega, by omega, by simp [e0], by simp [ee1], by simp [e4], by simp [e5], by simp, Le.put lg hb5, ⟨z, ?_⟩, ?_⟩
      · rw [upd_ne n45]; exact f4'
      · rw [tk, upd_same]
    · rw [if_neg hlt] at tk
      simp (disch := omega) [slices_MinFunc_api_Route_api_Route_r8, e0, ee1, e4, e5, e6, hlt, wrap_i64]
      exact ⟨mm - 1, by omega, i + 1, by omega, by omega, by simp [e0], by simp [ee1], by simp [e4], by simp [e5], by simp, lg, ⟨z, f4'⟩, by rw [tk]; exact f5⟩
end
end Go.Proofs.Ytmbhlbohbpepaaa
