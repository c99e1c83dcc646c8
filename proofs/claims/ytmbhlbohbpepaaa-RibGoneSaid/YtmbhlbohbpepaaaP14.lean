/- The chapter's example; which of two routes comes ahead. -/
import Derived.Test.YtmbhlbohbpepaaaP13
namespace Go.Proofs.Ytmbhlbohbpepaaa
open Go
set_option linter.unusedSimpArgs false
set_option linter.unusedVariables false

def aw1 : Rt := ⟨0, 0, 0, 120, 5, 0, 0⟩
def aw2 : Rt := ⟨0, 0, 1, 1, 1, 0, 4⟩

theorem dep_4 : dep 4 = 1 := by rw [dep_pos (by decide), show 4 &&& (4 - 1) = 0 from rfl, dep_zero]

theorem awput1 : putS 5 0 [] aw1 = (0, 0, [(aw1.key, aw1)]) := by decide +kernel
theorem awput2 : putS 5 0 [(aw1.key, aw1)] aw2 = (0, 0, [(aw1.key, aw1), (aw2.key, aw2)]) := by decide +kernel
theorem awof : ofN [(aw1.key, aw1), (aw2.key, aw2)] 0 0 16 = [aw1, aw2] := by decide +kernel
theorem awbest : bestR [(aw1.key, aw1), (aw2.key, aw2)] 0 0 = some aw1 := by
  unfold bestR
  rw [awof]
  have : cmpR aw2 aw1 = 1 := by
    unfold cmpR aw1 aw2
    simp only [dep_4, dep_zero]
    decide
  simp only [bestL, minR, this]
  decide

set_option maxRecDepth 20000 in
set_option maxHeartbeats 2000000 in
theorem awake_spec {h : Hp} {Q : Value → Hp → Prop} (hQ : ∀ h', Le h h' → Q (.bool true) h') : Ok Try.prog F_octroilaw09_awake #[] h Q := by
  refine octroilaw09_awake_ok (by simp) ?_
  unfold octroilaw09_awake_D
  simp (disch := omega) [octroilaw09_awake_r0, octroilaw09_awake_r1]
  refine rnewM (fun r h1 O1 l1 n1 M1 => ?_)
  simp (disch := omega) [octroilaw09_awake_r2, octroilaw09_awake_r4]
  refine rputM (x := aw1) M1 ⟨by decide, by decide⟩ (by omega) (fun h2 O2 T2 F2 M2 => ?_)
  have l2 := F2.le l1 n1
  have n2 := F2.new l1 n1
  rw [show min (5 : Int) 64 = 5 by decide, awput1] at M2 ⊢
  simp only [] at M2
  simp (disch := omega) [octroilaw09_awake_r5]
  refine rputM (x := aw2) M2 ⟨by decide, by decide⟩ (by omega) (fun h3 O3 T3 F3 M3 => ?_)
  have l3 := F3.le l2 n2
  rw [awput2] at M3 ⊢
  simp only [] at M3
  simp (disch := omega) [octroilaw09_awake_r6]
  refine rbestM (a := 0) (l := 0) M3 (fun h4 l4 => ?_)
  rw [awbest]
  simp only [Option.getD_some, Option.isSome_some, aw1]
  simp (disch := omega)
  intro b4 hb4
  have M5 := (M3.le l4).le (.new (o := rcl aw1) hb4)
  have L5 := (l3.trans l4).trans (.new (o := rcl aw1) hb4)
  have f5 : (h4.upd b4 (rcl aw1)) b4 = some (rcl aw1) := upd_same
  simp only [aw1] at f5 M5 L5
  simp (disch := omega)
  simp (disch := omega) [octroilaw09_awake_r7]
  refine rallM M5 (fun v h5 l5 S nv => ?_)
  obtain ⟨p, cap, hv⟩ := S.shape'
  rw [allR_length_eq M5.inv] at hv
  subst hv
  simp (disch := omega)
  exact .to _ (.refl _) (hQ _ (L5.trans l5))

/-- One comes ahead of another: in words. -/
def lexR (x y : Rt) : Prop := dep x.tg < dep y.tg ∨ (dep x.tg = dep y.tg ∧ (x.ds < y.ds ∨ (x.ds = y.ds ∧ (x.m < y.m ∨ (x.m = y.m ∧ (x.d < y.d ∨ (x.d = y.d ∧ (x.nx < y.nx ∨ (x.nx = y.nx ∧ x.tg < y.tg)))))))))

theorem orI_lt {a b : Int} {l : List Int} : orI (cmpI a b :: l) < 0 ↔ a < b ∨ (a = b ∧ orI l < 0) := by
  unfold cmpI
  simp only [orI]
  by_cases h1 : a < b
  · simp [h1]
  · by_cases h2 : b < a
    · simp [h1, h2]; omega
    · have : a = b := by omega
      simp [this]

theorem cmpR_lt {x y : Rt} : cmpR x y < 0 ↔ lexR x y := by
  unfold cmpR lexR
  rw [orI_lt, orI_lt, orI_lt, orI_lt, orI_lt, orI_lt]
  have : ¬ orI [] < 0 := by decide
  simp only [this, and_false, or_false]
  omega

theorem rcl_two {h : Hp} {b1 b2 : Nat} {x y : Rt} (n : b2 ≠ b1) : (h.upd b1 (rcl x)).upd b2 (rcl y) b1 = some (rcl x) ∧ (h.upd b1 (rcl x)).upd b2 (rcl y) b2 = some (rcl y) := ⟨by rw [upd_ne (Ne.symm n), upd_same], upd_same⟩

set_option maxRecDepth 20000 in
set_option maxHeartbeats 2000000 in
theorem rbetter_spec {x y : Rt} {h : Hp} {Q : Value → Hp → Prop} (hx : x.Good) (hy : y.Good) (hQ : Q (.bool (decide (cmpR x y < 0))) h) : Ok Try.prog F_octroiref09_Better #[rv x, rv y] h Q := by
  refine octroiref09_Better_ok (by simp) ?_
  unfold octroiref09_Better_D
  simp (disch := omega) [octroiref09_Better_r0]
  intro b1 hb1 b2 hb2
  obtain ⟨n12, hb2'⟩ := upd_none hb2
  have l : Le h ((h.upd b1 (rcl x)).upd b2 (rcl y)) := (Le.new hb1).trans (Le.new hb2)
  obtain ⟨f1, f2⟩ := rcl_two (h := h) (x := x) (y := y) n12
  generalize (h.upd b1 (rcl x)).upd b2 (rcl y) = g at *
  have key : ∀ (b : Bool), (b = true ↔ lexR x y) → Q (.bool b) h := fun b e => by
    have : decide (cmpR x y < 0) = b := by rw [Bool.eq_iff_iff, decide_eq_true_eq, cmpR_lt, e]
    rw [← this]; exact hQ
  unfold lexR at key
  simp (disch := omega) [octroiref09_Better_r1, f1, f2]
  refine rdepth_spec hx.tg ?_
  simp (disch := omega) [octroiref09_Better_r2, f1, f2]
  refine rdepth_spec hy.tg ?_
  by_cases c1 : dep x.tg = dep y.tg
  · by_cases c2 : x.ds = y.ds
    · by_cases c3 : x.m = y.m
      · by_cases c4 : x.d = y.d
        · by_cases c5 : x.nx = y.nx
          · simp (disch := omega) [octroiref09_Better_r3, octroiref09_Better_r5, octroiref09_Better_r7, octroiref09_Better_r9, octroiref09_Better_r11, octroiref09_Better_r13, f1, f2, c1, c2, c3, c4, c5]
            exact .to _ l (key _ (by rw [decide_eq_true_eq]; omega))
          · simp (disch := omega) [octroiref09_Better_r3, octroiref09_Better_r5, octroiref09_Better_r7, octroiref09_Better_r9, octroiref09_Better_r11, octroiref09_Better_r12, f1, f2, c1, c2, c3, c4, c5]
            exact .to _ l (key _ (by rw [decide_eq_true_eq]; omega))
        · simp (disch := omega) [octroiref09_Better_r3, octroiref09_Better_r5, octroiref09_Better_r7, octroiref09_Better_r9, octroiref09_Better_r10, f1, f2, c1, c2, c3, c4]
          exact .to _ l (key _ (by rw [decide_eq_true_eq]; omega))
      · simp (disch := omega) [octroiref09_Better_r3, octroiref09_Better_r5, octroiref09_Better_r7, octroiref09_Better_r8, f1, f2, c1, c2, c3]
        exact .to _ l (key _ (by rw [decide_eq_true_eq]; omega))
    · simp (disch := omega) [octroiref09_Better_r3, octroiref09_Better_r5, octroiref09_Better_r6, f1, f2, c1, c2]
      exact .to _ l (key _ (by rw [decide_eq_true_eq]; omega))
  · have c1' : ¬ ((dep x.tg : Nat) : Int) = ((dep y.tg : Nat) : Int) := by omega
    simp (disch := omega) [octroiref09_Better_r3, octroiref09_Better_r4, f1, f2, c1, c1']
    exact .to _ l (key _ (by rw [decide_eq_true_eq]; omega))

set_option maxRecDepth 20000 in
set_option maxHeartbeats 2000000 in
theorem RibBetter_walk {h : Hp} {x y : Rt} (hx : x.Good) (hy : y.Good) : Ok Try.prog F_octroilaw09_RibBetter #[rv x, rv y] h (fun r g => r = .bool true ∧ Le h g) := by
  refine octroilaw09_RibBetter_ok (by simp) ?_
  unfold octroilaw09_RibBetter_D
  simp (disch := omega) [octroilaw09_RibBetter_r0]
  intro b1 hb1 b2 hb2
  obtain ⟨n12, hb2'⟩ := upd_none hb2
  have l : Le h ((h.upd b1 (rcl x)).upd b2 (rcl y)) := (Le.new hb1).trans (Le.new hb2)
  obtain ⟨f1, f2⟩ := rcl_two (h := h) (x := x) (y := y) n12
  simp (disch := omega) [octroilaw09_RibBetter_r1]
  generalize (h.upd b1 (rcl x)).upd b2 (rcl y) = g at *
  refine awake_spec (fun g1 l1 => ?_)
  replace f1 := l1 _ _ f1
  replace f2 := l1 _ _ f2
  simp (disch := omega) [octroilaw09_RibBetter_r2, f1]
  refine rmayR_spec hx ?_
  simp (disch := omega) [octroilaw09_RibBetter_r3, f2]
  refine rmayR_spec hy ?_
  cases c1 : mayR x with
  | false =>
    simp (disch := omega) [octroilaw09_RibBetter_r4, octroilaw09_RibBetter_r5]
    exact .to _ (.refl _) ⟨rfl, l.trans l1⟩
  | true =>
    cases c2 : mayR y with
    | false =>
      simp (disch := omega) [octroilaw09_RibBetter_r4, octroilaw09_RibBetter_r5]
      exact .to _ (.refl _) ⟨rfl, l.trans l1⟩
    | true =>
      simp (disch := omega) [octroilaw09_RibBetter_r4, octroilaw09_RibBetter_r6, f1, f2]
      refine better_spec hx hy ?_
      simp (disch := omega) [f1, f2]
      refine rbetter_spec hx hy ?_
      simp (disch := omega)
      exact .to _ (.refl _) ⟨rfl, l.trans l1⟩

set_option maxRecDepth 20000 in
set_option maxHeartbeats 2000000 in
theorem RibDepths_walk {h : Hp} {x y : Rt} (hx : x.Good) (hy : y.Good) : Ok Try.prog F_octroilaw09_RibDepths #[rv x, rv y] h (fun r g => r = .bool true ∧ Le h g) := by
  refine octroilaw09_RibDepths_ok (by simp) ?_
  unfold octroilaw09_RibDepths_D
  simp (disch := omega) [octroilaw09_RibDepths_r0]
  intro b1 hb1 b2 hb2
  obtain ⟨n12, hb2'⟩ := upd_none hb2
  have l : Le h ((h.upd b1 (rcl x)).upd b2 (rcl y)) := (Le.new hb1).trans (Le.new hb2)
  obtain ⟨f1, f2⟩ := rcl_two (h := h) (x := x) (y := y) n12
  simp (disch := omega) [octroilaw09_RibDepths_r1]
  generalize (h.upd b1 (rcl x)).upd b2 (rcl y) = g at *
  refine awake_spec (fun g1 l1 => ?_)
  replace f1 := l1 _ _ f1
  replace f2 := l1 _ _ f2
  simp (disch := omega) [octroilaw09_RibDepths_r2, f1, f2]
  refine depth_spec hx.tg ?_
  simp (disch := omega) [f1, f2]
  refine depth_spec hy.tg ?_
  by_cases c : dep x.tg < dep y.tg
  · have c' : ¬ dep y.tg ≤ dep x.tg := by omega
    have c2 : cmpR x y < 0 := cmpR_lt.2 (.inl c)
    have c3 : ¬ cmpR y x < 0 := fun q => by have := cmpR_lt.1 q; unfold lexR at this; omega
    simp (disch := omega) [octroilaw09_RibDepths_r4, f1, f2, c']
    refine better_spec hx hy ?_
    simp (disch := omega) [f1, f2, c2]
    refine better_spec hy hx ?_
    simp (disch := omega) [c3]
    exact .to _ (.refl _) ⟨rfl, l.trans l1⟩
  · have c' : dep y.tg ≤ dep x.tg := by omega
    simp (disch := omega) [octroilaw09_RibDepths_r3, c']
    exact .to _ (.refl _) ⟨rfl, l.trans l1⟩
end Go.Proofs.Ytmbhlbohbpepaaa
