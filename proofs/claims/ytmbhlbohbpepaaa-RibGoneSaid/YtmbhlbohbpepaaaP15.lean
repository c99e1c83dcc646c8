/- RibOrder: of two routes just one comes ahead: the walk. -/
import Derived.Test.YtmbhlbohbpepaaaP14
namespace Go.Proofs.Ytmbhlbohbpepaaa
open Go
set_option linter.unusedSimpArgs false
set_option linter.unusedVariables false

def Rt.at (y x : Rt) : Rt := { y with a := x.a, l := x.l }

theorem lexR_total {x y : Rt} (h : ¬ (x.d = y.d ∧ x.ds = y.ds ∧ x.m = y.m ∧ x.nx = y.nx ∧ x.tg = y.tg)) : (lexR x y ∧ ¬ lexR y x) ∨ (¬ lexR x y ∧ lexR y x) := by
  unfold lexR; omega
theorem lexR_irrefl {x y : Rt} (h : x.d = y.d ∧ x.ds = y.ds ∧ x.m = y.m ∧ x.nx = y.nx ∧ x.tg = y.tg) : ¬ lexR x y ∧ ¬ lexR y x := by
  obtain ⟨h1, h2, h3, h4, h5⟩ := h
  unfold lexR; rw [h1, h2, h3, h4, h5]; omega
theorem lexR_trans {x y z : Rt} (h : lexR x y) (h2 : lexR y z) : lexR x z := by
  unfold lexR at *; omega

theorem Rt.at_good {x y : Rt} (hx : x.Good) (hy : y.Good) : (y.at x).Good := ⟨hx.a, hy.tg⟩

set_option maxRecDepth 20000 in
set_option maxHeartbeats 4000000 in
theorem RibOrder_walk {h : Hp} {x y z : Rt} (hx : x.Good) (hy : y.Good) (hz : z.Good) : Ok Try.prog F_octroilaw09_RibOrder #[rv x, rv y, rv z] h (fun r g => r = .bool true ∧ Le h g) := by
  refine octroilaw09_RibOrder_ok (by simp) ?_
  unfold octroilaw09_RibOrder_D
  simp (disch := omega) [octroilaw09_RibOrder_r0]
  intro b1 hb1 b2 hb2 b3 hb3
  obtain ⟨n12, hb2'⟩ := upd_none hb2
  obtain ⟨n32, hb3'⟩ := upd_none hb3
  obtain ⟨n31, hb3''⟩ := upd_none hb3'
  have l : Le h (((h.upd b1 (rcl x)).upd b2 (rcl y)).upd b3 (rcl z)) := ((Le.new hb1).trans (Le.new hb2)).trans (Le.new hb3)
  have f1 : (((h.upd b1 (rcl x)).upd b2 (rcl y)).upd b3 (rcl z)) b1 = some (rcl x) := by rw [upd_ne (Ne.symm n31), upd_ne (Ne.symm n12), upd_same]
  have f2 : (((h.upd b1 (rcl x)).upd b2 (rcl y)).upd b3 (rcl z)) b2 = some (rcl y) := by rw [upd_ne (Ne.symm n32), upd_same]
  have f3 : (((h.upd b1 (rcl x)).upd b2 (rcl y)).upd b3 (rcl z)) b3 = some (rcl z) := upd_same
  simp (disch := omega) [octroilaw09_RibOrder_r1]
  generalize ((h.upd b1 (rcl x)).upd b2 (rcl y)).upd b3 (rcl z) = g at *
  refine awake_spec (fun g1 l1 => ?_)
  replace f1 := l1 _ _ f1
  replace f2 := l1 _ _ f2
  replace f3 := l1 _ _ f3
  simp (disch := omega) [octroilaw09_RibOrder_r2, f1]
  refine rmayR_spec hx ?_
  simp (disch := omega) [octroilaw09_RibOrder_r3, f2]
  refine rmayR_spec hy ?_
  simp (disch := omega) [octroilaw09_RibOrder_r4, f3]
  refine rmayR_spec hz ?_
  cases c1 : mayR x with
  | false =>
    simp (disch := omega) [octroilaw09_RibOrder_r5, octroilaw09_RibOrder_r6]
    exact .to _ (.refl _) ⟨rfl, l.trans l1⟩
  | true =>
  cases c2 : mayR y with
  | false =>
    simp (disch := omega) [octroilaw09_RibOrder_r5, octroilaw09_RibOrder_r6]
    exact .to _ (.refl _) ⟨rfl, l.trans l1⟩
  | true =>
  cases c3 : mayR z with
  | false =>
    simp (disch := omega) [octroilaw09_RibOrder_r5, octroilaw09_RibOrder_r6]
    exact .to _ (.refl _) ⟨rfl, l.trans l1⟩
  | true =>
  simp (disch := omega) [octroilaw09_RibOrder_r5]
  simp (disch := omega) [octroilaw09_RibOrder_r7, f1, f2]
  simp (disch := omega) [octroilaw09_RibOrder_r8, f1, f3, Ne.symm n12, n12, n32, Ne.symm n32]
  have lg : Le h ((g1.upd b2 (rcl (y.at x))).upd b3 (rcl (z.at x))) := by
    intro i o e
    have := l1 _ _ (l _ _ e)
    rw [upd_ne, upd_ne]
    · exact this
    · rintro rfl; rw [hb2'] at e; cases e
    · rintro rfl; rw [hb3''] at e; cases e
  have k1 : ((g1.upd b2 (rcl (y.at x))).upd b3 (rcl (z.at x))) b1 = some (rcl x) := by rw [upd_ne (Ne.symm n31), upd_ne (Ne.symm n12)]; exact f1
  have k2 : ((g1.upd b2 (rcl (y.at x))).upd b3 (rcl (z.at x))) b2 = some (rcl (y.at x)) := by rw [upd_ne (Ne.symm n32), upd_same]
  have k3 : ((g1.upd b2 (rcl (y.at x))).upd b3 (rcl (z.at x))) b3 = some (rcl (z.at x)) := upd_same
  have hy' := Rt.at_good hx hy
  have hz' := Rt.at_good hx hz
  change octroilaw09_RibOrder_r9 _ ((g1.upd b2 (rcl (y.at x))).upd b3 (rcl (z.at x))) _
  have ya : (y.at x).a = x.a := rfl
  have yl : (y.at x).l = x.l := rfl
  generalize (g1.upd b2 (rcl (y.at x))).upd b3 (rcl (z.at x)) = g2 at *
  generalize y.at x = y' at *
  generalize z.at x = z' at *
  simp (disch := omega) [octroilaw09_RibOrder_r9, k1, k2]
  refine better_spec hx hy' ?_
  simp (disch := omega) [octroilaw09_RibOrder_r10, k2, k3]
  refine better_spec hy' hz' ?_
  by_cases he : x.d = y'.d ∧ x.ds = y'.ds ∧ x.m = y'.m ∧ x.nx = y'.nx ∧ x.tg = y'.tg
  · obtain ⟨i1, i2⟩ := lexR_irrefl he
    have j1 : ¬ cmpR x y' < 0 := fun q => i1 (cmpR_lt.1 q)
    have j2 : ¬ cmpR y' x < 0 := fun q => i2 (cmpR_lt.1 q)
    have e' : y' = x := by
      obtain ⟨h1, h2, h3, h4, h5⟩ := he
      cases x; cases y'; simp only at *; subst_vars; rfl
    subst e'
    simp (disch := omega) [octroilaw09_RibOrder_r11, k1, k2]
    simp (disch := omega) [octroilaw09_RibOrder_r12, k1, k2, j1]
    refine better_spec hx hx ?_
    simp (disch := omega) [j1]
    exact .to _ (.refl _) ⟨rfl, lg⟩
  · simp (disch := omega) [octroilaw09_RibOrder_r11, k1, k2, ya, yl]
    refine brv_of (fun e => (he (by simp at e; omega)).elim) (fun _ => ?_)
    have tot := lexR_total he
    rw [← cmpR_lt, ← cmpR_lt] at tot
    simp (disch := omega) [octroilaw09_RibOrder_r13, k1, k2]
    refine better_spec hy' hx ?_
    rcases tot with ⟨t1, t2⟩ | ⟨t1, t2⟩
    · by_cases t3 : cmpR y' z' < 0
      · have t4 : cmpR x z' < 0 := cmpR_lt.2 (lexR_trans (cmpR_lt.1 t1) (cmpR_lt.1 t3))
        simp (disch := omega) [k1, k3, t1, t2, t3]
        refine better_spec hx hz' ?_
        simp (disch := omega) [t4]
        exact .to _ (.refl _) ⟨rfl, lg⟩
      · simp (disch := omega) [k1, k3, t1, t2, t3]
        exact .to _ (.refl _) ⟨rfl, lg⟩
    · simp (disch := omega) [k1, k3, t1, t2]
      exact .to _ (.refl _) ⟨rfl, lg⟩
end Go.Proofs.Ytmbhlbohbpepaaa
