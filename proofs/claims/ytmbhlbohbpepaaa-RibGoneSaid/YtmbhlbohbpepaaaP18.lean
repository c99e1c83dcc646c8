/- RibGone: the walk. -/
import Derived.Test.YtmbhlbohbpepaaaP17
import Derived.Test.YtmbhlbohbpepaaaM16
namespace Go.Proofs.Ytmbhlbohbpepaaa
open Go
set_option linter.unusedSimpArgs false
set_option linter.unusedVariables false

theorem putS_first {x : Rt} (h : mayR x = true) : putS 5 0 [] x = (0, 0, setM x.key x []) := by
  unfold putS; rw [if_neg (by rw [h]; simp), if_neg (by simp)]
theorem putS_second {x y : Rt} (h : mayR y = true) : putS 5 0 (setM x.key x []) y = (0, 0, setM y.key y (setM x.key x [])) := by
  unfold putS; rw [if_neg (by rw [h]; simp), if_neg (by simp [setM])]
theorem putS_not {most rf : Int} {m : List (RK × Rt)} {x : Rt} (h : mayR x = false) : putS most rf m x = (1, rf, m) := by
  unfold putS; rw [if_pos h]

set_option maxRecDepth 20000 in
set_option maxHeartbeats 4000000 in
theorem RibGone_walk {h : Hp} {x y : Rt} (hx : x.Good) (hy : y.Good) : Ok Try.prog F_octroilaw09_RibGone #[rv x, rv y] h (fun r g => r = .bool true ∧ Le h g) := by
  refine octroilaw09_RibGone_ok (by simp) ?_
  unfold octroilaw09_RibGone_D
  simp (disch := omega) [octroilaw09_RibGone_r0]
  intro b2 hb2 b3 hb3
  obtain ⟨n32, hb3'⟩ := upd_none hb3
  have l : Le h ((h.upd b2 (rcl x)).upd b3 (rcl y)) := (Le.new hb2).trans (Le.new hb3)
  obtain ⟨f2, f3⟩ := rcl_two (h := h) (x := x) (y := y) n32
  simp (disch := omega) [octroilaw09_RibGone_r1]
  generalize (h.upd b2 (rcl x)).upd b3 (rcl y) = g at *
  refine awake_spec (fun g1 l1 => ?_)
  replace f2 := l1 _ _ f2
  replace f3 := l1 _ _ f3
  simp (disch := omega) [octroilaw09_RibGone_r2]
  refine rnewM (fun r g2 O l2 n2 M2 => ?_)
  have A2 : ROwn g1 g2 r 5 0 [] [] 0 O := ⟨M2, l2, n2⟩
  have L1 := l.trans l1
  clear l l1 l2 n2 M2
  have f22 := A2.le _ _ f2
  have f32 := A2.le _ _ f3
  simp (disch := omega) [octroilaw09_RibGone_r3, f22, f32]
  have A3 : ROwn (g1.upd b3 (rcl (y.at x))) (g2.upd b3 (rcl (y.at x))) r 5 0 [] [] 0 O := A2.box f3
  have L3 : Le h (g1.upd b3 (rcl (y.at x))) := Le.put L1 hb3'
  have k2 : (g1.upd b3 (rcl (y.at x))) b2 = some (rcl x) := by rw [upd_ne (Ne.symm n32)]; exact f2
  have k3 : (g1.upd b3 (rcl (y.at x))) b3 = some (rcl (y.at x)) := upd_same
  have hy' := Rt.at_good hx hy
  have ya : (y.at x).a = x.a := rfl
  have yl : (y.at x).l = x.l := rfl
  change octroilaw09_RibGone_r4 _ (g2.upd b3 (rcl (y.at x))) _
  generalize g1.upd b3 (rcl (y.at x)) = B at *
  generalize g2.upd b3 (rcl (y.at x)) = g3 at *
  generalize y.at x = y' at *
  clear f2 f3 f22 f32 A2 L1
  have f2 := A3.le _ _ k2
  have f3 := A3.le _ _ k3
  by_cases hd : x.d = y'.d
  · simp (disch := omega) [octroilaw09_RibGone_r4, octroilaw09_RibGone_r5, f2, f3, hd]
    exact .to _ (.refl _) ⟨rfl, L3.trans A3.le⟩
  have hxy : x.key ≠ y'.key := fun e => hd (by simpa [Rt.key] using (Prod.ext_iff.1 e).2)
  simp (disch := omega) [octroilaw09_RibGone_r4, f2, f3, hd]
  simp (disch := omega) [octroilaw09_RibGone_r6, f2]
  refine rputM A3.m hx (by omega) (fun g4 O4 T4 F4 M4 => ?_)
  have A4 := A3.fr F4 M4
  have f24 := A4.le _ _ k2
  have f34 := A4.le _ _ k3
  simp (disch := omega) [octroilaw09_RibGone_r7, f34]
  refine rputM A4.m hy' (by omega) (fun g5 O5 T5 F5 M5 => ?_)
  have A5 := A4.fr F5 M5
  have f25 := A5.le _ _ k2
  have f35 := A5.le _ _ k3
  by_cases hmx : mayR x = false
  · simp (disch := omega) [octroilaw09_RibGone_r8, octroilaw09_RibGone_r9, putS_not hmx]
    exact .to _ (.refl _) ⟨rfl, L3.trans A5.le⟩
  replace hmx : mayR x = true := by simpa using hmx
  rw [putS_first hmx] at *
  simp only [] at *
  by_cases hmy : mayR y' = false
  · simp (disch := omega) [octroilaw09_RibGone_r8, octroilaw09_RibGone_r9, putS_not hmy]
    exact .to _ (.refl _) ⟨rfl, L3.trans A5.le⟩
  replace hmy : mayR y' = true := by simpa using hmy
  rw [putS_second hmy] at *
  simp only [] at *
  simp (disch := omega) [octroilaw09_RibGone_r8]
  simp (disch := omega) [octroilaw09_RibGone_r10, f25]
  obtain ⟨b, c, hbc, hb, hcb, ⟨ba, bl, ca, cl⟩, hbn, next⟩ := gone_law hxy ya yl A5.m.inv
  have gb : b.Good := by rcases hbc with ⟨rfl, _⟩ | ⟨rfl, _⟩; exact hx; exact hy'
  have gc : c.Good := by rcases hbc with ⟨_, rfl⟩ | ⟨_, rfl⟩; exact hy'; exact hx
  generalize setM y'.key y' (setM x.key x []) = m5 at *
  refine rbestM A5.m (fun g6 l6 => ?_)
  have A6 := A5.le2 l6
  have f26 := A6.le _ _ k2
  have f36 := A6.le _ _ k3
  rw [hb]
  simp only [Option.getD_some, Option.isSome_some]
  simp (disch := omega)
  intro b9 hb9
  have o9 : b9 ∉ O5 := fun q => by obtain ⟨o, e⟩ := A6.m.alive _ q; rw [hb9] at e; cases e
  have B9 : B b9 = none := none_of_le A6.le hb9
  have A7 := A6.le2 (Le.new (o := rcl b) hb9)
  have f27 := A7.le _ _ k2
  have f37 := A7.le _ _ k3
  have f97 : (g6.upd b9 (rcl b)) b9 = some (rcl b) := upd_same
  simp (disch := omega)
  generalize g6.upd b9 (rcl b) = g7 at *
  simp (disch := omega) [octroilaw09_RibGone_r11, f97]
  refine rtake0 A7.m gb.a (by omega) hbn (fun g8 O8 T8 F8 M8 => ?_)
  have A8 := A7.fr F8 M8
  have f28 := A8.le _ _ k2
  have f38 := A8.le _ _ k3
  have f98 := F8.keep _ _ f97 o9
  obtain ⟨hc, hcn, next2⟩ := next T8 M8.inv
  have o98 : b9 ∉ O8 := fun q => by
    rcases F8.own _ q with q | q
    · exact o9 q
    · rw [f97] at q; cases q
  simp (disch := omega) [octroilaw09_RibGone_r12, f28]
  refine rbestM A8.m (fun g9 l9 => ?_)
  have A9 := A8.le2 l9
  have f99 := l9 _ _ f98
  change _ at hc
  rw [show bestR (delM ((b.a, b.l), b.d) m5) x.a x.l = some c from hc]
  simp only [Option.getD_some, Option.isSome_some]
  simp (disch := omega)
  intro b12 hb12
  have o12 : b12 ∉ O8 := fun q => by obtain ⟨o, e⟩ := A9.m.alive _ q; rw [hb12] at e; cases e
  have A10 := A9.le2 (Le.new (o := rcl c) hb12)
  have f910 := Le.new (o := rcl c) hb12 _ _ f99
  have f1210 : (g9.upd b12 (rcl c)) b12 = some (rcl c) := upd_same
  simp (disch := omega)
  generalize g9.upd b12 (rcl c) = g10 at *
  simp (disch := omega) [octroilaw09_RibGone_r13, f1210]
  refine rtake0 A10.m gc.a (by omega) hcn (fun g11 O11 T11 F11 M11 => ?_)
  have A11 := A10.fr F11 M11
  obtain ⟨hnone, hz⟩ := next2 T11 M11.inv
  have f911 := F11.keep _ _ f910 o98
  have f1211 := F11.keep _ _ f1210 o12
  have f211 := A11.le _ _ k2
  simp (disch := omega) [octroilaw09_RibGone_r14, f211]
  refine rbestM A11.m (fun g12 l12 => ?_)
  have A12 := A11.le2 l12
  have f912 := l12 _ _ f911
  have f1212 := l12 _ _ f1211
  rw [show bestR (delM ((c.a, c.l), c.d) (delM ((b.a, b.l), b.d) m5)) x.a x.l = none from hnone]
  simp only [Option.getD_none, Option.isSome_none]
  simp (disch := omega)
  intro b15 hb15
  have L13 := Le.new (o := rcl rz) hb15
  have A13 := A12.le2 L13
  have f213 := A13.le _ _ k2
  have f313 := A13.le _ _ k3
  have f913 := L13 _ _ f912
  have f1213 := L13 _ _ f1212
  clear hb15 L13
  simp (disch := omega)
  generalize g12.upd b15 (rcl rz) = g13 at *
  have hd' : ¬ y'.d = x.d := fun e => hd e.symm
  have fin : ∀ (g14 : Hp), ROwn B g14 r 5 0 (delM ((c.a, c.l), c.d) (delM ((b.a, b.l), b.d) m5)) T11 (0 + 1 + 1 + 1 + 1) O11 → ∀ (K : Value → Hp → Prop), (∀ v h', Le g14 h' → (∃ p cap, v = .slice p 0 cap) → K v h') → Ok Try.prog F_rib_Rib_All #[.pointer (some ⟨r, 0, none⟩)] g14 K := fun g14 A14 K hK =>
    rallM A14.m (fun v h' l' S nv => hK v h' l' (by
      obtain ⟨p, cap, hv⟩ := S.shape'
      rw [allR_length_eq A14.m.inv] at hv
      rw [show (delM ((c.a, c.l), c.d) (delM ((b.a, b.l), b.d) m5)).length = 0 from hz] at hv
      exact ⟨p, cap, hv⟩))
  have key : ∀ env : Env, env 2 = .pointer (some ⟨b2, 0, none⟩) → env 3 = .pointer (some ⟨b3, 0, none⟩) → env 6 = .pointer (some ⟨r, 0, none⟩) → env 9 = .pointer (some ⟨b9, 0, none⟩) → env 10 = .bool true → env 11 = .int .i64 0 → env 12 = .pointer (some ⟨b12, 0, none⟩) →
      env 13 = .bool true → env 14 = .int .i64 0 → env 16 = .bool false → octroilaw09_RibGone_r15 env g13 (thenK (ex .ret) (Go.Proofs.Ytmbhlbohbpepaaa.fin Try.prog [ResultVar.tmp 4] (fun r g => r = .bool true ∧ Le h g)) .normal) := by
    intro env e2 e3 e6 e9 e10 e11 e12 e13 e14 e16
    rcases hbc with ⟨rfl, rfl⟩ | ⟨rfl, rfl⟩
    · simp (disch := omega) [octroilaw09_RibGone_r15, e2, e3, e6, e9, e10, e11, e12, e13, e14, e16, f213, f313, f913, f1213]
      refine better_spec gc gb ?_
      simp (disch := omega) [hcb, e6]
      refine fin _ A13 _ (fun v h' l' ⟨p, cap, hv⟩ => ?_)
      subst hv
      simp (disch := omega)
      exact .to _ (.refl _) ⟨rfl, (L3.trans A13.le).trans l'⟩
    · simp (disch := omega) [octroilaw09_RibGone_r15, e2, e3, e6, e9, e10, e11, e12, e13, e14, e16, f213, f313, f913, f1213, hd, hd']
      refine better_spec gc gb ?_
      simp (disch := omega) [hcb, e6]
      refine fin _ A13 _ (fun v h' l' ⟨p, cap, hv⟩ => ?_)
      subst hv
      simp (disch := omega)
      exact .to _ (.refl _) ⟨rfl, (L3.trans A13.le).trans l'⟩
  exact key _ (by simp) (by simp) (by simp) (by simp) (by simp) (by simp) (by simp) (by simp) (by simp) (by simp)
end Go.Proofs.Ytmbhlbohbpepaaa
