/- The chapter's example is as the document says. -/
import Derived.Test.YtjcecdjbllpmcaaJ10
namespace Go.Proofs.Ytjcecdjbllpmcaa
open Go
set_option linter.unusedSimpArgs false

theorem aw1 : putJ 10 [] (1, 5, 7) = (0, [(1, 5, 7)]) := by decide +kernel
theorem aw2 : putJ 10 [(1, 5, 7)] (1, 5, 9) = (0, [(1, 5, 7), (1, 5, 9)]) := by decide +kernel
theorem aw3 : crN 1 [(1, 5, 7), (1, 5, 9)] 11 = 1 := by decide +kernel
theorem aw4 : getM (lastOf [(1, 5, 7)]) (1, 5) = some 7 := by decide +kernel

theorem fe_def (a : Int) (b c : Nat) : fe (a, b, c) = .agg #[.int .i64 a, .int .u32 (b : Nat), .int .u32 (c : Nat)] := rfl

set_option maxRecDepth 20000 in
theorem awake_spec {h : Hp} {Q : Value → Hp → Prop} (hQ : ∀ h', Le h h' → Q (.bool true) h') : Ok Try.prog F_octroilaw12_awake #[] h Q := by
  refine octroilaw12_awake_ok (by simp) ?_
  unfold octroilaw12_awake_D
  simp (disch := omega) [octroilaw12_awake_r0, octroilaw12_awake_r1]
  refine jnewM (fun j h1 O1 l1 n1 M1 => ?_)
  simp (disch := omega) [octroilaw12_awake_r2, octroilaw12_awake_r4]
  refine jputM (f := (1, 5, 7)) M1 (by simp) (by simp) (by simp) (fun h2 O2 F2 M2 => ?_)
  have l2 := F2.le l1 n1
  have n2 := F2.new l1 n1
  rw [aw1] at M2 ⊢
  simp (disch := omega) [octroilaw12_awake_r5]
  refine jsyncM M2 (by simp) (fun h3 F3 M3 => ?_)
  have l3 := F3.le l2 n2
  have n3 := F3.new l2 n2
  simp (disch := omega) [octroilaw12_awake_r6]
  refine jputM (f := (1, 5, 9)) M3 (by simp) (by simp) (by simp) (fun h4 O4 F4 M4 => ?_)
  have l4 := F4.le l3 n3
  have n4 := F4.new l3 n3
  rw [aw2] at M4 ⊢
  simp (disch := omega) [octroilaw12_awake_r7]
  refine jcrashM (kp := 1) M4 (by simp) (fun h5 O5 F5 M5 => ?_)
  have l5 := F5.le l4 n4
  simp only [] at M5
  rw [aw3] at M5
  simp (disch := omega) [octroilaw12_awake_r8]
  refine jgetM (k := 1) (key := 5) M5 ?_
  rw [show List.take 1 [((1 : Int), 5, 7), (1, 5, 9)] = [(1, 5, 7)] from rfl, aw4]
  simp (disch := omega) [octroilaw12_awake_r9]
  refine jlenM M5 (by simp) ?_
  simp (disch := omega)
  exact .to _ (.refl _) (hQ _ l5)
end Go.Proofs.Ytjcecdjbllpmcaa
