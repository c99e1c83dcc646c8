/- Whether a route may be: the code's word and the document's. -/
import Derived.Test.YtmbhlbohbpepaaaP2
import Derived.Test.YtmbhlbohbpepaaaE1
namespace Go.Proofs.Ytmbhlbohbpepaaa
open Go
set_option linter.unusedSimpArgs false
set_option linter.unusedVariables false

def mayR (x : Rt) : Bool := mayB x.a x.l && (decide (0 ≤ x.d) && (decide (x.d < 16) && (decide (0 ≤ x.ds) && (decide (x.ds ≤ 255) && (decide (0 ≤ x.m) && (decide (x.m ≤ 4294967295) && (decide (0 ≤ x.nx) && decide (x.nx ≤ 32))))))))

set_option maxRecDepth 20000 in
set_option maxHeartbeats 2000000 in
theorem mayR_spec {x : Rt} {h : Hp} {Q : Value → Hp → Prop} (hx : x.Good) (hQ : Q (.bool (mayR x)) h) : Ok Try.prog F_rib_may #[rv x] h Q := by
  refine rib_may_ok (by simp) ?_
  unfold rib_may_D
  simp (disch := omega) [rib_may_r0]
  intro b1 hb1
  simp (disch := omega) [rib_may_r1]
  refine may_spec hx.a ?_
  unfold mayR at hQ
  cases c : mayB x.a x.l with
  | false =>
    simp (disch := omega) [c]
    rw [c, Bool.false_and] at hQ
    exact .to _ (.new hb1) hQ
  | true =>
    rw [c, Bool.true_and] at hQ
    by_cases c0 : 0 ≤ x.d
    rotate_left
    · simp (disch := omega) [c, c0]
      rw [show (decide (0 ≤ x.d) && (decide (x.d < 16) && (decide (0 ≤ x.ds) && (decide (x.ds ≤ 255) && (decide (0 ≤ x.m) && (decide (x.m ≤ 4294967295) && (decide (0 ≤ x.nx) && decide (x.nx ≤ 32)))))))) = false by simp [c0]] at hQ
      exact .to _ (.new hb1) hQ
    by_cases c1 : x.d < 16
    rotate_left
    · simp (disch := omega) [c, c0, c1]
      rw [show (decide (0 ≤ x.d) && (decide (x.d < 16) && (decide (0 ≤ x.ds) && (decide (x.ds ≤ 255) && (decide (0 ≤ x.m) && (decide (x.m ≤ 4294967295) && (decide (0 ≤ x.nx) && decide (x.nx ≤ 32)))))))) = false by simp [c1]] at hQ
      exact .to _ (.new hb1) hQ
    by_cases c2 : 0 ≤ x.ds
    rotate_left
    · simp (disch := omega) [c, c0, c1, c2]
      rw [show (decide (0 ≤ x.d) && (decide (x.d < 16) && (decide (0 ≤ x.ds) && (decide (x.ds ≤ 255) && (decide (0 ≤ x.m) && (decide (x.m ≤ 4294967295) && (decide (0 ≤ x.nx) && decide (x.nx ≤ 32)))))))) = false by simp [c2]] at hQ
      exact .to _ (.new hb1) hQ
    by_cases c3 : x.ds ≤ 255
    rotate_left
    · simp (disch := omega) [c, c0, c1, c2, c3]
      rw [show (decide (0 ≤ x.d) && (decide (x.d < 16) && (decide (0 ≤ x.ds) && (decide (x.ds ≤ 255) && (decide (0 ≤ x.m) && (decide (x.m ≤ 4294967295) && (decide (0 ≤ x.nx) && decide (x.nx ≤ 32)))))))) = false by simp [c3]] at hQ
      exact .to _ (.new hb1) hQ
    by_cases c4 : 0 ≤ x.m
    rotate_left
    · simp (disch := omega) [c, c0, c1, c2, c3, c4]
      rw [show (decide (0 ≤ x.d) && (decide (x.d < 16) && (decide (0 ≤ x.ds) && (decide (x.ds ≤ 255) && (decide (0 ≤ x.m) && (decide (x.m ≤ 4294967295) && (decide (0 ≤ x.nx) && decide (x.nx ≤ 32)))))))) = false by simp [c4]] at hQ
      exact .to _ (.new hb1) hQ
    by_cases c5 : x.m ≤ 4294967295
    rotate_left
    · simp (disch := omega) [c, c0, c1, c2, c3, c4, c5]
      rw [show (decide (0 ≤ x.d) && (decide (x.d < 16) && (decide (0 ≤ x.ds) && (decide (x.ds ≤ 255) && (decide (0 ≤ x.m) && (decide (x.m ≤ 4294967295) && (decide (0 ≤ x.nx) && decide (x.nx ≤ 32)))))))) = false by simp [c5]] at hQ
      exact .to _ (.new hb1) hQ
    by_cases c6 : 0 ≤ x.nx
    rotate_left
    · simp (disch := omega) [c, c0, c1, c2, c3, c4, c5, c6]
      rw [show (decide (0 ≤ x.d) && (decide (x.d < 16) && (decide (0 ≤ x.ds) && (decide (x.ds ≤ 255) && (decide (0 ≤ x.m) && (decide (x.m ≤ 4294967295) && (decide (0 ≤ x.nx) && decide (x.nx ≤ 32)))))))) = false by simp [c6]] at hQ
      exact .to _ (.new hb1) hQ
    by_cases c7 : x.nx ≤ 32
    rotate_left
    · simp (disch := omega) [c, c0, c1, c2, c3, c4, c5, c6, c7]
      rw [show (decide (0 ≤ x.d) && (decide (x.d < 16) && (decide (0 ≤ x.ds) && (decide (x.ds ≤ 255) && (decide (0 ≤ x.m) && (decide (x.m ≤ 4294967295) && (decide (0 ≤ x.nx) && decide (x.nx ≤ 32)))))))) = false by simp [c7]] at hQ
      exact .to _ (.new hb1) hQ
    simp (disch := omega) [c, c0, c1, c2, c3, c4, c5, c6, c7]
    rw [show (decide (0 ≤ x.d) && (decide (x.d < 16) && (decide (0 ≤ x.ds) && (decide (x.ds ≤ 255) && (decide (0 ≤ x.m) && (decide (x.m ≤ 4294967295) && (decide (0 ≤ x.nx) && decide (x.nx ≤ 32)))))))) = true by simp [c0, c1, c2, c3, c4, c5, c6, c7]] at hQ
    exact .to _ (.new hb1) hQ

set_option maxRecDepth 20000 in
set_option maxHeartbeats 2000000 in
theorem rmayR_spec {x : Rt} {h : Hp} {Q : Value → Hp → Prop} (hx : x.Good) (hQ : Q (.bool (mayR x)) h) : Ok Try.prog F_octroiref09_May #[rv x] h Q := by
  refine octroiref09_May_ok (by simp) ?_
  unfold octroiref09_May_D
  simp (disch := omega) [octroiref09_May_r0]
  intro b1 hb1
  simp (disch := omega) [octroiref09_May_r1]
  refine rmay_spec hx.a ?_
  unfold mayR at hQ
  cases c : mayB x.a x.l with
  | false =>
    simp (disch := omega) [octroiref09_May_r2, c]
    rw [c, Bool.false_and] at hQ
    exact .to _ (.new hb1) hQ
  | true =>
    rw [c, Bool.true_and] at hQ
    by_cases c0 : 0 ≤ x.d
    rotate_left
    · simp (disch := omega) [octroiref09_May_r2, c, c0]
      rw [show (decide (0 ≤ x.d) && (decide (x.d < 16) && (decide (0 ≤ x.ds) && (decide (x.ds ≤ 255) && (decide (0 ≤ x.m) && (decide (x.m ≤ 4294967295) && (decide (0 ≤ x.nx) && decide (x.nx ≤ 32)))))))) = false by simp [c0]] at hQ
      exact .to _ (.new hb1) hQ
    by_cases c1 : x.d < 16
    rotate_left
    · simp (disch := omega) [octroiref09_May_r2, c, c0, c1]
      rw [show (decide (0 ≤ x.d) && (decide (x.d < 16) && (decide (0 ≤ x.ds) && (decide (x.ds ≤ 255) && (decide (0 ≤ x.m) && (decide (x.m ≤ 4294967295) && (decide (0 ≤ x.nx) && decide (x.nx ≤ 32)))))))) = false by simp [c1]] at hQ
      exact .to _ (.new hb1) hQ
    by_cases c2 : 0 ≤ x.ds
    rotate_left
    · simp (disch := omega) [octroiref09_May_r2, c, c0, c1, c2]
      rw [show (decide (0 ≤ x.d) && (decide (x.d < 16) && (decide (0 ≤ x.ds) && (decide (x.ds ≤ 255) && (decide (0 ≤ x.m) && (decide (x.m ≤ 4294967295) && (decide (0 ≤ x.nx) && decide (x.nx ≤ 32)))))))) = false by simp [c2]] at hQ
      exact .to _ (.new hb1) hQ
    by_cases c3 : x.ds ≤ 255
    rotate_left
    · simp (disch := omega) [octroiref09_May_r2, c, c0, c1, c2, c3]
      rw [show (decide (0 ≤ x.d) && (decide (x.d < 16) && (decide (0 ≤ x.ds) && (decide (x.ds ≤ 255) && (decide (0 ≤ x.m) && (decide (x.m ≤ 4294967295) && (decide (0 ≤ x.nx) && decide (x.nx ≤ 32)))))))) = false by simp [c3]] at hQ
      exact .to _ (.new hb1) hQ
    by_cases c4 : 0 ≤ x.m
    rotate_left
    · simp (disch := omega) [octroiref09_May_r2, c, c0, c1, c2, c3, c4]
      rw [show (decide (0 ≤ x.d) && (decide (x.d < 16) && (decide (0 ≤ x.ds) && (decide (x.ds ≤ 255) && (decide (0 ≤ x.m) && (decide (x.m ≤ 4294967295) && (decide (0 ≤ x.nx) && decide (x.nx ≤ 32)))))))) = false by simp [c4]] at hQ
      exact .to _ (.new hb1) hQ
    by_cases c5 : x.m ≤ 4294967295
    rotate_left
    · simp (disch := omega) [octroiref09_May_r2, c, c0, c1, c2, c3, c4, c5]
      rw [show (decide (0 ≤ x.d) && (decide (x.d < 16) && (decide (0 ≤ x.ds) && (decide (x.ds ≤ 255) && (decide (0 ≤ x.m) && (decide (x.m ≤ 4294967295) && (decide (0 ≤ x.nx) && decide (x.nx ≤ 32)))))))) = false by simp [c5]] at hQ
      exact .to _ (.new hb1) hQ
    by_cases c6 : 0 ≤ x.nx
    rotate_left
    · simp (disch := omega) [octroiref09_May_r2, c, c0, c1, c2, c3, c4, c5, c6]
      rw [show (decide (0 ≤ x.d) && (decide (x.d < 16) && (decide (0 ≤ x.ds) && (decide (x.ds ≤ 255) && (decide (0 ≤ x.m) && (decide (x.m ≤ 4294967295) && (decide (0 ≤ x.nx) && decide (x.nx ≤ 32)))))))) = false by simp [c6]] at hQ
      exact .to _ (.new hb1) hQ
    by_cases c7 : x.nx ≤ 32
    rotate_left
    · simp (disch := omega) [octroiref09_May_r2, c, c0, c1, c2, c3, c4, c5, c6, c7]
      rw [show (decide (0 ≤ x.d) && (decide (x.d < 16) && (decide (0 ≤ x.ds) && (decide (x.ds ≤ 255) && (decide (0 ≤ x.m) && (decide (x.m ≤ 4294967295) && (decide (0 ≤ x.nx) && decide (x.nx ≤ 32)))))))) = false by simp [c7]] at hQ
      exact .to _ (.new hb1) hQ
    simp (disch := omega) [octroiref09_May_r2, c, c0, c1, c2, c3, c4, c5, c6, c7]
    rw [show (decide (0 ≤ x.d) && (decide (x.d < 16) && (decide (0 ≤ x.ds) && (decide (x.ds ≤ 255) && (decide (0 ≤ x.m) && (decide (x.m ≤ 4294967295) && (decide (0 ≤ x.nx) && decide (x.nx ≤ 32)))))))) = true by simp [c0, c1, c2, c3, c4, c5, c6, c7]] at hQ
    exact .to _ (.new hb1) hQ
end Go.Proofs.Ytmbhlbohbpepaaa
