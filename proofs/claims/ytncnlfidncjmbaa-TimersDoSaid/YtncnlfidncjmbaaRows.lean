/-
  No cell of these rows narrows 'for every input' (looked for: loops, veiled, ifaces, maps, wideKeys, modest, calm, conditions, laid).
  DERIVED. THE GIVEN ROWS OF THIS SEAT. 5 by the template 'for every input the law returns true; each argument reads behind the call as it read before'; 0 by the template 'total and deterministic' (their statements: YtncnlfidncjmbaaTotals.lean).
  GIVEN WITH THE SEED: the statements are not yours to turn. If you find one false, say at which input.
  Laid BY PROGRAM, IN A SANDBOX (cutbox-rows.mjs): the forced cells as the released guide's own fill.sh prints them over the translation 46a8ffab57522c72… (all of the seat's roots in one cut). By AI agents, Wed Nov 11 2026. No macro, syntax, notation, axiom, sorry.
-/
import Derived.Test.YtncnlfidncjmbaaChecked
import GoSem.Claim
import GoSem.ClaimJoined
import GoSem.ClaimMapViews
import Derived.JoinedTies
import Derived.KernelRfl
namespace Go.Proofs.Ytncnlfidncjmbaa
/- THE CELL 'sum', in the pinned program and in every row, IS THE sha256 OF THE DUMP (.gsa) THAT YtncnlfidncjmbaaProg.lean LOADS. Nothing in Lean hashes anything: it is a label: what it is worth is what the hold of that sum in a sandbox is worth. -/
noncomputable def Try.pinned : Pinned := { name := "ytncnlfidncjmbaa", sum := "46a8ffab57522c7290b2a0b8690a463130d971bb24aca5c3c24c07627552348b", checked := Try.checked }
namespace Rows
def none {H : Type} : Left H := { results := [], args := [] }

/-- 'octroilaw10.TimersFull': WHATEVER THE INPUT: true; the input reads as it did. -/
def timersFullSpec : ChangeSpec := { name := "timersFull", fn := fun _ => fun
  | [d1, d2] => { results := [.lit (.bool true)], args := [d1, d2] }
  | _ => none }
def timersFullRow : OpenClaim := { program := "ytncnlfidncjmbaa", sum := "46a8ffab57522c7290b2a0b8690a463130d971bb24aca5c3c24c07627552348b", func := "octroi/octroilaw10.TimersFull", spec := "timersFull", unfollowed := true, recurses := true, apart := false }
def TimersFullSaid : Prop := timersFullRow.holds Try.pinned (OpenSpec.ofChange timersFullSpec)

/-- ITS FALSE NEIGHBOUR: 'it returns false'. Refute it at one input. -/
def timersFullWrong : ChangeSpec := { name := "timersFull", fn := fun _ => fun
  | [d1, d2] => { results := [.lit (.bool false)], args := [d1, d2] }
  | _ => none }
def TimersFullWrongFalsely : Prop := timersFullRow.holds Try.pinned (OpenSpec.ofChange timersFullWrong)

/-- 'octroilaw10.TimersOnce': WHATEVER THE INPUT: true; the input reads as it did. -/
def timersOnceSpec : ChangeSpec := { name := "timersOnce", fn := fun _ => fun
  | [d1, d2, d3, d4] => { results := [.lit (.bool true)], args := [d1, d2, d3, d4] }
  | _ => none }
def timersOnceRow : OpenClaim := { program := "ytncnlfidncjmbaa", sum := "46a8ffab57522c7290b2a0b8690a463130d971bb24aca5c3c24c07627552348b", func := "octroi/octroilaw10.TimersOnce", spec := "timersOnce", unfollowed := true, recurses := true, apart := false }
def TimersOnceSaid : Prop := timersOnceRow.holds Try.pinned (OpenSpec.ofChange timersOnceSpec)

/-- ITS FALSE NEIGHBOUR: 'it returns false'. Refute it at one input. -/
def timersOnceWrong : ChangeSpec := { name := "timersOnce", fn := fun _ => fun
  | [d1, d2, d3, d4] => { results := [.lit (.bool false)], args := [d1, d2, d3, d4] }
  | _ => none }
def TimersOnceWrongFalsely : Prop := timersOnceRow.holds Try.pinned (OpenSpec.ofChange timersOnceWrong)

/-- 'octroilaw10.TimersMoved': WHATEVER THE INPUT: true; the input reads as it did. -/
def timersMovedSpec : ChangeSpec := { name := "timersMoved", fn := fun _ => fun
  | [d1, d2, d3, d4, d5] => { results := [.lit (.bool true)], args := [d1, d2, d3, d4, d5] }
  | _ => none }
def timersMovedRow : OpenClaim := { program := "ytncnlfidncjmbaa", sum := "46a8ffab57522c7290b2a0b8690a463130d971bb24aca5c3c24c07627552348b", func := "octroi/octroilaw10.TimersMoved", spec := "timersMoved", unfollowed := true, recurses := true, apart := false }
def TimersMovedSaid : Prop := timersMovedRow.holds Try.pinned (OpenSpec.ofChange timersMovedSpec)

/-- ITS FALSE NEIGHBOUR: 'it returns false'. Refute it at one input. -/
def timersMovedWrong : ChangeSpec := { name := "timersMoved", fn := fun _ => fun
  | [d1, d2, d3, d4, d5] => { results := [.lit (.bool false)], args := [d1, d2, d3, d4, d5] }
  | _ => none }
def TimersMovedWrongFalsely : Prop := timersMovedRow.holds Try.pinned (OpenSpec.ofChange timersMovedWrong)

/-- 'octroilaw10.TimersOrder': WHATEVER THE INPUT: true; the input reads as it did. -/
def timersOrderSpec : ChangeSpec := { name := "timersOrder", fn := fun _ => fun
  | [d1, d2] => { results := [.lit (.bool true)], args := [d1, d2] }
  | _ => none }
def timersOrderRow : OpenClaim := { program := "ytncnlfidncjmbaa", sum := "46a8ffab57522c7290b2a0b8690a463130d971bb24aca5c3c24c07627552348b", func := "octroi/octroilaw10.TimersOrder", spec := "timersOrder", unfollowed := true, recurses := true, apart := false }
def TimersOrderSaid : Prop := timersOrderRow.holds Try.pinned (OpenSpec.ofChange timersOrderSpec)

/-- ITS FALSE NEIGHBOUR: 'it returns false'. Refute it at one input. -/
def timersOrderWrong : ChangeSpec := { name := "timersOrder", fn := fun _ => fun
  | [d1, d2] => { results := [.lit (.bool false)], args := [d1, d2] }
  | _ => none }
def TimersOrderWrongFalsely : Prop := timersOrderRow.holds Try.pinned (OpenSpec.ofChange timersOrderWrong)

/-- 'octroilaw10.TimersDo': WHATEVER THE INPUT: true; the input reads as it did. -/
def timersDoSpec : ChangeSpec := { name := "timersDo", fn := fun _ => fun
  | [d] => { results := [.lit (.bool true)], args := [d] }
  | _ => none }
def timersDoRow : OpenClaim := { program := "ytncnlfidncjmbaa", sum := "46a8ffab57522c7290b2a0b8690a463130d971bb24aca5c3c24c07627552348b", func := "octroi/octroilaw10.TimersDo", spec := "timersDo", unfollowed := true, recurses := true, apart := false }
def TimersDoSaid : Prop := timersDoRow.holds Try.pinned (OpenSpec.ofChange timersDoSpec)

/-- ITS FALSE NEIGHBOUR: 'it returns false'. Refute it at one input. -/
def timersDoWrong : ChangeSpec := { name := "timersDo", fn := fun _ => fun
  | [d] => { results := [.lit (.bool false)], args := [d] }
  | _ => none }
def TimersDoWrongFalsely : Prop := timersDoRow.holds Try.pinned (OpenSpec.ofChange timersDoWrong)

/- THE SECOND FORM. 'bulk': how many values and letters a reading holds, each counted each time it is reached (what is shared counts as often as it is met; a slice's spare places count too). A statement '..UptoSaid' is the law's where the arguments, and the package variables that the reading takes, are together of bulk at most 1048576: NARROWER than '..Said'. Prove '..Said' where nothing that the law and all that it calls make is longer than what came in: it says more and counts as full. Else prove '..UptoSaid'. A law counts once. -/
mutual
def uptoBulk {H : Type} : DataW H → Nat
  | .lit (.string bytes) => bytes.length + 1
  | .lit _ => 1
  | .nil => 1
  | .ptr d => uptoBulk d + 1
  | .slice elems spare => uptoBulkAll elems + uptoBulkAll spare + 1
  | .agg parts => uptoBulkAll parts + 1
  | .iface _ d => uptoBulk d + 1
  | .map entries => uptoBulkEntries entries + 1
  | .held _ => 1
def uptoBulkAll {H : Type} : List (DataW H) → Nat
  | [] => 0
  | d :: r => uptoBulk d + uptoBulkAll r
def uptoBulkEntries {H : Type} : List (Lit × DataW H) → Nat
  | [] => 0
  | x :: r => uptoBulkEntry x + uptoBulkEntries r
def uptoBulkEntry {H : Type} : Lit × DataW H → Nat
  | (.string bytes, d) => bytes.length + uptoBulk d + 1
  | (_, d) => uptoBulk d + 1
 end
def uptoSmall : (H : Type) → List (DataW H) → Bool := fun _ ds => decide (uptoBulkAll ds ≤ 1048576)
def OpenSpec.upto (s : _root_.Go.ChangeSpec) : _root_.Go.OpenSpec := { _root_.Go.OpenSpec.ofChange s with cond := some uptoSmall }

/-- 'octroilaw10.TimersFull', WHERE WHAT IT READS IS OF BULK AT MOST 1048576: true; the input reads as it did. -/
def timersFullUptoRow : OpenClaim := { program := "ytncnlfidncjmbaa", sum := "46a8ffab57522c7290b2a0b8690a463130d971bb24aca5c3c24c07627552348b", func := "octroi/octroilaw10.TimersFull", spec := "timersFull", unfollowed := true, recurses := true, apart := false, narrowed := true }
def TimersFullUptoSaid : Prop := timersFullUptoRow.holds Try.pinned (OpenSpec.upto timersFullSpec)

/-- 'octroilaw10.TimersOnce', WHERE WHAT IT READS IS OF BULK AT MOST 1048576: true; the input reads as it did. -/
def timersOnceUptoRow : OpenClaim := { program := "ytncnlfidncjmbaa", sum := "46a8ffab57522c7290b2a0b8690a463130d971bb24aca5c3c24c07627552348b", func := "octroi/octroilaw10.TimersOnce", spec := "timersOnce", unfollowed := true, recurses := true, apart := false, narrowed := true }
def TimersOnceUptoSaid : Prop := timersOnceUptoRow.holds Try.pinned (OpenSpec.upto timersOnceSpec)

/-- 'octroilaw10.TimersMoved', WHERE WHAT IT READS IS OF BULK AT MOST 1048576: true; the input reads as it did. -/
def timersMovedUptoRow : OpenClaim := { program := "ytncnlfidncjmbaa", sum := "46a8ffab57522c7290b2a0b8690a463130d971bb24aca5c3c24c07627552348b", func := "octroi/octroilaw10.TimersMoved", spec := "timersMoved", unfollowed := true, recurses := true, apart := false, narrowed := true }
def TimersMovedUptoSaid : Prop := timersMovedUptoRow.holds Try.pinned (OpenSpec.upto timersMovedSpec)

/-- 'octroilaw10.TimersOrder', WHERE WHAT IT READS IS OF BULK AT MOST 1048576: true; the input reads as it did. -/
def timersOrderUptoRow : OpenClaim := { program := "ytncnlfidncjmbaa", sum := "46a8ffab57522c7290b2a0b8690a463130d971bb24aca5c3c24c07627552348b", func := "octroi/octroilaw10.TimersOrder", spec := "timersOrder", unfollowed := true, recurses := true, apart := false, narrowed := true }
def TimersOrderUptoSaid : Prop := timersOrderUptoRow.holds Try.pinned (OpenSpec.upto timersOrderSpec)

/-- 'octroilaw10.TimersDo', WHERE WHAT IT READS IS OF BULK AT MOST 1048576: true; the input reads as it did. -/
def timersDoUptoRow : OpenClaim := { program := "ytncnlfidncjmbaa", sum := "46a8ffab57522c7290b2a0b8690a463130d971bb24aca5c3c24c07627552348b", func := "octroi/octroilaw10.TimersDo", spec := "timersDo", unfollowed := true, recurses := true, apart := false, narrowed := true }
def TimersDoUptoSaid : Prop := timersDoUptoRow.holds Try.pinned (OpenSpec.upto timersDoSpec)

end Rows
end Go.Proofs.Ytncnlfidncjmbaa
