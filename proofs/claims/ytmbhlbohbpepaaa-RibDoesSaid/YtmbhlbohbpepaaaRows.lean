/-
  No cell of these rows narrows 'for every input' (looked for: loops, veiled, ifaces, maps, wideKeys, modest, calm, conditions, laid).
  DERIVED. THE GIVEN ROWS OF THIS SEAT. 8 by the template 'for every input the law returns true; each argument reads behind the call as it read before'; 0 by the template 'total and deterministic' (their statements: YtmbhlbohbpepaaaTotals.lean).
  GIVEN WITH THE SEED: the statements are not yours to turn. If you find one false, say at which input.
  Laid BY PROGRAM, IN A SANDBOX (cutbox-rows.mjs): the forced cells as the released guide's own fill.sh prints them over the translation d65a80d0997098ba… (all of the seat's roots in one cut). By AI agents, Wed Nov 11 2026. No macro, syntax, notation, axiom, sorry.
-/
import Derived.Test.YtmbhlbohbpepaaaChecked
import GoSem.Claim
import GoSem.ClaimJoined
import GoSem.ClaimMapViews
import Derived.JoinedTies
import Derived.KernelRfl
namespace Go.Proofs.Ytmbhlbohbpepaaa
/- THE CELL 'sum', in the pinned program and in every row, IS THE sha256 OF THE DUMP (.gsa) THAT YtmbhlbohbpepaaaProg.lean LOADS. Nothing in Lean hashes anything: it is a label: what it is worth is what the hold of that sum in a sandbox is worth. -/
noncomputable def Try.pinned : Pinned := { name := "ytmbhlbohbpepaaa", sum := "d65a80d0997098bae956892fcb15c9910922a9e6f4f25ebbb50a668a69a197c0", checked := Try.checked }
namespace Rows
def none {H : Type} : Left H := { results := [], args := [] }

/-- 'octroilaw09.RibBetter': WHATEVER THE INPUT: true; the input reads as it did. -/
def ribBetterSpec : ChangeSpec := { name := "ribBetter", fn := fun _ => fun
  | [d1, d2] => { results := [.lit (.bool true)], args := [d1, d2] }
  | _ => none }
def ribBetterRow : OpenClaim := { program := "ytmbhlbohbpepaaa", sum := "d65a80d0997098bae956892fcb15c9910922a9e6f4f25ebbb50a668a69a197c0", func := "octroi/octroilaw09.RibBetter", spec := "ribBetter", unfollowed := true, recurses := true, plainKeys := false, apart := false }
def RibBetterSaid : Prop := ribBetterRow.holds Try.pinned (OpenSpec.ofChange ribBetterSpec)

/-- ITS FALSE NEIGHBOUR: 'it returns false'. Refute it at one input. -/
def ribBetterWrong : ChangeSpec := { name := "ribBetter", fn := fun _ => fun
  | [d1, d2] => { results := [.lit (.bool false)], args := [d1, d2] }
  | _ => none }
def RibBetterWrongFalsely : Prop := ribBetterRow.holds Try.pinned (OpenSpec.ofChange ribBetterWrong)

/-- 'octroilaw09.RibOrder': WHATEVER THE INPUT: true; the input reads as it did. -/
def ribOrderSpec : ChangeSpec := { name := "ribOrder", fn := fun _ => fun
  | [d1, d2, d3] => { results := [.lit (.bool true)], args := [d1, d2, d3] }
  | _ => none }
def ribOrderRow : OpenClaim := { program := "ytmbhlbohbpepaaa", sum := "d65a80d0997098bae956892fcb15c9910922a9e6f4f25ebbb50a668a69a197c0", func := "octroi/octroilaw09.RibOrder", spec := "ribOrder", unfollowed := true, recurses := true, plainKeys := false, apart := false }
def RibOrderSaid : Prop := ribOrderRow.holds Try.pinned (OpenSpec.ofChange ribOrderSpec)

/-- ITS FALSE NEIGHBOUR: 'it returns false'. Refute it at one input. -/
def ribOrderWrong : ChangeSpec := { name := "ribOrder", fn := fun _ => fun
  | [d1, d2, d3] => { results := [.lit (.bool false)], args := [d1, d2, d3] }
  | _ => none }
def RibOrderWrongFalsely : Prop := ribOrderRow.holds Try.pinned (OpenSpec.ofChange ribOrderWrong)

/-- 'octroilaw09.RibDepths': WHATEVER THE INPUT: true; the input reads as it did. -/
def ribDepthsSpec : ChangeSpec := { name := "ribDepths", fn := fun _ => fun
  | [d1, d2] => { results := [.lit (.bool true)], args := [d1, d2] }
  | _ => none }
def ribDepthsRow : OpenClaim := { program := "ytmbhlbohbpepaaa", sum := "d65a80d0997098bae956892fcb15c9910922a9e6f4f25ebbb50a668a69a197c0", func := "octroi/octroilaw09.RibDepths", spec := "ribDepths", unfollowed := true, recurses := true, plainKeys := false, apart := false }
def RibDepthsSaid : Prop := ribDepthsRow.holds Try.pinned (OpenSpec.ofChange ribDepthsSpec)

/-- ITS FALSE NEIGHBOUR: 'it returns false'. Refute it at one input. -/
def ribDepthsWrong : ChangeSpec := { name := "ribDepths", fn := fun _ => fun
  | [d1, d2] => { results := [.lit (.bool false)], args := [d1, d2] }
  | _ => none }
def RibDepthsWrongFalsely : Prop := ribDepthsRow.holds Try.pinned (OpenSpec.ofChange ribDepthsWrong)

/-- 'octroilaw09.RibFull': WHATEVER THE INPUT: true; the input reads as it did. -/
def ribFullSpec : ChangeSpec := { name := "ribFull", fn := fun _ => fun
  | [d1, d2, d3] => { results := [.lit (.bool true)], args := [d1, d2, d3] }
  | _ => none }
def ribFullRow : OpenClaim := { program := "ytmbhlbohbpepaaa", sum := "d65a80d0997098bae956892fcb15c9910922a9e6f4f25ebbb50a668a69a197c0", func := "octroi/octroilaw09.RibFull", spec := "ribFull", unfollowed := true, recurses := true, plainKeys := false, apart := false }
def RibFullSaid : Prop := ribFullRow.holds Try.pinned (OpenSpec.ofChange ribFullSpec)

/-- ITS FALSE NEIGHBOUR: 'it returns false'. Refute it at one input. -/
def ribFullWrong : ChangeSpec := { name := "ribFull", fn := fun _ => fun
  | [d1, d2, d3] => { results := [.lit (.bool false)], args := [d1, d2, d3] }
  | _ => none }
def RibFullWrongFalsely : Prop := ribFullRow.holds Try.pinned (OpenSpec.ofChange ribFullWrong)

/-- 'octroilaw09.RibSwaps': WHATEVER THE INPUT: true; the input reads as it did. -/
def ribSwapsSpec : ChangeSpec := { name := "ribSwaps", fn := fun _ => fun
  | [d1, d2, d3] => { results := [.lit (.bool true)], args := [d1, d2, d3] }
  | _ => none }
def ribSwapsRow : OpenClaim := { program := "ytmbhlbohbpepaaa", sum := "d65a80d0997098bae956892fcb15c9910922a9e6f4f25ebbb50a668a69a197c0", func := "octroi/octroilaw09.RibSwaps", spec := "ribSwaps", unfollowed := true, recurses := true, plainKeys := false, apart := false }
def RibSwapsSaid : Prop := ribSwapsRow.holds Try.pinned (OpenSpec.ofChange ribSwapsSpec)

/-- ITS FALSE NEIGHBOUR: 'it returns false'. Refute it at one input. -/
def ribSwapsWrong : ChangeSpec := { name := "ribSwaps", fn := fun _ => fun
  | [d1, d2, d3] => { results := [.lit (.bool false)], args := [d1, d2, d3] }
  | _ => none }
def RibSwapsWrongFalsely : Prop := ribSwapsRow.holds Try.pinned (OpenSpec.ofChange ribSwapsWrong)

/-- 'octroilaw09.RibGone': WHATEVER THE INPUT: true; the input reads as it did. -/
def ribGoneSpec : ChangeSpec := { name := "ribGone", fn := fun _ => fun
  | [d1, d2] => { results := [.lit (.bool true)], args := [d1, d2] }
  | _ => none }
def ribGoneRow : OpenClaim := { program := "ytmbhlbohbpepaaa", sum := "d65a80d0997098bae956892fcb15c9910922a9e6f4f25ebbb50a668a69a197c0", func := "octroi/octroilaw09.RibGone", spec := "ribGone", unfollowed := true, recurses := true, plainKeys := false, apart := false }
def RibGoneSaid : Prop := ribGoneRow.holds Try.pinned (OpenSpec.ofChange ribGoneSpec)

/-- ITS FALSE NEIGHBOUR: 'it returns false'. Refute it at one input. -/
def ribGoneWrong : ChangeSpec := { name := "ribGone", fn := fun _ => fun
  | [d1, d2] => { results := [.lit (.bool false)], args := [d1, d2] }
  | _ => none }
def RibGoneWrongFalsely : Prop := ribGoneRow.holds Try.pinned (OpenSpec.ofChange ribGoneWrong)

/-- 'octroilaw09.RibDoes': WHATEVER THE INPUT: true; the input reads as it did. -/
def ribDoesSpec : ChangeSpec := { name := "ribDoes", fn := fun _ => fun
  | [d1, d2, d3] => { results := [.lit (.bool true)], args := [d1, d2, d3] }
  | _ => none }
def ribDoesRow : OpenClaim := { program := "ytmbhlbohbpepaaa", sum := "d65a80d0997098bae956892fcb15c9910922a9e6f4f25ebbb50a668a69a197c0", func := "octroi/octroilaw09.RibDoes", spec := "ribDoes", unfollowed := true, recurses := true, plainKeys := false, apart := false }
def RibDoesSaid : Prop := ribDoesRow.holds Try.pinned (OpenSpec.ofChange ribDoesSpec)

/-- ITS FALSE NEIGHBOUR: 'it returns false'. Refute it at one input. -/
def ribDoesWrong : ChangeSpec := { name := "ribDoes", fn := fun _ => fun
  | [d1, d2, d3] => { results := [.lit (.bool false)], args := [d1, d2, d3] }
  | _ => none }
def RibDoesWrongFalsely : Prop := ribDoesRow.holds Try.pinned (OpenSpec.ofChange ribDoesWrong)

/-- 'octroilaw09.RibTakes': WHATEVER THE INPUT: true; the input reads as it did. -/
def ribTakesSpec : ChangeSpec := { name := "ribTakes", fn := fun _ => fun
  | [d1, d2, d3] => { results := [.lit (.bool true)], args := [d1, d2, d3] }
  | _ => none }
def ribTakesRow : OpenClaim := { program := "ytmbhlbohbpepaaa", sum := "d65a80d0997098bae956892fcb15c9910922a9e6f4f25ebbb50a668a69a197c0", func := "octroi/octroilaw09.RibTakes", spec := "ribTakes", unfollowed := true, recurses := true, plainKeys := false, apart := false }
def RibTakesSaid : Prop := ribTakesRow.holds Try.pinned (OpenSpec.ofChange ribTakesSpec)

/-- ITS FALSE NEIGHBOUR: 'it returns false'. Refute it at one input. -/
def ribTakesWrong : ChangeSpec := { name := "ribTakes", fn := fun _ => fun
  | [d1, d2, d3] => { results := [.lit (.bool false)], args := [d1, d2, d3] }
  | _ => none }
def RibTakesWrongFalsely : Prop := ribTakesRow.holds Try.pinned (OpenSpec.ofChange ribTakesWrong)

/- THE SECOND FORM. 'bulk': how many values and letters a reading holds, each counted each time it is reached (what is shared counts as often as it is met; a slice's spare places count too). A statement '..UptoSaid' is the law's where the arguments, and the package variables that the reading takes, are together of bulk at most 1048576: NARROWER than '..Said'. Prove '..Said' where nothing that the law and all that it calls make is longer than what came in: it says more and counts as full. Else prove '..UptoSaid'. A law counts once. -/
mutual
def uptoBulk {H : Type} : DataW H → Nat
  | .lit (.string bytes) => bytes.length + 1
  | .lit _ => 1
  | .nil => 1
  | .ptr d => uptoBulk d + 1
  | .slice elems spare => uptoBulkAll elems + uptoBulkAll spare + 1
  | .agg parts => uptoBulkAll parts + 1
  | .iface _ d => uptoBulk d + 1
  | .map entries => uptoBulkEntries entries + 1
  | .held _ => 1
def uptoBulkAll {H : Type} : List (DataW H) → Nat
  | [] => 0
  | d :: r => uptoBulk d + uptoBulkAll r
def uptoBulkEntries {H : Type} : List (Lit × DataW H) → Nat
  | [] => 0
  | x :: r => uptoBulkEntry x + uptoBulkEntries r
def uptoBulkEntry {H : Type} : Lit × DataW H → Nat
  | (.string bytes, d) => bytes.length + uptoBulk d + 1
  | (_, d) => uptoBulk d + 1
 end
def uptoSmall : (H : Type) → List (DataW H) → Bool := fun _ ds => decide (uptoBulkAll ds ≤ 1048576)
def OpenSpec.upto (s : _root_.Go.ChangeSpec) : _root_.Go.OpenSpec := { _root_.Go.OpenSpec.ofChange s with cond := some uptoSmall }

/-- 'octroilaw09.RibBetter', WHERE WHAT IT READS IS OF BULK AT MOST 1048576: true; the input reads as it did. -/
def ribBetterUptoRow : OpenClaim := { program := "ytmbhlbohbpepaaa", sum := "d65a80d0997098bae956892fcb15c9910922a9e6f4f25ebbb50a668a69a197c0", func := "octroi/octroilaw09.RibBetter", spec := "ribBetter", unfollowed := true, recurses := true, plainKeys := false, apart := false, narrowed := true }
def RibBetterUptoSaid : Prop := ribBetterUptoRow.holds Try.pinned (OpenSpec.upto ribBetterSpec)

/-- 'octroilaw09.RibOrder', WHERE WHAT IT READS IS OF BULK AT MOST 1048576: true; the input reads as it did. -/
def ribOrderUptoRow : OpenClaim := { program := "ytmbhlbohbpepaaa", sum := "d65a80d0997098bae956892fcb15c9910922a9e6f4f25ebbb50a668a69a197c0", func := "octroi/octroilaw09.RibOrder", spec := "ribOrder", unfollowed := true, recurses := true, plainKeys := false, apart := false, narrowed := true }
def RibOrderUptoSaid : Prop := ribOrderUptoRow.holds Try.pinned (OpenSpec.upto ribOrderSpec)

/-- 'octroilaw09.RibDepths', WHERE WHAT IT READS IS OF BULK AT MOST 1048576: true; the input reads as it did. -/
def ribDepthsUptoRow : OpenClaim := { program := "ytmbhlbohbpepaaa", sum := "d65a80d0997098bae956892fcb15c9910922a9e6f4f25ebbb50a668a69a197c0", func := "octroi/octroilaw09.RibDepths", spec := "ribDepths", unfollowed := true, recurses := true, plainKeys := false, apart := false, narrowed := true }
def RibDepthsUptoSaid : Prop := ribDepthsUptoRow.holds Try.pinned (OpenSpec.upto ribDepthsSpec)

/-- 'octroilaw09.RibFull', WHERE WHAT IT READS IS OF BULK AT MOST 1048576: true; the input reads as it did. -/
def ribFullUptoRow : OpenClaim := { program := "ytmbhlbohbpepaaa", sum := "d65a80d0997098bae956892fcb15c9910922a9e6f4f25ebbb50a668a69a197c0", func := "octroi/octroilaw09.RibFull", spec := "ribFull", unfollowed := true, recurses := true, plainKeys := false, apart := false, narrowed := true }
def RibFullUptoSaid : Prop := ribFullUptoRow.holds Try.pinned (OpenSpec.upto ribFullSpec)

/-- 'octroilaw09.RibSwaps', WHERE WHAT IT READS IS OF BULK AT MOST 1048576: true; the input reads as it did. -/
def ribSwapsUptoRow : OpenClaim := { program := "ytmbhlbohbpepaaa", sum := "d65a80d0997098bae956892fcb15c9910922a9e6f4f25ebbb50a668a69a197c0", func := "octroi/octroilaw09.RibSwaps", spec := "ribSwaps", unfollowed := true, recurses := true, plainKeys := false, apart := false, narrowed := true }
def RibSwapsUptoSaid : Prop := ribSwapsUptoRow.holds Try.pinned (OpenSpec.upto ribSwapsSpec)

/-- 'octroilaw09.RibGone', WHERE WHAT IT READS IS OF BULK AT MOST 1048576: true; the input reads as it did. -/
def ribGoneUptoRow : OpenClaim := { program := "ytmbhlbohbpepaaa", sum := "d65a80d0997098bae956892fcb15c9910922a9e6f4f25ebbb50a668a69a197c0", func := "octroi/octroilaw09.RibGone", spec := "ribGone", unfollowed := true, recurses := true, plainKeys := false, apart := false, narrowed := true }
def RibGoneUptoSaid : Prop := ribGoneUptoRow.holds Try.pinned (OpenSpec.upto ribGoneSpec)

/-- 'octroilaw09.RibDoes', WHERE WHAT IT READS IS OF BULK AT MOST 1048576: true; the input reads as it did. -/
def ribDoesUptoRow : OpenClaim := { program := "ytmbhlbohbpepaaa", sum := "d65a80d0997098bae956892fcb15c9910922a9e6f4f25ebbb50a668a69a197c0", func := "octroi/octroilaw09.RibDoes", spec := "ribDoes", unfollowed := true, recurses := true, plainKeys := false, apart := false, narrowed := true }
def RibDoesUptoSaid : Prop := ribDoesUptoRow.holds Try.pinned (OpenSpec.upto ribDoesSpec)

/-- 'octroilaw09.RibTakes', WHERE WHAT IT READS IS OF BULK AT MOST 1048576: true; the input reads as it did. -/
def ribTakesUptoRow : OpenClaim := { program := "ytmbhlbohbpepaaa", sum := "d65a80d0997098bae956892fcb15c9910922a9e6f4f25ebbb50a668a69a197c0", func := "octroi/octroilaw09.RibTakes", spec := "ribTakes", unfollowed := true, recurses := true, plainKeys := false, apart := false, narrowed := true }
def RibTakesUptoSaid : Prop := ribTakesUptoRow.holds Try.pinned (OpenSpec.upto ribTakesSpec)

end Rows
end Go.Proofs.Ytmbhlbohbpepaaa
