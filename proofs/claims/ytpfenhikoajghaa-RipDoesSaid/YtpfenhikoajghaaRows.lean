/-
  No cell of these rows narrows 'for every input' (looked for: loops, veiled, ifaces, maps, wideKeys, modest, calm, conditions, laid).
  DERIVED. THE GIVEN ROWS OF THIS SEAT. 6 by the template 'for every input the law returns true; each argument reads behind the call as it read before'; 0 by the template 'total and deterministic' (their statements: YtpfenhikoajghaaTotals.lean).
  GIVEN WITH THE SEED: the statements are not yours to turn. If you find one false, say at which input.
  Laid BY PROGRAM, IN A SANDBOX (cutbox-rows.mjs): the forced cells as the released guide's own fill.sh prints them over the translation 085937a1f5e60b48… (all of the seat's roots in one cut). By AI agents, Wed Nov 11 2026. No macro, syntax, notation, axiom, sorry.
-/
import Derived.Test.YtpfenhikoajghaaChecked
import GoSem.Claim
import GoSem.ClaimJoined
import GoSem.ClaimMapViews
import Derived.JoinedTies
import Derived.KernelRfl
namespace Go.Proofs.Ytpfenhikoajghaa
/- THE CELL 'sum', in the pinned program and in every row, IS THE sha256 OF THE DUMP (.gsa) THAT YtpfenhikoajghaaProg.lean LOADS. Nothing in Lean hashes anything: it is a label: what it is worth is what the hold of that sum in a sandbox is worth. -/
noncomputable def Try.pinned : Pinned := { name := "ytpfenhikoajghaa", sum := "085937a1f5e60b483a4d6f5a859e5a61fc0a66058364848e95ea38aea368f30f", checked := Try.checked }
namespace Rows
def none {H : Type} : Left H := { results := [], args := [] }

/-- 'octroilaw16.RipWays': WHATEVER THE INPUT: true; the input reads as it did. -/
def ripWaysSpec : ChangeSpec := { name := "ripWays", fn := fun _ => fun
  | [d1, d2, d3, d4, d5] => { results := [.lit (.bool true)], args := [d1, d2, d3, d4, d5] }
  | _ => none }
def ripWaysRow : OpenClaim := { program := "ytpfenhikoajghaa", sum := "085937a1f5e60b483a4d6f5a859e5a61fc0a66058364848e95ea38aea368f30f", func := "octroi/octroilaw16.RipWays", spec := "ripWays", unfollowed := true, recurses := true, plainKeys := false, apart := false }
def RipWaysSaid : Prop := ripWaysRow.holds Try.pinned (OpenSpec.ofChange ripWaysSpec)

/-- ITS FALSE NEIGHBOUR: 'it returns false'. Refute it at one input. -/
def ripWaysWrong : ChangeSpec := { name := "ripWays", fn := fun _ => fun
  | [d1, d2, d3, d4, d5] => { results := [.lit (.bool false)], args := [d1, d2, d3, d4, d5] }
  | _ => none }
def RipWaysWrongFalsely : Prop := ripWaysRow.holds Try.pinned (OpenSpec.ofChange ripWaysWrong)

/-- 'octroilaw16.RipFull': WHATEVER THE INPUT: true; the input reads as it did. -/
def ripFullSpec : ChangeSpec := { name := "ripFull", fn := fun _ => fun
  | [d1, d2, d3] => { results := [.lit (.bool true)], args := [d1, d2, d3] }
  | _ => none }
def ripFullRow : OpenClaim := { program := "ytpfenhikoajghaa", sum := "085937a1f5e60b483a4d6f5a859e5a61fc0a66058364848e95ea38aea368f30f", func := "octroi/octroilaw16.RipFull", spec := "ripFull", unfollowed := true, recurses := true, plainKeys := false, apart := false }
def RipFullSaid : Prop := ripFullRow.holds Try.pinned (OpenSpec.ofChange ripFullSpec)

/-- ITS FALSE NEIGHBOUR: 'it returns false'. Refute it at one input. -/
def ripFullWrong : ChangeSpec := { name := "ripFull", fn := fun _ => fun
  | [d1, d2, d3] => { results := [.lit (.bool false)], args := [d1, d2, d3] }
  | _ => none }
def RipFullWrongFalsely : Prop := ripFullRow.holds Try.pinned (OpenSpec.ofChange ripFullWrong)

/-- 'octroilaw16.RipDoes': WHATEVER THE INPUT: true; the input reads as it did. -/
def ripDoesSpec : ChangeSpec := { name := "ripDoes", fn := fun _ => fun
  | [d1, d2, d3, d4] => { results := [.lit (.bool true)], args := [d1, d2, d3, d4] }
  | _ => none }
def ripDoesRow : OpenClaim := { program := "ytpfenhikoajghaa", sum := "085937a1f5e60b483a4d6f5a859e5a61fc0a66058364848e95ea38aea368f30f", func := "octroi/octroilaw16.RipDoes", spec := "ripDoes", unfollowed := true, recurses := true, plainKeys := false, apart := false }
def RipDoesSaid : Prop := ripDoesRow.holds Try.pinned (OpenSpec.ofChange ripDoesSpec)

/-- ITS FALSE NEIGHBOUR: 'it returns false'. Refute it at one input. -/
def ripDoesWrong : ChangeSpec := { name := "ripDoes", fn := fun _ => fun
  | [d1, d2, d3, d4] => { results := [.lit (.bool false)], args := [d1, d2, d3, d4] }
  | _ => none }
def RipDoesWrongFalsely : Prop := ripDoesRow.holds Try.pinned (OpenSpec.ofChange ripDoesWrong)

/-- 'octroilaw16.RipTags': WHATEVER THE INPUT: true; the input reads as it did. -/
def ripTagsSpec : ChangeSpec := { name := "ripTags", fn := fun _ => fun
  | [d1, d2, d3] => { results := [.lit (.bool true)], args := [d1, d2, d3] }
  | _ => none }
def ripTagsRow : OpenClaim := { program := "ytpfenhikoajghaa", sum := "085937a1f5e60b483a4d6f5a859e5a61fc0a66058364848e95ea38aea368f30f", func := "octroi/octroilaw16.RipTags", spec := "ripTags", unfollowed := true, recurses := true, plainKeys := false, apart := false }
def RipTagsSaid : Prop := ripTagsRow.holds Try.pinned (OpenSpec.ofChange ripTagsSpec)

/-- ITS FALSE NEIGHBOUR: 'it returns false'. Refute it at one input. -/
def ripTagsWrong : ChangeSpec := { name := "ripTags", fn := fun _ => fun
  | [d1, d2, d3] => { results := [.lit (.bool false)], args := [d1, d2, d3] }
  | _ => none }
def RipTagsWrongFalsely : Prop := ripTagsRow.holds Try.pinned (OpenSpec.ofChange ripTagsWrong)

/-- 'octroilaw16.RipPoison': WHATEVER THE INPUT: true; the input reads as it did. -/
def ripPoisonSpec : ChangeSpec := { name := "ripPoison", fn := fun _ => fun
  | [d1, d2] => { results := [.lit (.bool true)], args := [d1, d2] }
  | _ => none }
def ripPoisonRow : OpenClaim := { program := "ytpfenhikoajghaa", sum := "085937a1f5e60b483a4d6f5a859e5a61fc0a66058364848e95ea38aea368f30f", func := "octroi/octroilaw16.RipPoison", spec := "ripPoison", unfollowed := true, recurses := true, plainKeys := false, apart := false }
def RipPoisonSaid : Prop := ripPoisonRow.holds Try.pinned (OpenSpec.ofChange ripPoisonSpec)

/-- ITS FALSE NEIGHBOUR: 'it returns false'. Refute it at one input. -/
def ripPoisonWrong : ChangeSpec := { name := "ripPoison", fn := fun _ => fun
  | [d1, d2] => { results := [.lit (.bool false)], args := [d1, d2] }
  | _ => none }
def RipPoisonWrongFalsely : Prop := ripPoisonRow.holds Try.pinned (OpenSpec.ofChange ripPoisonWrong)

/-- 'octroilaw16.RipOwns': WHATEVER THE INPUT: true; the input reads as it did. -/
def ripOwnsSpec : ChangeSpec := { name := "ripOwns", fn := fun _ => fun
  | [d1, d2, d3, d4] => { results := [.lit (.bool true)], args := [d1, d2, d3, d4] }
  | _ => none }
def ripOwnsRow : OpenClaim := { program := "ytpfenhikoajghaa", sum := "085937a1f5e60b483a4d6f5a859e5a61fc0a66058364848e95ea38aea368f30f", func := "octroi/octroilaw16.RipOwns", spec := "ripOwns", unfollowed := true, recurses := true, plainKeys := false, apart := false }
def RipOwnsSaid : Prop := ripOwnsRow.holds Try.pinned (OpenSpec.ofChange ripOwnsSpec)

/-- ITS FALSE NEIGHBOUR: 'it returns false'. Refute it at one input. -/
def ripOwnsWrong : ChangeSpec := { name := "ripOwns", fn := fun _ => fun
  | [d1, d2, d3, d4] => { results := [.lit (.bool false)], args := [d1, d2, d3, d4] }
  | _ => none }
def RipOwnsWrongFalsely : Prop := ripOwnsRow.holds Try.pinned (OpenSpec.ofChange ripOwnsWrong)

/- THE SECOND FORM. 'bulk': how many values and letters a reading holds, each counted each time it is reached (what is shared counts as often as it is met; a slice's spare places count too). A statement '..UptoSaid' is the law's where the arguments, and the package variables that the reading takes, are together of bulk at most 1048576: NARROWER than '..Said'. Prove '..Said' where nothing that the law and all that it calls make is longer than what came in: it says more and counts as full. Else prove '..UptoSaid'. A law counts once. -/
mutual
def uptoBulk {H : Type} : DataW H → Nat
  | .lit (.string bytes) => bytes.length + 1
  | .lit _ => 1
  | .nil => 1
  | .ptr d => uptoBulk d + 1
  | .slice elems spare => uptoBulkAll elems + uptoBulkAll spare + 1
  | .agg parts => uptoBulkAll parts + 1
  | .iface _ d => uptoBulk d + 1
  | .map entries => uptoBulkEntries entries + 1
  | .held _ => 1
def uptoBulkAll {H : Type} : List (DataW H) → Nat
  | [] => 0
  | d :: r => uptoBulk d + uptoBulkAll r
def uptoBulkEntries {H : Type} : List (Lit × DataW H) → Nat
  | [] => 0
  | x :: r => uptoBulkEntry x + uptoBulkEntries r
def uptoBulkEntry {H : Type} : Lit × DataW H → Nat
  | (.string bytes, d) => bytes.length + uptoBulk d + 1
  | (_, d) => uptoBulk d + 1
 end
def uptoSmall : (H : Type) → List (DataW H) → Bool := fun _ ds => decide (uptoBulkAll ds ≤ 1048576)
def OpenSpec.upto (s : _root_.Go.ChangeSpec) : _root_.Go.OpenSpec := { _root_.Go.OpenSpec.ofChange s with cond := some uptoSmall }

/-- 'octroilaw16.RipWays', WHERE WHAT IT READS IS OF BULK AT MOST 1048576: true; the input reads as it did. -/
def ripWaysUptoRow : OpenClaim := { program := "ytpfenhikoajghaa", sum := "085937a1f5e60b483a4d6f5a859e5a61fc0a66058364848e95ea38aea368f30f", func := "octroi/octroilaw16.RipWays", spec := "ripWays", unfollowed := true, recurses := true, plainKeys := false, apart := false, narrowed := true }
def RipWaysUptoSaid : Prop := ripWaysUptoRow.holds Try.pinned (OpenSpec.upto ripWaysSpec)

/-- 'octroilaw16.RipFull', WHERE WHAT IT READS IS OF BULK AT MOST 1048576: true; the input reads as it did. -/
def ripFullUptoRow : OpenClaim := { program := "ytpfenhikoajghaa", sum := "085937a1f5e60b483a4d6f5a859e5a61fc0a66058364848e95ea38aea368f30f", func := "octroi/octroilaw16.RipFull", spec := "ripFull", unfollowed := true, recurses := true, plainKeys := false, apart := false, narrowed := true }
def RipFullUptoSaid : Prop := ripFullUptoRow.holds Try.pinned (OpenSpec.upto ripFullSpec)

/-- 'octroilaw16.RipDoes', WHERE WHAT IT READS IS OF BULK AT MOST 1048576: true; the input reads as it did. -/
def ripDoesUptoRow : OpenClaim := { program := "ytpfenhikoajghaa", sum := "085937a1f5e60b483a4d6f5a859e5a61fc0a66058364848e95ea38aea368f30f", func := "octroi/octroilaw16.RipDoes", spec := "ripDoes", unfollowed := true, recurses := true, plainKeys := false, apart := false, narrowed := true }
def RipDoesUptoSaid : Prop := ripDoesUptoRow.holds Try.pinned (OpenSpec.upto ripDoesSpec)

/-- 'octroilaw16.RipTags', WHERE WHAT IT READS IS OF BULK AT MOST 1048576: true; the input reads as it did. -/
def ripTagsUptoRow : OpenClaim := { program := "ytpfenhikoajghaa", sum := "085937a1f5e60b483a4d6f5a859e5a61fc0a66058364848e95ea38aea368f30f", func := "octroi/octroilaw16.RipTags", spec := "ripTags", unfollowed := true, recurses := true, plainKeys := false, apart := false, narrowed := true }
def RipTagsUptoSaid : Prop := ripTagsUptoRow.holds Try.pinned (OpenSpec.upto ripTagsSpec)

/-- 'octroilaw16.RipPoison', WHERE WHAT IT READS IS OF BULK AT MOST 1048576: true; the input reads as it did. -/
def ripPoisonUptoRow : OpenClaim := { program := "ytpfenhikoajghaa", sum := "085937a1f5e60b483a4d6f5a859e5a61fc0a66058364848e95ea38aea368f30f", func := "octroi/octroilaw16.RipPoison", spec := "ripPoison", unfollowed := true, recurses := true, plainKeys := false, apart := false, narrowed := true }
def RipPoisonUptoSaid : Prop := ripPoisonUptoRow.holds Try.pinned (OpenSpec.upto ripPoisonSpec)

/-- 'octroilaw16.RipOwns', WHERE WHAT IT READS IS OF BULK AT MOST 1048576: true; the input reads as it did. -/
def ripOwnsUptoRow : OpenClaim := { program := "ytpfenhikoajghaa", sum := "085937a1f5e60b483a4d6f5a859e5a61fc0a66058364848e95ea38aea368f30f", func := "octroi/octroilaw16.RipOwns", spec := "ripOwns", unfollowed := true, recurses := true, plainKeys := false, apart := false, narrowed := true }
def RipOwnsUptoSaid : Prop := ripOwnsUptoRow.holds Try.pinned (OpenSpec.upto ripOwnsSpec)

end Rows
end Go.Proofs.Ytpfenhikoajghaa
