/-
  No cell of these rows narrows 'for every input' (looked for: loops, veiled, ifaces, maps, wideKeys, modest, calm, conditions, laid).
  DERIVED. THE GIVEN ROWS OF THIS SEAT. 7 by the template 'for every input the law returns true; each argument reads behind the call as it read before'; 0 by the template 'total and deterministic' (their statements: YtchbipkoifmmdaaTotals.lean).
  GIVEN WITH THE SEED: the statements are not yours to turn. If you find one false, say at which input.
  Laid BY PROGRAM, IN A SANDBOX (cutbox-rows.mjs): the forced cells as the released guide's own fill.sh prints them over the translation 8424c1c577824a82… (all of the seat's roots in one cut). By AI agents, Wed Nov 11 2026. No macro, syntax, notation, axiom, sorry.
-/
import Derived.Test.YtchbipkoifmmdaaChecked
import GoSem.Claim
import GoSem.ClaimJoined
import GoSem.ClaimMapViews
import Derived.JoinedTies
import Derived.KernelRfl
namespace Go.Proofs.Ytchbipkoifmmdaa
/- THE CELL 'sum', in the pinned program and in every row, IS THE sha256 OF THE DUMP (.gsa) THAT YtchbipkoifmmdaaProg.lean LOADS. Nothing in Lean hashes anything: it is a label: what it is worth is what the hold of that sum in a sandbox is worth. -/
noncomputable def Try.pinned : Pinned := { name := "ytchbipkoifmmdaa", sum := "8424c1c577824a82ad8045fd77698ef6707d713a1905efa295618ab77e0bdd29", checked := Try.checked }
namespace Rows
def none {H : Type} : Left H := { results := [], args := [] }

/-- 'octroilaw17.BabelBest': WHATEVER THE INPUT: true; the input reads as it did. -/
def babelBestSpec : ChangeSpec := { name := "babelBest", fn := fun _ => fun
  | [d1, d2, d3, d4, d5] => { results := [.lit (.bool true)], args := [d1, d2, d3, d4, d5] }
  | _ => none }
def babelBestRow : OpenClaim := { program := "ytchbipkoifmmdaa", sum := "8424c1c577824a82ad8045fd77698ef6707d713a1905efa295618ab77e0bdd29", func := "octroi/octroilaw17.BabelBest", spec := "babelBest", unfollowed := true, recurses := true, plainKeys := false, apart := false }
def BabelBestSaid : Prop := babelBestRow.holds Try.pinned (OpenSpec.ofChange babelBestSpec)

/-- ITS FALSE NEIGHBOUR: 'it returns false'. Refute it at one input. -/
def babelBestWrong : ChangeSpec := { name := "babelBest", fn := fun _ => fun
  | [d1, d2, d3, d4, d5] => { results := [.lit (.bool false)], args := [d1, d2, d3, d4, d5] }
  | _ => none }
def BabelBestWrongFalsely : Prop := babelBestRow.holds Try.pinned (OpenSpec.ofChange babelBestWrong)

/-- 'octroilaw17.BabelRaises': WHATEVER THE INPUT: true; the input reads as it did. -/
def babelRaisesSpec : ChangeSpec := { name := "babelRaises", fn := fun _ => fun
  | [d1, d2, d3, d4] => { results := [.lit (.bool true)], args := [d1, d2, d3, d4] }
  | _ => none }
def babelRaisesRow : OpenClaim := { program := "ytchbipkoifmmdaa", sum := "8424c1c577824a82ad8045fd77698ef6707d713a1905efa295618ab77e0bdd29", func := "octroi/octroilaw17.BabelRaises", spec := "babelRaises", unfollowed := true, recurses := true, plainKeys := false, apart := false }
def BabelRaisesSaid : Prop := babelRaisesRow.holds Try.pinned (OpenSpec.ofChange babelRaisesSpec)

/-- ITS FALSE NEIGHBOUR: 'it returns false'. Refute it at one input. -/
def babelRaisesWrong : ChangeSpec := { name := "babelRaises", fn := fun _ => fun
  | [d1, d2, d3, d4] => { results := [.lit (.bool false)], args := [d1, d2, d3, d4] }
  | _ => none }
def BabelRaisesWrongFalsely : Prop := babelRaisesRow.holds Try.pinned (OpenSpec.ofChange babelRaisesWrong)

/-- 'octroilaw17.BabelTags': WHATEVER THE INPUT: true; the input reads as it did. -/
def babelTagsSpec : ChangeSpec := { name := "babelTags", fn := fun _ => fun
  | [d1, d2, d3] => { results := [.lit (.bool true)], args := [d1, d2, d3] }
  | _ => none }
def babelTagsRow : OpenClaim := { program := "ytchbipkoifmmdaa", sum := "8424c1c577824a82ad8045fd77698ef6707d713a1905efa295618ab77e0bdd29", func := "octroi/octroilaw17.BabelTags", spec := "babelTags", unfollowed := true, recurses := true, plainKeys := false, apart := false }
def BabelTagsSaid : Prop := babelTagsRow.holds Try.pinned (OpenSpec.ofChange babelTagsSpec)

/-- ITS FALSE NEIGHBOUR: 'it returns false'. Refute it at one input. -/
def babelTagsWrong : ChangeSpec := { name := "babelTags", fn := fun _ => fun
  | [d1, d2, d3] => { results := [.lit (.bool false)], args := [d1, d2, d3] }
  | _ => none }
def BabelTagsWrongFalsely : Prop := babelTagsRow.holds Try.pinned (OpenSpec.ofChange babelTagsWrong)

/-- 'octroilaw17.BabelGone': WHATEVER THE INPUT: true; the input reads as it did. -/
def babelGoneSpec : ChangeSpec := { name := "babelGone", fn := fun _ => fun
  | [d1, d2] => { results := [.lit (.bool true)], args := [d1, d2] }
  | _ => none }
def babelGoneRow : OpenClaim := { program := "ytchbipkoifmmdaa", sum := "8424c1c577824a82ad8045fd77698ef6707d713a1905efa295618ab77e0bdd29", func := "octroi/octroilaw17.BabelGone", spec := "babelGone", unfollowed := true, recurses := true, plainKeys := false, apart := false }
def BabelGoneSaid : Prop := babelGoneRow.holds Try.pinned (OpenSpec.ofChange babelGoneSpec)

/-- ITS FALSE NEIGHBOUR: 'it returns false'. Refute it at one input. -/
def babelGoneWrong : ChangeSpec := { name := "babelGone", fn := fun _ => fun
  | [d1, d2] => { results := [.lit (.bool false)], args := [d1, d2] }
  | _ => none }
def BabelGoneWrongFalsely : Prop := babelGoneRow.holds Try.pinned (OpenSpec.ofChange babelGoneWrong)

/-- 'octroilaw17.BabelLeast': WHATEVER THE INPUT: true; the input reads as it did. -/
def babelLeastSpec : ChangeSpec := { name := "babelLeast", fn := fun _ => fun
  | [d1, d2, d3, d4] => { results := [.lit (.bool true)], args := [d1, d2, d3, d4] }
  | _ => none }
def babelLeastRow : OpenClaim := { program := "ytchbipkoifmmdaa", sum := "8424c1c577824a82ad8045fd77698ef6707d713a1905efa295618ab77e0bdd29", func := "octroi/octroilaw17.BabelLeast", spec := "babelLeast", unfollowed := true, recurses := true, plainKeys := false, apart := false }
def BabelLeastSaid : Prop := babelLeastRow.holds Try.pinned (OpenSpec.ofChange babelLeastSpec)

/-- ITS FALSE NEIGHBOUR: 'it returns false'. Refute it at one input. -/
def babelLeastWrong : ChangeSpec := { name := "babelLeast", fn := fun _ => fun
  | [d1, d2, d3, d4] => { results := [.lit (.bool false)], args := [d1, d2, d3, d4] }
  | _ => none }
def BabelLeastWrongFalsely : Prop := babelLeastRow.holds Try.pinned (OpenSpec.ofChange babelLeastWrong)

/-- 'octroilaw17.BabelFeasible': WHATEVER THE INPUT: true; the input reads as it did. -/
def babelFeasibleSpec : ChangeSpec := { name := "babelFeasible", fn := fun _ => fun
  | [d1, d2] => { results := [.lit (.bool true)], args := [d1, d2] }
  | _ => none }
def babelFeasibleRow : OpenClaim := { program := "ytchbipkoifmmdaa", sum := "8424c1c577824a82ad8045fd77698ef6707d713a1905efa295618ab77e0bdd29", func := "octroi/octroilaw17.BabelFeasible", spec := "babelFeasible", unfollowed := true, recurses := true, plainKeys := false, apart := false }
def BabelFeasibleSaid : Prop := babelFeasibleRow.holds Try.pinned (OpenSpec.ofChange babelFeasibleSpec)

/-- ITS FALSE NEIGHBOUR: 'it returns false'. Refute it at one input. -/
def babelFeasibleWrong : ChangeSpec := { name := "babelFeasible", fn := fun _ => fun
  | [d1, d2] => { results := [.lit (.bool false)], args := [d1, d2] }
  | _ => none }
def BabelFeasibleWrongFalsely : Prop := babelFeasibleRow.holds Try.pinned (OpenSpec.ofChange babelFeasibleWrong)

/-- 'octroilaw17.BabelDoes': WHATEVER THE INPUT: true; the input reads as it did. -/
def babelDoesSpec : ChangeSpec := { name := "babelDoes", fn := fun _ => fun
  | [d1, d2, d3, d4] => { results := [.lit (.bool true)], args := [d1, d2, d3, d4] }
  | _ => none }
def babelDoesRow : OpenClaim := { program := "ytchbipkoifmmdaa", sum := "8424c1c577824a82ad8045fd77698ef6707d713a1905efa295618ab77e0bdd29", func := "octroi/octroilaw17.BabelDoes", spec := "babelDoes", unfollowed := true, recurses := true, plainKeys := false, apart := false }
def BabelDoesSaid : Prop := babelDoesRow.holds Try.pinned (OpenSpec.ofChange babelDoesSpec)

/-- ITS FALSE NEIGHBOUR: 'it returns false'. Refute it at one input. -/
def babelDoesWrong : ChangeSpec := { name := "babelDoes", fn := fun _ => fun
  | [d1, d2, d3, d4] => { results := [.lit (.bool false)], args := [d1, d2, d3, d4] }
  | _ => none }
def BabelDoesWrongFalsely : Prop := babelDoesRow.holds Try.pinned (OpenSpec.ofChange babelDoesWrong)

/- THE SECOND FORM. 'bulk': how many values and letters a reading holds, each counted each time it is reached (what is shared counts as often as it is met; a slice's spare places count too). A statement '..UptoSaid' is the law's where the arguments, and the package variables that the reading takes, are together of bulk at most 1048576: NARROWER than '..Said'. Prove '..Said' where nothing that the law and all that it calls make is longer than what came in: it says more and counts as full. Else prove '..UptoSaid'. A law counts once. -/
mutual
def uptoBulk {H : Type} : DataW H → Nat
  | .lit (.string bytes) => bytes.length + 1
  | .lit _ => 1
  | .nil => 1
  | .ptr d => uptoBulk d + 1
  | .slice elems spare => uptoBulkAll elems + uptoBulkAll spare + 1
  | .agg parts => uptoBulkAll parts + 1
  | .iface _ d => uptoBulk d + 1
  | .map entries => uptoBulkEntries entries + 1
  | .held _ => 1
def uptoBulkAll {H : Type} : List (DataW H) → Nat
  | [] => 0
  | d :: r => uptoBulk d + uptoBulkAll r
def uptoBulkEntries {H : Type} : List (Lit × DataW H) → Nat
  | [] => 0
  | x :: r => uptoBulkEntry x + uptoBulkEntries r
def uptoBulkEntry {H : Type} : Lit × DataW H → Nat
  | (.string bytes, d) => bytes.length + uptoBulk d + 1
  | (_, d) => uptoBulk d + 1
 end
def uptoSmall : (H : Type) → List (DataW H) → Bool := fun _ ds => decide (uptoBulkAll ds ≤ 1048576)
def OpenSpec.upto (s : _root_.Go.ChangeSpec) : _root_.Go.OpenSpec := { _root_.Go.OpenSpec.ofChange s with cond := some uptoSmall }

/-- 'octroilaw17.BabelBest', WHERE WHAT IT READS IS OF BULK AT MOST 1048576: true; the input reads as it did. -/
def babelBestUptoRow : OpenClaim := { program := "ytchbipkoifmmdaa", sum := "8424c1c577824a82ad8045fd77698ef6707d713a1905efa295618ab77e0bdd29", func := "octroi/octroilaw17.BabelBest", spec := "babelBest", unfollowed := true, recurses := true, plainKeys := false, apart := false, narrowed := true }
def BabelBestUptoSaid : Prop := babelBestUptoRow.holds Try.pinned (OpenSpec.upto babelBestSpec)

/-- 'octroilaw17.BabelRaises', WHERE WHAT IT READS IS OF BULK AT MOST 1048576: true; the input reads as it did. -/
def babelRaisesUptoRow : OpenClaim := { program := "ytchbipkoifmmdaa", sum := "8424c1c577824a82ad8045fd77698ef6707d713a1905efa295618ab77e0bdd29", func := "octroi/octroilaw17.BabelRaises", spec := "babelRaises", unfollowed := true, recurses := true, plainKeys := false, apart := false, narrowed := true }
def BabelRaisesUptoSaid : Prop := babelRaisesUptoRow.holds Try.pinned (OpenSpec.upto babelRaisesSpec)

/-- 'octroilaw17.BabelTags', WHERE WHAT IT READS IS OF BULK AT MOST 1048576: true; the input reads as it did. -/
def babelTagsUptoRow : OpenClaim := { program := "ytchbipkoifmmdaa", sum := "8424c1c577824a82ad8045fd77698ef6707d713a1905efa295618ab77e0bdd29", func := "octroi/octroilaw17.BabelTags", spec := "babelTags", unfollowed := true, recurses := true, plainKeys := false, apart := false, narrowed := true }
def BabelTagsUptoSaid : Prop := babelTagsUptoRow.holds Try.pinned (OpenSpec.upto babelTagsSpec)

/-- 'octroilaw17.BabelGone', WHERE WHAT IT READS IS OF BULK AT MOST 1048576: true; the input reads as it did. -/
def babelGoneUptoRow : OpenClaim := { program := "ytchbipkoifmmdaa", sum := "8424c1c577824a82ad8045fd77698ef6707d713a1905efa295618ab77e0bdd29", func := "octroi/octroilaw17.BabelGone", spec := "babelGone", unfollowed := true, recurses := true, plainKeys := false, apart := false, narrowed := true }
def BabelGoneUptoSaid : Prop := babelGoneUptoRow.holds Try.pinned (OpenSpec.upto babelGoneSpec)

/-- 'octroilaw17.BabelLeast', WHERE WHAT IT READS IS OF BULK AT MOST 1048576: true; the input reads as it did. -/
def babelLeastUptoRow : OpenClaim := { program := "ytchbipkoifmmdaa", sum := "8424c1c577824a82ad8045fd77698ef6707d713a1905efa295618ab77e0bdd29", func := "octroi/octroilaw17.BabelLeast", spec := "babelLeast", unfollowed := true, recurses := true, plainKeys := false, apart := false, narrowed := true }
def BabelLeastUptoSaid : Prop := babelLeastUptoRow.holds Try.pinned (OpenSpec.upto babelLeastSpec)

/-- 'octroilaw17.BabelFeasible', WHERE WHAT IT READS IS OF BULK AT MOST 1048576: true; the input reads as it did. -/
def babelFeasibleUptoRow : OpenClaim := { program := "ytchbipkoifmmdaa", sum := "8424c1c577824a82ad8045fd77698ef6707d713a1905efa295618ab77e0bdd29", func := "octroi/octroilaw17.BabelFeasible", spec := "babelFeasible", unfollowed := true, recurses := true, plainKeys := false, apart := false, narrowed := true }
def BabelFeasibleUptoSaid : Prop := babelFeasibleUptoRow.holds Try.pinned (OpenSpec.upto babelFeasibleSpec)

/-- 'octroilaw17.BabelDoes', WHERE WHAT IT READS IS OF BULK AT MOST 1048576: true; the input reads as it did. -/
def babelDoesUptoRow : OpenClaim := { program := "ytchbipkoifmmdaa", sum := "8424c1c577824a82ad8045fd77698ef6707d713a1905efa295618ab77e0bdd29", func := "octroi/octroilaw17.BabelDoes", spec := "babelDoes", unfollowed := true, recurses := true, plainKeys := false, apart := false, narrowed := true }
def BabelDoesUptoSaid : Prop := babelDoesUptoRow.holds Try.pinned (OpenSpec.upto babelDoesSpec)

end Rows
end Go.Proofs.Ytchbipkoifmmdaa
