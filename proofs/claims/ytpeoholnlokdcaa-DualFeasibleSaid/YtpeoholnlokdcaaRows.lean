/-
  No cell of these rows narrows 'for every input' (looked for: loops, veiled, ifaces, maps, wideKeys, modest, calm, conditions, laid).
  DERIVED. THE GIVEN ROWS OF THIS SEAT. 6 by the template 'for every input the law returns true; each argument reads behind the call as it read before'; 0 by the template 'total and deterministic' (their statements: YtpeoholnlokdcaaTotals.lean).
  GIVEN WITH THE SEED: the statements are not yours to turn. If you find one false, say at which input.
  Laid BY PROGRAM, IN A SANDBOX (cutbox-rows.mjs): the forced cells as the released guide's own fill.sh prints them over the translation aba11e46d5fdcc9a… (all of the seat's roots in one cut). By AI agents, Wed Nov 11 2026. No macro, syntax, notation, axiom, sorry.
-/
import Derived.Test.YtpeoholnlokdcaaChecked
import GoSem.Claim
import GoSem.ClaimJoined
import GoSem.ClaimMapViews
import Derived.JoinedTies
import Derived.KernelRfl
namespace Go.Proofs.Ytpeoholnlokdcaa
/- THE CELL 'sum', in the pinned program and in every row, IS THE sha256 OF THE DUMP (.gsa) THAT YtpeoholnlokdcaaProg.lean LOADS. Nothing in Lean hashes anything: it is a label: what it is worth is what the hold of that sum in a sandbox is worth. -/
noncomputable def Try.pinned : Pinned := { name := "ytpeoholnlokdcaa", sum := "aba11e46d5fdcc9a3b9271bcd9eb98b1246dd94bf2b51125a27bfc5ccb1f9225", checked := Try.checked }
namespace Rows
def none {H : Type} : Left H := { results := [], args := [] }

/-- 'octroilaw18.DualBest': WHATEVER THE INPUT: true; the input reads as it did. -/
def dualBestSpec : ChangeSpec := { name := "dualBest", fn := fun _ => fun
  | [d1, d2, d3, d4] => { results := [.lit (.bool true)], args := [d1, d2, d3, d4] }
  | _ => none }
def dualBestRow : OpenClaim := { program := "ytpeoholnlokdcaa", sum := "aba11e46d5fdcc9a3b9271bcd9eb98b1246dd94bf2b51125a27bfc5ccb1f9225", func := "octroi/octroilaw18.DualBest", spec := "dualBest", unfollowed := true, recurses := true, plainKeys := false, apart := false }
def DualBestSaid : Prop := dualBestRow.holds Try.pinned (OpenSpec.ofChange dualBestSpec)

/-- ITS FALSE NEIGHBOUR: 'it returns false'. Refute it at one input. -/
def dualBestWrong : ChangeSpec := { name := "dualBest", fn := fun _ => fun
  | [d1, d2, d3, d4] => { results := [.lit (.bool false)], args := [d1, d2, d3, d4] }
  | _ => none }
def DualBestWrongFalsely : Prop := dualBestRow.holds Try.pinned (OpenSpec.ofChange dualBestWrong)

/-- 'octroilaw18.DualAsks': WHATEVER THE INPUT: true; the input reads as it did. -/
def dualAsksSpec : ChangeSpec := { name := "dualAsks", fn := fun _ => fun
  | [d1, d2] => { results := [.lit (.bool true)], args := [d1, d2] }
  | _ => none }
def dualAsksRow : OpenClaim := { program := "ytpeoholnlokdcaa", sum := "aba11e46d5fdcc9a3b9271bcd9eb98b1246dd94bf2b51125a27bfc5ccb1f9225", func := "octroi/octroilaw18.DualAsks", spec := "dualAsks", unfollowed := true, recurses := true, plainKeys := false, apart := false }
def DualAsksSaid : Prop := dualAsksRow.holds Try.pinned (OpenSpec.ofChange dualAsksSpec)

/-- ITS FALSE NEIGHBOUR: 'it returns false'. Refute it at one input. -/
def dualAsksWrong : ChangeSpec := { name := "dualAsks", fn := fun _ => fun
  | [d1, d2] => { results := [.lit (.bool false)], args := [d1, d2] }
  | _ => none }
def DualAsksWrongFalsely : Prop := dualAsksRow.holds Try.pinned (OpenSpec.ofChange dualAsksWrong)

/-- 'octroilaw18.DualAnswers': WHATEVER THE INPUT: true; the input reads as it did. -/
def dualAnswersSpec : ChangeSpec := { name := "dualAnswers", fn := fun _ => fun
  | [d1, d2, d3, d4, d5] => { results := [.lit (.bool true)], args := [d1, d2, d3, d4, d5] }
  | _ => none }
def dualAnswersRow : OpenClaim := { program := "ytpeoholnlokdcaa", sum := "aba11e46d5fdcc9a3b9271bcd9eb98b1246dd94bf2b51125a27bfc5ccb1f9225", func := "octroi/octroilaw18.DualAnswers", spec := "dualAnswers", unfollowed := true, recurses := true, plainKeys := false, apart := false }
def DualAnswersSaid : Prop := dualAnswersRow.holds Try.pinned (OpenSpec.ofChange dualAnswersSpec)

/-- ITS FALSE NEIGHBOUR: 'it returns false'. Refute it at one input. -/
def dualAnswersWrong : ChangeSpec := { name := "dualAnswers", fn := fun _ => fun
  | [d1, d2, d3, d4, d5] => { results := [.lit (.bool false)], args := [d1, d2, d3, d4, d5] }
  | _ => none }
def DualAnswersWrongFalsely : Prop := dualAnswersRow.holds Try.pinned (OpenSpec.ofChange dualAnswersWrong)

/-- 'octroilaw18.DualNumbers': WHATEVER THE INPUT: true; the input reads as it did. -/
def dualNumbersSpec : ChangeSpec := { name := "dualNumbers", fn := fun _ => fun
  | [d1, d2] => { results := [.lit (.bool true)], args := [d1, d2] }
  | _ => none }
def dualNumbersRow : OpenClaim := { program := "ytpeoholnlokdcaa", sum := "aba11e46d5fdcc9a3b9271bcd9eb98b1246dd94bf2b51125a27bfc5ccb1f9225", func := "octroi/octroilaw18.DualNumbers", spec := "dualNumbers", unfollowed := true, recurses := true, plainKeys := false, apart := false }
def DualNumbersSaid : Prop := dualNumbersRow.holds Try.pinned (OpenSpec.ofChange dualNumbersSpec)

/-- ITS FALSE NEIGHBOUR: 'it returns false'. Refute it at one input. -/
def dualNumbersWrong : ChangeSpec := { name := "dualNumbers", fn := fun _ => fun
  | [d1, d2] => { results := [.lit (.bool false)], args := [d1, d2] }
  | _ => none }
def DualNumbersWrongFalsely : Prop := dualNumbersRow.holds Try.pinned (OpenSpec.ofChange dualNumbersWrong)

/-- 'octroilaw18.DualFeasible': WHATEVER THE INPUT: true; the input reads as it did. -/
def dualFeasibleSpec : ChangeSpec := { name := "dualFeasible", fn := fun _ => fun
  | [d1, d2] => { results := [.lit (.bool true)], args := [d1, d2] }
  | _ => none }
def dualFeasibleRow : OpenClaim := { program := "ytpeoholnlokdcaa", sum := "aba11e46d5fdcc9a3b9271bcd9eb98b1246dd94bf2b51125a27bfc5ccb1f9225", func := "octroi/octroilaw18.DualFeasible", spec := "dualFeasible", unfollowed := true, recurses := true, plainKeys := false, apart := false }
def DualFeasibleSaid : Prop := dualFeasibleRow.holds Try.pinned (OpenSpec.ofChange dualFeasibleSpec)

/-- ITS FALSE NEIGHBOUR: 'it returns false'. Refute it at one input. -/
def dualFeasibleWrong : ChangeSpec := { name := "dualFeasible", fn := fun _ => fun
  | [d1, d2] => { results := [.lit (.bool false)], args := [d1, d2] }
  | _ => none }
def DualFeasibleWrongFalsely : Prop := dualFeasibleRow.holds Try.pinned (OpenSpec.ofChange dualFeasibleWrong)

/-- 'octroilaw18.DualWaits': WHATEVER THE INPUT: true; the input reads as it did. -/
def dualWaitsSpec : ChangeSpec := { name := "dualWaits", fn := fun _ => fun
  | [d1, d2, d3] => { results := [.lit (.bool true)], args := [d1, d2, d3] }
  | _ => none }
def dualWaitsRow : OpenClaim := { program := "ytpeoholnlokdcaa", sum := "aba11e46d5fdcc9a3b9271bcd9eb98b1246dd94bf2b51125a27bfc5ccb1f9225", func := "octroi/octroilaw18.DualWaits", spec := "dualWaits", unfollowed := true, recurses := true, plainKeys := false, apart := false }
def DualWaitsSaid : Prop := dualWaitsRow.holds Try.pinned (OpenSpec.ofChange dualWaitsSpec)

/-- ITS FALSE NEIGHBOUR: 'it returns false'. Refute it at one input. -/
def dualWaitsWrong : ChangeSpec := { name := "dualWaits", fn := fun _ => fun
  | [d1, d2, d3] => { results := [.lit (.bool false)], args := [d1, d2, d3] }
  | _ => none }
def DualWaitsWrongFalsely : Prop := dualWaitsRow.holds Try.pinned (OpenSpec.ofChange dualWaitsWrong)

/- THE SECOND FORM. 'bulk': how many values and letters a reading holds, each counted each time it is reached (what is shared counts as often as it is met; a slice's spare places count too). A statement '..UptoSaid' is the law's where the arguments, and the package variables that the reading takes, are together of bulk at most 1048576: NARROWER than '..Said'. Prove '..Said' where nothing that the law and all that it calls make is longer than what came in: it says more and counts as full. Else prove '..UptoSaid'. A law counts once. -/
mutual
def uptoBulk {H : Type} : DataW H → Nat
  | .lit (.string bytes) => bytes.length + 1
  | .lit _ => 1
  | .nil => 1
  | .ptr d => uptoBulk d + 1
  | .slice elems spare => uptoBulkAll elems + uptoBulkAll spare + 1
  | .agg parts => uptoBulkAll parts + 1
  | .iface _ d => uptoBulk d + 1
  | .map entries => uptoBulkEntries entries + 1
  | .held _ => 1
def uptoBulkAll {H : Type} : List (DataW H) → Nat
  | [] => 0
  | d :: r => uptoBulk d + uptoBulkAll r
def uptoBulkEntries {H : Type} : List (Lit × DataW H) → Nat
  | [] => 0
  | x :: r => uptoBulkEntry x + uptoBulkEntries r
def uptoBulkEntry {H : Type} : Lit × DataW H → Nat
  | (.string bytes, d) => bytes.length + uptoBulk d + 1
  | (_, d) => uptoBulk d + 1
 end
def uptoSmall : (H : Type) → List (DataW H) → Bool := fun _ ds => decide (uptoBulkAll ds ≤ 1048576)
def OpenSpec.upto (s : _root_.Go.ChangeSpec) : _root_.Go.OpenSpec := { _root_.Go.OpenSpec.ofChange s with cond := some uptoSmall }

/-- 'octroilaw18.DualBest', WHERE WHAT IT READS IS OF BULK AT MOST 1048576: true; the input reads as it did. -/
def dualBestUptoRow : OpenClaim := { program := "ytpeoholnlokdcaa", sum := "aba11e46d5fdcc9a3b9271bcd9eb98b1246dd94bf2b51125a27bfc5ccb1f9225", func := "octroi/octroilaw18.DualBest", spec := "dualBest", unfollowed := true, recurses := true, plainKeys := false, apart := false, narrowed := true }
def DualBestUptoSaid : Prop := dualBestUptoRow.holds Try.pinned (OpenSpec.upto dualBestSpec)

/-- 'octroilaw18.DualAsks', WHERE WHAT IT READS IS OF BULK AT MOST 1048576: true; the input reads as it did. -/
def dualAsksUptoRow : OpenClaim := { program := "ytpeoholnlokdcaa", sum := "aba11e46d5fdcc9a3b9271bcd9eb98b1246dd94bf2b51125a27bfc5ccb1f9225", func := "octroi/octroilaw18.DualAsks", spec := "dualAsks", unfollowed := true, recurses := true, plainKeys := false, apart := false, narrowed := true }
def DualAsksUptoSaid : Prop := dualAsksUptoRow.holds Try.pinned (OpenSpec.upto dualAsksSpec)

/-- 'octroilaw18.DualAnswers', WHERE WHAT IT READS IS OF BULK AT MOST 1048576: true; the input reads as it did. -/
def dualAnswersUptoRow : OpenClaim := { program := "ytpeoholnlokdcaa", sum := "aba11e46d5fdcc9a3b9271bcd9eb98b1246dd94bf2b51125a27bfc5ccb1f9225", func := "octroi/octroilaw18.DualAnswers", spec := "dualAnswers", unfollowed := true, recurses := true, plainKeys := false, apart := false, narrowed := true }
def DualAnswersUptoSaid : Prop := dualAnswersUptoRow.holds Try.pinned (OpenSpec.upto dualAnswersSpec)

/-- 'octroilaw18.DualNumbers', WHERE WHAT IT READS IS OF BULK AT MOST 1048576: true; the input reads as it did. -/
def dualNumbersUptoRow : OpenClaim := { program := "ytpeoholnlokdcaa", sum := "aba11e46d5fdcc9a3b9271bcd9eb98b1246dd94bf2b51125a27bfc5ccb1f9225", func := "octroi/octroilaw18.DualNumbers", spec := "dualNumbers", unfollowed := true, recurses := true, plainKeys := false, apart := false, narrowed := true }
def DualNumbersUptoSaid : Prop := dualNumbersUptoRow.holds Try.pinned (OpenSpec.upto dualNumbersSpec)

/-- 'octroilaw18.DualFeasible', WHERE WHAT IT READS IS OF BULK AT MOST 1048576: true; the input reads as it did. -/
def dualFeasibleUptoRow : OpenClaim := { program := "ytpeoholnlokdcaa", sum := "aba11e46d5fdcc9a3b9271bcd9eb98b1246dd94bf2b51125a27bfc5ccb1f9225", func := "octroi/octroilaw18.DualFeasible", spec := "dualFeasible", unfollowed := true, recurses := true, plainKeys := false, apart := false, narrowed := true }
def DualFeasibleUptoSaid : Prop := dualFeasibleUptoRow.holds Try.pinned (OpenSpec.upto dualFeasibleSpec)

/-- 'octroilaw18.DualWaits', WHERE WHAT IT READS IS OF BULK AT MOST 1048576: true; the input reads as it did. -/
def dualWaitsUptoRow : OpenClaim := { program := "ytpeoholnlokdcaa", sum := "aba11e46d5fdcc9a3b9271bcd9eb98b1246dd94bf2b51125a27bfc5ccb1f9225", func := "octroi/octroilaw18.DualWaits", spec := "dualWaits", unfollowed := true, recurses := true, plainKeys := false, apart := false, narrowed := true }
def DualWaitsUptoSaid : Prop := dualWaitsUptoRow.holds Try.pinned (OpenSpec.upto dualWaitsSpec)

end Rows
end Go.Proofs.Ytpeoholnlokdcaa
