/-
  No cell of these rows narrows 'for every input' (looked for: loops, veiled, ifaces, maps, wideKeys, modest, calm, conditions, laid).
  DERIVED. THE GIVEN ROWS OF THIS SEAT. 6 by the template 'for every input the law returns true; each argument reads behind the call as it read before'; 0 by the template 'total and deterministic' (their statements: YtjcecdjbllpmcaaTotals.lean).
  GIVEN WITH THE SEED: the statements are not yours to turn. If you find one false, say at which input.
  Laid BY PROGRAM, IN A SANDBOX (cutbox-rows.mjs): the forced cells as the released guide's own fill.sh prints them over the translation 205e256f8f8f2fce… (all of the seat's roots in one cut). By AI agents, Wed Nov 11 2026. No macro, syntax, notation, axiom, sorry.
-/
import Derived.Test.YtjcecdjbllpmcaaChecked
import GoSem.Claim
import GoSem.ClaimJoined
import GoSem.ClaimMapViews
import Derived.JoinedTies
import Derived.KernelRfl
namespace Go.Proofs.Ytjcecdjbllpmcaa
/- THE CELL 'sum', in the pinned program and in every row, IS THE sha256 OF THE DUMP (.gsa) THAT YtjcecdjbllpmcaaProg.lean LOADS. Nothing in Lean hashes anything: it is a label: what it is worth is what the hold of that sum in a sandbox is worth. -/
noncomputable def Try.pinned : Pinned := { name := "ytjcecdjbllpmcaa", sum := "205e256f8f8f2fce80429770f849dad87e6038a8e75d9a4f6e50e8f3be5cbf45", checked := Try.checked }
namespace Rows
def none {H : Type} : Left H := { results := [], args := [] }

/-- 'octroilaw12.JournalLast': WHATEVER THE INPUT: true; the input reads as it did. -/
def journalLastSpec : ChangeSpec := { name := "journalLast", fn := fun _ => fun
  | [d1, d2, d3, d4] => { results := [.lit (.bool true)], args := [d1, d2, d3, d4] }
  | _ => none }
def journalLastRow : OpenClaim := { program := "ytjcecdjbllpmcaa", sum := "205e256f8f8f2fce80429770f849dad87e6038a8e75d9a4f6e50e8f3be5cbf45", func := "octroi/octroilaw12.JournalLast", spec := "journalLast", plainKeys := false, apart := false }
def JournalLastSaid : Prop := journalLastRow.holds Try.pinned (OpenSpec.ofChange journalLastSpec)

/-- ITS FALSE NEIGHBOUR: 'it returns false'. Refute it at one input. -/
def journalLastWrong : ChangeSpec := { name := "journalLast", fn := fun _ => fun
  | [d1, d2, d3, d4] => { results := [.lit (.bool false)], args := [d1, d2, d3, d4] }
  | _ => none }
def JournalLastWrongFalsely : Prop := journalLastRow.holds Try.pinned (OpenSpec.ofChange journalLastWrong)

/-- 'octroilaw12.JournalSyncs': WHATEVER THE INPUT: true; the input reads as it did. -/
def journalSyncsSpec : ChangeSpec := { name := "journalSyncs", fn := fun _ => fun
  | [d1, d2, d3] => { results := [.lit (.bool true)], args := [d1, d2, d3] }
  | _ => none }
def journalSyncsRow : OpenClaim := { program := "ytjcecdjbllpmcaa", sum := "205e256f8f8f2fce80429770f849dad87e6038a8e75d9a4f6e50e8f3be5cbf45", func := "octroi/octroilaw12.JournalSyncs", spec := "journalSyncs", plainKeys := false, apart := false }
def JournalSyncsSaid : Prop := journalSyncsRow.holds Try.pinned (OpenSpec.ofChange journalSyncsSpec)

/-- ITS FALSE NEIGHBOUR: 'it returns false'. Refute it at one input. -/
def journalSyncsWrong : ChangeSpec := { name := "journalSyncs", fn := fun _ => fun
  | [d1, d2, d3] => { results := [.lit (.bool false)], args := [d1, d2, d3] }
  | _ => none }
def JournalSyncsWrongFalsely : Prop := journalSyncsRow.holds Try.pinned (OpenSpec.ofChange journalSyncsWrong)

/-- 'octroilaw12.JournalFull': WHATEVER THE INPUT: true; the input reads as it did. -/
def journalFullSpec : ChangeSpec := { name := "journalFull", fn := fun _ => fun
  | [d1, d2, d3] => { results := [.lit (.bool true)], args := [d1, d2, d3] }
  | _ => none }
def journalFullRow : OpenClaim := { program := "ytjcecdjbllpmcaa", sum := "205e256f8f8f2fce80429770f849dad87e6038a8e75d9a4f6e50e8f3be5cbf45", func := "octroi/octroilaw12.JournalFull", spec := "journalFull", unfollowed := true, recurses := true, plainKeys := false, apart := false }
def JournalFullSaid : Prop := journalFullRow.holds Try.pinned (OpenSpec.ofChange journalFullSpec)

/-- ITS FALSE NEIGHBOUR: 'it returns false'. Refute it at one input. -/
def journalFullWrong : ChangeSpec := { name := "journalFull", fn := fun _ => fun
  | [d1, d2, d3] => { results := [.lit (.bool false)], args := [d1, d2, d3] }
  | _ => none }
def JournalFullWrongFalsely : Prop := journalFullRow.holds Try.pinned (OpenSpec.ofChange journalFullWrong)

/-- 'octroilaw12.JournalLasts': WHATEVER THE INPUT: true; the input reads as it did. -/
def journalLastsSpec : ChangeSpec := { name := "journalLasts", fn := fun _ => fun
  | [d1, d2, d3] => { results := [.lit (.bool true)], args := [d1, d2, d3] }
  | _ => none }
def journalLastsRow : OpenClaim := { program := "ytjcecdjbllpmcaa", sum := "205e256f8f8f2fce80429770f849dad87e6038a8e75d9a4f6e50e8f3be5cbf45", func := "octroi/octroilaw12.JournalLasts", spec := "journalLasts", unfollowed := true, recurses := true, plainKeys := false, apart := false }
def JournalLastsSaid : Prop := journalLastsRow.holds Try.pinned (OpenSpec.ofChange journalLastsSpec)

/-- ITS FALSE NEIGHBOUR: 'it returns false'. Refute it at one input. -/
def journalLastsWrong : ChangeSpec := { name := "journalLasts", fn := fun _ => fun
  | [d1, d2, d3] => { results := [.lit (.bool false)], args := [d1, d2, d3] }
  | _ => none }
def JournalLastsWrongFalsely : Prop := journalLastsRow.holds Try.pinned (OpenSpec.ofChange journalLastsWrong)

/-- 'octroilaw12.JournalDoes': WHATEVER THE INPUT: true; the input reads as it did. -/
def journalDoesSpec : ChangeSpec := { name := "journalDoes", fn := fun _ => fun
  | [d1, d2] => { results := [.lit (.bool true)], args := [d1, d2] }
  | _ => none }
def journalDoesRow : OpenClaim := { program := "ytjcecdjbllpmcaa", sum := "205e256f8f8f2fce80429770f849dad87e6038a8e75d9a4f6e50e8f3be5cbf45", func := "octroi/octroilaw12.JournalDoes", spec := "journalDoes", unfollowed := true, recurses := true, plainKeys := false, apart := false }
def JournalDoesSaid : Prop := journalDoesRow.holds Try.pinned (OpenSpec.ofChange journalDoesSpec)

/-- ITS FALSE NEIGHBOUR: 'it returns false'. Refute it at one input. -/
def journalDoesWrong : ChangeSpec := { name := "journalDoes", fn := fun _ => fun
  | [d1, d2] => { results := [.lit (.bool false)], args := [d1, d2] }
  | _ => none }
def JournalDoesWrongFalsely : Prop := journalDoesRow.holds Try.pinned (OpenSpec.ofChange journalDoesWrong)

/-- 'octroilaw12.JournalPacks': WHATEVER THE INPUT: true; the input reads as it did. -/
def journalPacksSpec : ChangeSpec := { name := "journalPacks", fn := fun _ => fun
  | [d1, d2] => { results := [.lit (.bool true)], args := [d1, d2] }
  | _ => none }
def journalPacksRow : OpenClaim := { program := "ytjcecdjbllpmcaa", sum := "205e256f8f8f2fce80429770f849dad87e6038a8e75d9a4f6e50e8f3be5cbf45", func := "octroi/octroilaw12.JournalPacks", spec := "journalPacks", unfollowed := true, recurses := true, plainKeys := false, apart := false }
def JournalPacksSaid : Prop := journalPacksRow.holds Try.pinned (OpenSpec.ofChange journalPacksSpec)

/-- ITS FALSE NEIGHBOUR: 'it returns false'. Refute it at one input. -/
def journalPacksWrong : ChangeSpec := { name := "journalPacks", fn := fun _ => fun
  | [d1, d2] => { results := [.lit (.bool false)], args := [d1, d2] }
  | _ => none }
def JournalPacksWrongFalsely : Prop := journalPacksRow.holds Try.pinned (OpenSpec.ofChange journalPacksWrong)

/- THE SECOND FORM. 'bulk': how many values and letters a reading holds, each counted each time it is reached (what is shared counts as often as it is met; a slice's spare places count too). A statement '..UptoSaid' is the law's where the arguments, and the package variables that the reading takes, are together of bulk at most 1048576: NARROWER than '..Said'. Prove '..Said' where nothing that the law and all that it calls make is longer than what came in: it says more and counts as full. Else prove '..UptoSaid'. A law counts once. -/
mutual
def uptoBulk {H : Type} : DataW H → Nat
  | .lit (.string bytes) => bytes.length + 1
  | .lit _ => 1
  | .nil => 1
  | .ptr d => uptoBulk d + 1
  | .slice elems spare => uptoBulkAll elems + uptoBulkAll spare + 1
  | .agg parts => uptoBulkAll parts + 1
  | .iface _ d => uptoBulk d + 1
  | .map entries => uptoBulkEntries entries + 1
  | .held _ => 1
def uptoBulkAll {H : Type} : List (DataW H) → Nat
  | [] => 0
  | d :: r => uptoBulk d + uptoBulkAll r
def uptoBulkEntries {H : Type} : List (Lit × DataW H) → Nat
  | [] => 0
  | x :: r => uptoBulkEntry x + uptoBulkEntries r
def uptoBulkEntry {H : Type} : Lit × DataW H → Nat
  | (.string bytes, d) => bytes.length + uptoBulk d + 1
  | (_, d) => uptoBulk d + 1
 end
def uptoSmall : (H : Type) → List (DataW H) → Bool := fun _ ds => decide (uptoBulkAll ds ≤ 1048576)
def OpenSpec.upto (s : _root_.Go.ChangeSpec) : _root_.Go.OpenSpec := { _root_.Go.OpenSpec.ofChange s with cond := some uptoSmall }

/-- 'octroilaw12.JournalLast', WHERE WHAT IT READS IS OF BULK AT MOST 1048576: true; the input reads as it did. -/
def journalLastUptoRow : OpenClaim := { program := "ytjcecdjbllpmcaa", sum := "205e256f8f8f2fce80429770f849dad87e6038a8e75d9a4f6e50e8f3be5cbf45", func := "octroi/octroilaw12.JournalLast", spec := "journalLast", plainKeys := false, apart := false, narrowed := true }
def JournalLastUptoSaid : Prop := journalLastUptoRow.holds Try.pinned (OpenSpec.upto journalLastSpec)

/-- 'octroilaw12.JournalSyncs', WHERE WHAT IT READS IS OF BULK AT MOST 1048576: true; the input reads as it did. -/
def journalSyncsUptoRow : OpenClaim := { program := "ytjcecdjbllpmcaa", sum := "205e256f8f8f2fce80429770f849dad87e6038a8e75d9a4f6e50e8f3be5cbf45", func := "octroi/octroilaw12.JournalSyncs", spec := "journalSyncs", plainKeys := false, apart := false, narrowed := true }
def JournalSyncsUptoSaid : Prop := journalSyncsUptoRow.holds Try.pinned (OpenSpec.upto journalSyncsSpec)

/-- 'octroilaw12.JournalFull', WHERE WHAT IT READS IS OF BULK AT MOST 1048576: true; the input reads as it did. -/
def journalFullUptoRow : OpenClaim := { program := "ytjcecdjbllpmcaa", sum := "205e256f8f8f2fce80429770f849dad87e6038a8e75d9a4f6e50e8f3be5cbf45", func := "octroi/octroilaw12.JournalFull", spec := "journalFull", unfollowed := true, recurses := true, plainKeys := false, apart := false, narrowed := true }
def JournalFullUptoSaid : Prop := journalFullUptoRow.holds Try.pinned (OpenSpec.upto journalFullSpec)

/-- 'octroilaw12.JournalLasts', WHERE WHAT IT READS IS OF BULK AT MOST 1048576: true; the input reads as it did. -/
def journalLastsUptoRow : OpenClaim := { program := "ytjcecdjbllpmcaa", sum := "205e256f8f8f2fce80429770f849dad87e6038a8e75d9a4f6e50e8f3be5cbf45", func := "octroi/octroilaw12.JournalLasts", spec := "journalLasts", unfollowed := true, recurses := true, plainKeys := false, apart := false, narrowed := true }
def JournalLastsUptoSaid : Prop := journalLastsUptoRow.holds Try.pinned (OpenSpec.upto journalLastsSpec)

/-- 'octroilaw12.JournalDoes', WHERE WHAT IT READS IS OF BULK AT MOST 1048576: true; the input reads as it did. -/
def journalDoesUptoRow : OpenClaim := { program := "ytjcecdjbllpmcaa", sum := "205e256f8f8f2fce80429770f849dad87e6038a8e75d9a4f6e50e8f3be5cbf45", func := "octroi/octroilaw12.JournalDoes", spec := "journalDoes", unfollowed := true, recurses := true, plainKeys := false, apart := false, narrowed := true }
def JournalDoesUptoSaid : Prop := journalDoesUptoRow.holds Try.pinned (OpenSpec.upto journalDoesSpec)

/-- 'octroilaw12.JournalPacks', WHERE WHAT IT READS IS OF BULK AT MOST 1048576: true; the input reads as it did. -/
def journalPacksUptoRow : OpenClaim := { program := "ytjcecdjbllpmcaa", sum := "205e256f8f8f2fce80429770f849dad87e6038a8e75d9a4f6e50e8f3be5cbf45", func := "octroi/octroilaw12.JournalPacks", spec := "journalPacks", unfollowed := true, recurses := true, plainKeys := false, apart := false, narrowed := true }
def JournalPacksUptoSaid : Prop := journalPacksUptoRow.holds Try.pinned (OpenSpec.upto journalPacksSpec)

end Rows
end Go.Proofs.Ytjcecdjbllpmcaa
