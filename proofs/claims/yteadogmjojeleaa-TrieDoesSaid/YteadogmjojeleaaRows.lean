/-
  No cell of these rows narrows 'for every input' (looked for: loops, veiled, ifaces, maps, wideKeys, modest, calm, conditions, laid).
  DERIVED. THE GIVEN ROWS OF THIS SEAT. 6 by the template 'for every input the law returns true; each argument reads behind the call as it read before'; 0 by the template 'total and deterministic' (their statements: YteadogmjojeleaaTotals.lean).
  GIVEN WITH THE SEED: the statements are not yours to turn. If you find one false, say at which input.
  Laid BY PROGRAM, IN A SANDBOX (cutbox-rows.mjs): the forced cells as the released guide's own fill.sh prints them over the translation 3cace243964de014… (all of the seat's roots in one cut). By AI agents, Wed Nov 11 2026. No macro, syntax, notation, axiom, sorry.
-/
import Derived.Test.YteadogmjojeleaaChecked
import GoSem.Claim
import GoSem.ClaimJoined
import GoSem.ClaimMapViews
import Derived.JoinedTies
import Derived.KernelRfl
namespace Go.Proofs.Yteadogmjojeleaa
/- THE CELL 'sum', in the pinned program and in every row, IS THE sha256 OF THE DUMP (.gsa) THAT YteadogmjojeleaaProg.lean LOADS. Nothing in Lean hashes anything: it is a label: what it is worth is what the hold of that sum in a sandbox is worth. -/
noncomputable def Try.pinned : Pinned := { name := "yteadogmjojeleaa", sum := "3cace243964de01441945264f55128ddd616eb589b787baea930316bb44d85a0", checked := Try.checked }
namespace Rows
def none {H : Type} : Left H := { results := [], args := [] }

/-- 'octroilaw08.TrieRoot': WHATEVER THE INPUT: true; the input reads as it did. -/
def trieRootSpec : ChangeSpec := { name := "trieRoot", fn := fun _ => fun
  | [d1, d2, d3] => { results := [.lit (.bool true)], args := [d1, d2, d3] }
  | _ => none }
def trieRootRow : OpenClaim := { program := "yteadogmjojeleaa", sum := "3cace243964de01441945264f55128ddd616eb589b787baea930316bb44d85a0", func := "octroi/octroilaw08.TrieRoot", spec := "trieRoot", apart := false }
def TrieRootSaid : Prop := trieRootRow.holds Try.pinned (OpenSpec.ofChange trieRootSpec)

/-- ITS FALSE NEIGHBOUR: 'it returns false'. Refute it at one input. -/
def trieRootWrong : ChangeSpec := { name := "trieRoot", fn := fun _ => fun
  | [d1, d2, d3] => { results := [.lit (.bool false)], args := [d1, d2, d3] }
  | _ => none }
def TrieRootWrongFalsely : Prop := trieRootRow.holds Try.pinned (OpenSpec.ofChange trieRootWrong)

/-- 'octroilaw08.TrieOrder': WHATEVER THE INPUT: true; the input reads as it did. -/
def trieOrderSpec : ChangeSpec := { name := "trieOrder", fn := fun _ => fun
  | [d1, d2] => { results := [.lit (.bool true)], args := [d1, d2] }
  | _ => none }
def trieOrderRow : OpenClaim := { program := "yteadogmjojeleaa", sum := "3cace243964de01441945264f55128ddd616eb589b787baea930316bb44d85a0", func := "octroi/octroilaw08.TrieOrder", spec := "trieOrder", recurses := true, apart := false }
def TrieOrderSaid : Prop := trieOrderRow.holds Try.pinned (OpenSpec.ofChange trieOrderSpec)

/-- ITS FALSE NEIGHBOUR: 'it returns false'. Refute it at one input. -/
def trieOrderWrong : ChangeSpec := { name := "trieOrder", fn := fun _ => fun
  | [d1, d2] => { results := [.lit (.bool false)], args := [d1, d2] }
  | _ => none }
def TrieOrderWrongFalsely : Prop := trieOrderRow.holds Try.pinned (OpenSpec.ofChange trieOrderWrong)

/-- 'octroilaw08.TrieBack': WHATEVER THE INPUT: true; the input reads as it did. -/
def trieBackSpec : ChangeSpec := { name := "trieBack", fn := fun _ => fun
  | [d1, d2, d3, d4] => { results := [.lit (.bool true)], args := [d1, d2, d3, d4] }
  | _ => none }
def trieBackRow : OpenClaim := { program := "yteadogmjojeleaa", sum := "3cace243964de01441945264f55128ddd616eb589b787baea930316bb44d85a0", func := "octroi/octroilaw08.TrieBack", spec := "trieBack", apart := false }
def TrieBackSaid : Prop := trieBackRow.holds Try.pinned (OpenSpec.ofChange trieBackSpec)

/-- ITS FALSE NEIGHBOUR: 'it returns false'. Refute it at one input. -/
def trieBackWrong : ChangeSpec := { name := "trieBack", fn := fun _ => fun
  | [d1, d2, d3, d4] => { results := [.lit (.bool false)], args := [d1, d2, d3, d4] }
  | _ => none }
def TrieBackWrongFalsely : Prop := trieBackRow.holds Try.pinned (OpenSpec.ofChange trieBackWrong)

/-- 'octroilaw08.TrieEmpty': WHATEVER THE INPUT: true; the input reads as it did. -/
def trieEmptySpec : ChangeSpec := { name := "trieEmpty", fn := fun _ => fun
  | [d1, d2, d3] => { results := [.lit (.bool true)], args := [d1, d2, d3] }
  | _ => none }
def trieEmptyRow : OpenClaim := { program := "yteadogmjojeleaa", sum := "3cace243964de01441945264f55128ddd616eb589b787baea930316bb44d85a0", func := "octroi/octroilaw08.TrieEmpty", spec := "trieEmpty", recurses := true, apart := false }
def TrieEmptySaid : Prop := trieEmptyRow.holds Try.pinned (OpenSpec.ofChange trieEmptySpec)

/-- ITS FALSE NEIGHBOUR: 'it returns false'. Refute it at one input. -/
def trieEmptyWrong : ChangeSpec := { name := "trieEmpty", fn := fun _ => fun
  | [d1, d2, d3] => { results := [.lit (.bool false)], args := [d1, d2, d3] }
  | _ => none }
def TrieEmptyWrongFalsely : Prop := trieEmptyRow.holds Try.pinned (OpenSpec.ofChange trieEmptyWrong)

/-- 'octroilaw08.TrieDoes': WHATEVER THE INPUT: true; the input reads as it did. -/
def trieDoesSpec : ChangeSpec := { name := "trieDoes", fn := fun _ => fun
  | [d1, d2] => { results := [.lit (.bool true)], args := [d1, d2] }
  | _ => none }
def trieDoesRow : OpenClaim := { program := "yteadogmjojeleaa", sum := "3cace243964de01441945264f55128ddd616eb589b787baea930316bb44d85a0", func := "octroi/octroilaw08.TrieDoes", spec := "trieDoes", recurses := true, apart := false }
def TrieDoesSaid : Prop := trieDoesRow.holds Try.pinned (OpenSpec.ofChange trieDoesSpec)

/-- ITS FALSE NEIGHBOUR: 'it returns false'. Refute it at one input. -/
def trieDoesWrong : ChangeSpec := { name := "trieDoes", fn := fun _ => fun
  | [d1, d2] => { results := [.lit (.bool false)], args := [d1, d2] }
  | _ => none }
def TrieDoesWrongFalsely : Prop := trieDoesRow.holds Try.pinned (OpenSpec.ofChange trieDoesWrong)

/-- 'octroilaw08.TrieLongest': WHATEVER THE INPUT: true; the input reads as it did. -/
def trieLongestSpec : ChangeSpec := { name := "trieLongest", fn := fun _ => fun
  | [d1, d2, d3] => { results := [.lit (.bool true)], args := [d1, d2, d3] }
  | _ => none }
def trieLongestRow : OpenClaim := { program := "yteadogmjojeleaa", sum := "3cace243964de01441945264f55128ddd616eb589b787baea930316bb44d85a0", func := "octroi/octroilaw08.TrieLongest", spec := "trieLongest", recurses := true, apart := false }
def TrieLongestSaid : Prop := trieLongestRow.holds Try.pinned (OpenSpec.ofChange trieLongestSpec)

/-- ITS FALSE NEIGHBOUR: 'it returns false'. Refute it at one input. -/
def trieLongestWrong : ChangeSpec := { name := "trieLongest", fn := fun _ => fun
  | [d1, d2, d3] => { results := [.lit (.bool false)], args := [d1, d2, d3] }
  | _ => none }
def TrieLongestWrongFalsely : Prop := trieLongestRow.holds Try.pinned (OpenSpec.ofChange trieLongestWrong)

/- THE SECOND FORM. 'bulk': how many values and letters a reading holds, each counted each time it is reached (what is shared counts as often as it is met; a slice's spare places count too). A statement '..UptoSaid' is the law's where the arguments, and the package variables that the reading takes, are together of bulk at most 1048576: NARROWER than '..Said'. Prove '..Said' where nothing that the law and all that it calls make is longer than what came in: it says more and counts as full. Else prove '..UptoSaid'. A law counts once. -/
mutual
def uptoBulk {H : Type} : DataW H → Nat
  | .lit (.string bytes) => bytes.length + 1
  | .lit _ => 1
  | .nil => 1
  | .ptr d => uptoBulk d + 1
  | .slice elems spare => uptoBulkAll elems + uptoBulkAll spare + 1
  | .agg parts => uptoBulkAll parts + 1
  | .iface _ d => uptoBulk d + 1
  | .map entries => uptoBulkEntries entries + 1
  | .held _ => 1
def uptoBulkAll {H : Type} : List (DataW H) → Nat
  | [] => 0
  | d :: r => uptoBulk d + uptoBulkAll r
def uptoBulkEntries {H : Type} : List (Lit × DataW H) → Nat
  | [] => 0
  | x :: r => uptoBulkEntry x + uptoBulkEntries r
def uptoBulkEntry {H : Type} : Lit × DataW H → Nat
  | (.string bytes, d) => bytes.length + uptoBulk d + 1
  | (_, d) => uptoBulk d + 1
 end
def uptoSmall : (H : Type) → List (DataW H) → Bool := fun _ ds => decide (uptoBulkAll ds ≤ 1048576)
def OpenSpec.upto (s : _root_.Go.ChangeSpec) : _root_.Go.OpenSpec := { _root_.Go.OpenSpec.ofChange s with cond := some uptoSmall }

/-- 'octroilaw08.TrieRoot', WHERE WHAT IT READS IS OF BULK AT MOST 1048576: true; the input reads as it did. -/
def trieRootUptoRow : OpenClaim := { program := "yteadogmjojeleaa", sum := "3cace243964de01441945264f55128ddd616eb589b787baea930316bb44d85a0", func := "octroi/octroilaw08.TrieRoot", spec := "trieRoot", apart := false, narrowed := true }
def TrieRootUptoSaid : Prop := trieRootUptoRow.holds Try.pinned (OpenSpec.upto trieRootSpec)

/-- 'octroilaw08.TrieOrder', WHERE WHAT IT READS IS OF BULK AT MOST 1048576: true; the input reads as it did. -/
def trieOrderUptoRow : OpenClaim := { program := "yteadogmjojeleaa", sum := "3cace243964de01441945264f55128ddd616eb589b787baea930316bb44d85a0", func := "octroi/octroilaw08.TrieOrder", spec := "trieOrder", recurses := true, apart := false, narrowed := true }
def TrieOrderUptoSaid : Prop := trieOrderUptoRow.holds Try.pinned (OpenSpec.upto trieOrderSpec)

/-- 'octroilaw08.TrieBack', WHERE WHAT IT READS IS OF BULK AT MOST 1048576: true; the input reads as it did. -/
def trieBackUptoRow : OpenClaim := { program := "yteadogmjojeleaa", sum := "3cace243964de01441945264f55128ddd616eb589b787baea930316bb44d85a0", func := "octroi/octroilaw08.TrieBack", spec := "trieBack", apart := false, narrowed := true }
def TrieBackUptoSaid : Prop := trieBackUptoRow.holds Try.pinned (OpenSpec.upto trieBackSpec)

/-- 'octroilaw08.TrieEmpty', WHERE WHAT IT READS IS OF BULK AT MOST 1048576: true; the input reads as it did. -/
def trieEmptyUptoRow : OpenClaim := { program := "yteadogmjojeleaa", sum := "3cace243964de01441945264f55128ddd616eb589b787baea930316bb44d85a0", func := "octroi/octroilaw08.TrieEmpty", spec := "trieEmpty", recurses := true, apart := false, narrowed := true }
def TrieEmptyUptoSaid : Prop := trieEmptyUptoRow.holds Try.pinned (OpenSpec.upto trieEmptySpec)

/-- 'octroilaw08.TrieDoes', WHERE WHAT IT READS IS OF BULK AT MOST 1048576: true; the input reads as it did. -/
def trieDoesUptoRow : OpenClaim := { program := "yteadogmjojeleaa", sum := "3cace243964de01441945264f55128ddd616eb589b787baea930316bb44d85a0", func := "octroi/octroilaw08.TrieDoes", spec := "trieDoes", recurses := true, apart := false, narrowed := true }
def TrieDoesUptoSaid : Prop := trieDoesUptoRow.holds Try.pinned (OpenSpec.upto trieDoesSpec)

/-- 'octroilaw08.TrieLongest', WHERE WHAT IT READS IS OF BULK AT MOST 1048576: true; the input reads as it did. -/
def trieLongestUptoRow : OpenClaim := { program := "yteadogmjojeleaa", sum := "3cace243964de01441945264f55128ddd616eb589b787baea930316bb44d85a0", func := "octroi/octroilaw08.TrieLongest", spec := "trieLongest", recurses := true, apart := false, narrowed := true }
def TrieLongestUptoSaid : Prop := trieLongestUptoRow.holds Try.pinned (OpenSpec.upto trieLongestSpec)

end Rows
end Go.Proofs.Yteadogmjojeleaa
