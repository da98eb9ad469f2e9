/-
  No cell of these rows narrows 'for every input' (looked for: loops, veiled, ifaces, maps, wideKeys, modest, calm, conditions, laid).
  DERIVED. THE GIVEN ROWS OF THIS SEAT. 5 by the template 'for every input the law returns true; each argument reads behind the call as it read before'; 0 by the template 'total and deterministic' (their statements: YtffbhbjnkecieaaTotals.lean).
  GIVEN WITH THE SEED: the statements are not yours to turn. If you find one false, say at which input.
  Laid BY PROGRAM, IN A SANDBOX (cutbox-rows.mjs): the forced cells as the released guide's own fill.sh prints them over the translation baf614271556099c… (all of the seat's roots in one cut). By AI agents, Wed Nov 11 2026. No macro, syntax, notation, axiom, sorry.
-/
import Derived.Test.YtffbhbjnkecieaaChecked
import GoSem.Claim
import GoSem.ClaimJoined
import GoSem.ClaimMapViews
import Derived.JoinedTies
import Derived.KernelRfl
namespace Go.Proofs.Ytffbhbjnkecieaa
/- THE CELL 'sum', in the pinned program and in every row, IS THE sha256 OF THE DUMP (.gsa) THAT YtffbhbjnkecieaaProg.lean LOADS. Nothing in Lean hashes anything: it is a label: what it is worth is what the hold of that sum in a sandbox is worth. -/
noncomputable def Try.pinned : Pinned := { name := "ytffbhbjnkecieaa", sum := "baf614271556099c65c42d5fc6b9b3f5f9eb41d1a0d76102f5b3bf53f8abf711", checked := Try.checked }
namespace Rows
def none {H : Type} : Left H := { results := [], args := [] }

/-- 'undertowlaw08.AluResults': WHATEVER THE INPUT: true; the input reads as it did. -/
def aluResultsSpec : ChangeSpec := { name := "aluResults", fn := fun _ => fun
  | [d1, d2, d3, d4] => { results := [.lit (.bool true)], args := [d1, d2, d3, d4] }
  | _ => none }
def aluResultsRow : OpenClaim := { program := "ytffbhbjnkecieaa", sum := "baf614271556099c65c42d5fc6b9b3f5f9eb41d1a0d76102f5b3bf53f8abf711", func := "undertow/undertowlaw08.AluResults", spec := "aluResults", apart := false }
def AluResultsSaid : Prop := aluResultsRow.holds Try.pinned (OpenSpec.ofChange aluResultsSpec)

/-- ITS FALSE NEIGHBOUR: 'it returns false'. Refute it at one input. -/
def aluResultsWrong : ChangeSpec := { name := "aluResults", fn := fun _ => fun
  | [d1, d2, d3, d4] => { results := [.lit (.bool false)], args := [d1, d2, d3, d4] }
  | _ => none }
def AluResultsWrongFalsely : Prop := aluResultsRow.holds Try.pinned (OpenSpec.ofChange aluResultsWrong)

/-- 'undertowlaw08.AluNext': WHATEVER THE INPUT: true; the input reads as it did. -/
def aluNextSpec : ChangeSpec := { name := "aluNext", fn := fun _ => fun
  | [d1, d2, d3, d4] => { results := [.lit (.bool true)], args := [d1, d2, d3, d4] }
  | _ => none }
def aluNextRow : OpenClaim := { program := "ytffbhbjnkecieaa", sum := "baf614271556099c65c42d5fc6b9b3f5f9eb41d1a0d76102f5b3bf53f8abf711", func := "undertow/undertowlaw08.AluNext", spec := "aluNext", apart := false }
def AluNextSaid : Prop := aluNextRow.holds Try.pinned (OpenSpec.ofChange aluNextSpec)

/-- ITS FALSE NEIGHBOUR: 'it returns false'. Refute it at one input. -/
def aluNextWrong : ChangeSpec := { name := "aluNext", fn := fun _ => fun
  | [d1, d2, d3, d4] => { results := [.lit (.bool false)], args := [d1, d2, d3, d4] }
  | _ => none }
def AluNextWrongFalsely : Prop := aluNextRow.holds Try.pinned (OpenSpec.ofChange aluNextWrong)

/-- 'undertowlaw08.AluMemory': WHATEVER THE INPUT: true; the input reads as it did. -/
def aluMemorySpec : ChangeSpec := { name := "aluMemory", fn := fun _ => fun
  | [d1, d2, d3, d4] => { results := [.lit (.bool true)], args := [d1, d2, d3, d4] }
  | _ => none }
def aluMemoryRow : OpenClaim := { program := "ytffbhbjnkecieaa", sum := "baf614271556099c65c42d5fc6b9b3f5f9eb41d1a0d76102f5b3bf53f8abf711", func := "undertow/undertowlaw08.AluMemory", spec := "aluMemory", apart := false }
def AluMemorySaid : Prop := aluMemoryRow.holds Try.pinned (OpenSpec.ofChange aluMemorySpec)

/-- ITS FALSE NEIGHBOUR: 'it returns false'. Refute it at one input. -/
def aluMemoryWrong : ChangeSpec := { name := "aluMemory", fn := fun _ => fun
  | [d1, d2, d3, d4] => { results := [.lit (.bool false)], args := [d1, d2, d3, d4] }
  | _ => none }
def AluMemoryWrongFalsely : Prop := aluMemoryRow.holds Try.pinned (OpenSpec.ofChange aluMemoryWrong)

/-- 'undertowlaw08.AluPairs': WHATEVER THE INPUT: true; the input reads as it did. -/
def aluPairsSpec : ChangeSpec := { name := "aluPairs", fn := fun _ => fun
  | [d1, d2, d3] => { results := [.lit (.bool true)], args := [d1, d2, d3] }
  | _ => none }
def aluPairsRow : OpenClaim := { program := "ytffbhbjnkecieaa", sum := "baf614271556099c65c42d5fc6b9b3f5f9eb41d1a0d76102f5b3bf53f8abf711", func := "undertow/undertowlaw08.AluPairs", spec := "aluPairs", apart := false }
def AluPairsSaid : Prop := aluPairsRow.holds Try.pinned (OpenSpec.ofChange aluPairsSpec)

/-- ITS FALSE NEIGHBOUR: 'it returns false'. Refute it at one input. -/
def aluPairsWrong : ChangeSpec := { name := "aluPairs", fn := fun _ => fun
  | [d1, d2, d3] => { results := [.lit (.bool false)], args := [d1, d2, d3] }
  | _ => none }
def AluPairsWrongFalsely : Prop := aluPairsRow.holds Try.pinned (OpenSpec.ofChange aluPairsWrong)

/-- 'undertowlaw08.AluBack': WHATEVER THE INPUT: true; the input reads as it did. -/
def aluBackSpec : ChangeSpec := { name := "aluBack", fn := fun _ => fun
  | [d1, d2, d3] => { results := [.lit (.bool true)], args := [d1, d2, d3] }
  | _ => none }
def aluBackRow : OpenClaim := { program := "ytffbhbjnkecieaa", sum := "baf614271556099c65c42d5fc6b9b3f5f9eb41d1a0d76102f5b3bf53f8abf711", func := "undertow/undertowlaw08.AluBack", spec := "aluBack", apart := false }
def AluBackSaid : Prop := aluBackRow.holds Try.pinned (OpenSpec.ofChange aluBackSpec)

/-- ITS FALSE NEIGHBOUR: 'it returns false'. Refute it at one input. -/
def aluBackWrong : ChangeSpec := { name := "aluBack", fn := fun _ => fun
  | [d1, d2, d3] => { results := [.lit (.bool false)], args := [d1, d2, d3] }
  | _ => none }
def AluBackWrongFalsely : Prop := aluBackRow.holds Try.pinned (OpenSpec.ofChange aluBackWrong)

/- THE SECOND FORM. 'bulk': how many values and letters a reading holds, each counted each time it is reached (what is shared counts as often as it is met; a slice's spare places count too). A statement '..UptoSaid' is the law's where the arguments, and the package variables that the reading takes, are together of bulk at most 1048576: NARROWER than '..Said'. Prove '..Said' where nothing that the law and all that it calls make is longer than what came in: it says more and counts as full. Else prove '..UptoSaid'. A law counts once. -/
mutual
def uptoBulk {H : Type} : DataW H → Nat
  | .lit (.string bytes) => bytes.length + 1
  | .lit _ => 1
  | .nil => 1
  | .ptr d => uptoBulk d + 1
  | .slice elems spare => uptoBulkAll elems + uptoBulkAll spare + 1
  | .agg parts => uptoBulkAll parts + 1
  | .iface _ d => uptoBulk d + 1
  | .map entries => uptoBulkEntries entries + 1
  | .held _ => 1
def uptoBulkAll {H : Type} : List (DataW H) → Nat
  | [] => 0
  | d :: r => uptoBulk d + uptoBulkAll r
def uptoBulkEntries {H : Type} : List (Lit × DataW H) → Nat
  | [] => 0
  | x :: r => uptoBulkEntry x + uptoBulkEntries r
def uptoBulkEntry {H : Type} : Lit × DataW H → Nat
  | (.string bytes, d) => bytes.length + uptoBulk d + 1
  | (_, d) => uptoBulk d + 1
 end
def uptoSmall : (H : Type) → List (DataW H) → Bool := fun _ ds => decide (uptoBulkAll ds ≤ 1048576)
def OpenSpec.upto (s : _root_.Go.ChangeSpec) : _root_.Go.OpenSpec := { _root_.Go.OpenSpec.ofChange s with cond := some uptoSmall }

/-- 'undertowlaw08.AluResults', WHERE WHAT IT READS IS OF BULK AT MOST 1048576: true; the input reads as it did. -/
def aluResultsUptoRow : OpenClaim := { program := "ytffbhbjnkecieaa", sum := "baf614271556099c65c42d5fc6b9b3f5f9eb41d1a0d76102f5b3bf53f8abf711", func := "undertow/undertowlaw08.AluResults", spec := "aluResults", apart := false, narrowed := true }
def AluResultsUptoSaid : Prop := aluResultsUptoRow.holds Try.pinned (OpenSpec.upto aluResultsSpec)

/-- 'undertowlaw08.AluNext', WHERE WHAT IT READS IS OF BULK AT MOST 1048576: true; the input reads as it did. -/
def aluNextUptoRow : OpenClaim := { program := "ytffbhbjnkecieaa", sum := "baf614271556099c65c42d5fc6b9b3f5f9eb41d1a0d76102f5b3bf53f8abf711", func := "undertow/undertowlaw08.AluNext", spec := "aluNext", apart := false, narrowed := true }
def AluNextUptoSaid : Prop := aluNextUptoRow.holds Try.pinned (OpenSpec.upto aluNextSpec)

/-- 'undertowlaw08.AluMemory', WHERE WHAT IT READS IS OF BULK AT MOST 1048576: true; the input reads as it did. -/
def aluMemoryUptoRow : OpenClaim := { program := "ytffbhbjnkecieaa", sum := "baf614271556099c65c42d5fc6b9b3f5f9eb41d1a0d76102f5b3bf53f8abf711", func := "undertow/undertowlaw08.AluMemory", spec := "aluMemory", apart := false, narrowed := true }
def AluMemoryUptoSaid : Prop := aluMemoryUptoRow.holds Try.pinned (OpenSpec.upto aluMemorySpec)

/-- 'undertowlaw08.AluPairs', WHERE WHAT IT READS IS OF BULK AT MOST 1048576: true; the input reads as it did. -/
def aluPairsUptoRow : OpenClaim := { program := "ytffbhbjnkecieaa", sum := "baf614271556099c65c42d5fc6b9b3f5f9eb41d1a0d76102f5b3bf53f8abf711", func := "undertow/undertowlaw08.AluPairs", spec := "aluPairs", apart := false, narrowed := true }
def AluPairsUptoSaid : Prop := aluPairsUptoRow.holds Try.pinned (OpenSpec.upto aluPairsSpec)

/-- 'undertowlaw08.AluBack', WHERE WHAT IT READS IS OF BULK AT MOST 1048576: true; the input reads as it did. -/
def aluBackUptoRow : OpenClaim := { program := "ytffbhbjnkecieaa", sum := "baf614271556099c65c42d5fc6b9b3f5f9eb41d1a0d76102f5b3bf53f8abf711", func := "undertow/undertowlaw08.AluBack", spec := "aluBack", apart := false, narrowed := true }
def AluBackUptoSaid : Prop := aluBackUptoRow.holds Try.pinned (OpenSpec.upto aluBackSpec)

end Rows
end Go.Proofs.Ytffbhbjnkecieaa
