/-
  No cell of these rows narrows 'for every input' (looked for: loops, veiled, ifaces, maps, wideKeys, modest, calm, conditions, laid).
  DERIVED. THE GIVEN ROWS OF THIS SEAT. 5 by the template 'for every input the law returns true; each argument reads behind the call as it read before'; 0 by the template 'total and deterministic' (their statements: YtgcahipcbidojaaTotals.lean).
  GIVEN WITH THE SEED: the statements are not yours to turn. If you find one false, say at which input.
  Laid BY PROGRAM, IN A SANDBOX (cutbox-rows.mjs): the forced cells as the released guide's own fill.sh prints them over the translation f55ecb26aac8a464… (all of the seat's roots in one cut). By AI agents, Wed Nov 11 2026. No macro, syntax, notation, axiom, sorry.
-/
import Derived.Test.YtgcahipcbidojaaChecked
import GoSem.Claim
import GoSem.ClaimJoined
import GoSem.ClaimMapViews
import Derived.JoinedTies
import Derived.KernelRfl
namespace Go.Proofs.Ytgcahipcbidojaa
/- THE CELL 'sum', in the pinned program and in every row, IS THE sha256 OF THE DUMP (.gsa) THAT YtgcahipcbidojaaProg.lean LOADS. Nothing in Lean hashes anything: it is a label: what it is worth is what the hold of that sum in a sandbox is worth. -/
noncomputable def Try.pinned : Pinned := { name := "ytgcahipcbidojaa", sum := "f55ecb26aac8a464d9fd4987ec4a954a588c2f8a887d80646ac33a0f7e6d888e", checked := Try.checked }
namespace Rows
def none {H : Type} : Left H := { results := [], args := [] }

/-- 'undertowlaw03.ChooseOf': WHATEVER THE INPUT: true; the input reads as it did. -/
def chooseOfSpec : ChangeSpec := { name := "chooseOf", fn := fun _ => fun
  | [d1, d2] => { results := [.lit (.bool true)], args := [d1, d2] }
  | _ => none }
def chooseOfRow : OpenClaim := { program := "ytgcahipcbidojaa", sum := "f55ecb26aac8a464d9fd4987ec4a954a588c2f8a887d80646ac33a0f7e6d888e", func := "undertow/undertowlaw03.ChooseOf", spec := "chooseOf", inPlace := ["math.Float64bits", "math.Float64frombits", "math.archFloor", "math.archTrunc"], apart := false }
def ChooseOfSaid : Prop := chooseOfRow.holds Try.pinned (OpenSpec.ofChange chooseOfSpec)

/-- ITS FALSE NEIGHBOUR: 'it returns false'. Refute it at one input. -/
def chooseOfWrong : ChangeSpec := { name := "chooseOf", fn := fun _ => fun
  | [d1, d2] => { results := [.lit (.bool false)], args := [d1, d2] }
  | _ => none }
def ChooseOfWrongFalsely : Prop := chooseOfRow.holds Try.pinned (OpenSpec.ofChange chooseOfWrong)

/-- 'undertowlaw03.ChooseRight': WHATEVER THE INPUT: true; the input reads as it did. -/
def chooseRightSpec : ChangeSpec := { name := "chooseRight", fn := fun _ => fun
  | [d] => { results := [.lit (.bool true)], args := [d] }
  | _ => none }
def chooseRightRow : OpenClaim := { program := "ytgcahipcbidojaa", sum := "f55ecb26aac8a464d9fd4987ec4a954a588c2f8a887d80646ac33a0f7e6d888e", func := "undertow/undertowlaw03.ChooseRight", spec := "chooseRight", inPlace := ["math.Float64bits", "math.Float64frombits", "math.archFloor", "math.archTrunc"], apart := false }
def ChooseRightSaid : Prop := chooseRightRow.holds Try.pinned (OpenSpec.ofChange chooseRightSpec)

/-- ITS FALSE NEIGHBOUR: 'it returns false'. Refute it at one input. -/
def chooseRightWrong : ChangeSpec := { name := "chooseRight", fn := fun _ => fun
  | [d] => { results := [.lit (.bool false)], args := [d] }
  | _ => none }
def ChooseRightWrongFalsely : Prop := chooseRightRow.holds Try.pinned (OpenSpec.ofChange chooseRightWrong)

/-- 'undertowlaw03.ChooseOne': WHATEVER THE INPUT: true; the input reads as it did. -/
def chooseOneSpec : ChangeSpec := { name := "chooseOne", fn := fun _ => fun
  | [d1, d2] => { results := [.lit (.bool true)], args := [d1, d2] }
  | _ => none }
def chooseOneRow : OpenClaim := { program := "ytgcahipcbidojaa", sum := "f55ecb26aac8a464d9fd4987ec4a954a588c2f8a887d80646ac33a0f7e6d888e", func := "undertow/undertowlaw03.ChooseOne", spec := "chooseOne", inPlace := ["math.Float64bits", "math.Float64frombits", "math.archFloor", "math.archTrunc"], apart := false }
def ChooseOneSaid : Prop := chooseOneRow.holds Try.pinned (OpenSpec.ofChange chooseOneSpec)

/-- ITS FALSE NEIGHBOUR: 'it returns false'. Refute it at one input. -/
def chooseOneWrong : ChangeSpec := { name := "chooseOne", fn := fun _ => fun
  | [d1, d2] => { results := [.lit (.bool false)], args := [d1, d2] }
  | _ => none }
def ChooseOneWrongFalsely : Prop := chooseOneRow.holds Try.pinned (OpenSpec.ofChange chooseOneWrong)

/-- 'undertowlaw03.ChooseFair': WHATEVER THE INPUT: true; the input reads as it did. -/
def chooseFairSpec : ChangeSpec := { name := "chooseFair", fn := fun _ => fun
  | [d1, d2] => { results := [.lit (.bool true)], args := [d1, d2] }
  | _ => none }
def chooseFairRow : OpenClaim := { program := "ytgcahipcbidojaa", sum := "f55ecb26aac8a464d9fd4987ec4a954a588c2f8a887d80646ac33a0f7e6d888e", func := "undertow/undertowlaw03.ChooseFair", spec := "chooseFair", inPlace := ["math.Float64bits", "math.Float64frombits", "math.archFloor", "math.archTrunc"], apart := false }
def ChooseFairSaid : Prop := chooseFairRow.holds Try.pinned (OpenSpec.ofChange chooseFairSpec)

/-- ITS FALSE NEIGHBOUR: 'it returns false'. Refute it at one input. -/
def chooseFairWrong : ChangeSpec := { name := "chooseFair", fn := fun _ => fun
  | [d1, d2] => { results := [.lit (.bool false)], args := [d1, d2] }
  | _ => none }
def ChooseFairWrongFalsely : Prop := chooseFairRow.holds Try.pinned (OpenSpec.ofChange chooseFairWrong)

/-- 'undertowlaw03.ChooseJoin': WHATEVER THE INPUT: true; the input reads as it did. -/
def chooseJoinSpec : ChangeSpec := { name := "chooseJoin", fn := fun _ => fun
  | [d1, d2, d3] => { results := [.lit (.bool true)], args := [d1, d2, d3] }
  | _ => none }
def chooseJoinRow : OpenClaim := { program := "ytgcahipcbidojaa", sum := "f55ecb26aac8a464d9fd4987ec4a954a588c2f8a887d80646ac33a0f7e6d888e", func := "undertow/undertowlaw03.ChooseJoin", spec := "chooseJoin", inPlace := ["math.Float64bits", "math.Float64frombits", "math.archFloor", "math.archTrunc"], apart := false }
def ChooseJoinSaid : Prop := chooseJoinRow.holds Try.pinned (OpenSpec.ofChange chooseJoinSpec)

/-- ITS FALSE NEIGHBOUR: 'it returns false'. Refute it at one input. -/
def chooseJoinWrong : ChangeSpec := { name := "chooseJoin", fn := fun _ => fun
  | [d1, d2, d3] => { results := [.lit (.bool false)], args := [d1, d2, d3] }
  | _ => none }
def ChooseJoinWrongFalsely : Prop := chooseJoinRow.holds Try.pinned (OpenSpec.ofChange chooseJoinWrong)

/- THE SECOND FORM. 'bulk': how many values and letters a reading holds, each counted each time it is reached (what is shared counts as often as it is met; a slice's spare places count too). A statement '..UptoSaid' is the law's where the arguments, and the package variables that the reading takes, are together of bulk at most 1048576: NARROWER than '..Said'. Prove '..Said' where nothing that the law and all that it calls make is longer than what came in: it says more and counts as full. Else prove '..UptoSaid'. A law counts once. -/
mutual
def uptoBulk {H : Type} : DataW H → Nat
  | .lit (.string bytes) => bytes.length + 1
  | .lit _ => 1
  | .nil => 1
  | .ptr d => uptoBulk d + 1
  | .slice elems spare => uptoBulkAll elems + uptoBulkAll spare + 1
  | .agg parts => uptoBulkAll parts + 1
  | .iface _ d => uptoBulk d + 1
  | .map entries => uptoBulkEntries entries + 1
  | .held _ => 1
def uptoBulkAll {H : Type} : List (DataW H) → Nat
  | [] => 0
  | d :: r => uptoBulk d + uptoBulkAll r
def uptoBulkEntries {H : Type} : List (Lit × DataW H) → Nat
  | [] => 0
  | x :: r => uptoBulkEntry x + uptoBulkEntries r
def uptoBulkEntry {H : Type} : Lit × DataW H → Nat
  | (.string bytes, d) => bytes.length + uptoBulk d + 1
  | (_, d) => uptoBulk d + 1
 end
def uptoSmall : (H : Type) → List (DataW H) → Bool := fun _ ds => decide (uptoBulkAll ds ≤ 1048576)
def OpenSpec.upto (s : _root_.Go.ChangeSpec) : _root_.Go.OpenSpec := { _root_.Go.OpenSpec.ofChange s with cond := some uptoSmall }

/-- 'undertowlaw03.ChooseOf', WHERE WHAT IT READS IS OF BULK AT MOST 1048576: true; the input reads as it did. -/
def chooseOfUptoRow : OpenClaim := { program := "ytgcahipcbidojaa", sum := "f55ecb26aac8a464d9fd4987ec4a954a588c2f8a887d80646ac33a0f7e6d888e", func := "undertow/undertowlaw03.ChooseOf", spec := "chooseOf", inPlace := ["math.Float64bits", "math.Float64frombits", "math.archFloor", "math.archTrunc"], apart := false, narrowed := true }
def ChooseOfUptoSaid : Prop := chooseOfUptoRow.holds Try.pinned (OpenSpec.upto chooseOfSpec)

/-- 'undertowlaw03.ChooseRight', WHERE WHAT IT READS IS OF BULK AT MOST 1048576: true; the input reads as it did. -/
def chooseRightUptoRow : OpenClaim := { program := "ytgcahipcbidojaa", sum := "f55ecb26aac8a464d9fd4987ec4a954a588c2f8a887d80646ac33a0f7e6d888e", func := "undertow/undertowlaw03.ChooseRight", spec := "chooseRight", inPlace := ["math.Float64bits", "math.Float64frombits", "math.archFloor", "math.archTrunc"], apart := false, narrowed := true }
def ChooseRightUptoSaid : Prop := chooseRightUptoRow.holds Try.pinned (OpenSpec.upto chooseRightSpec)

/-- 'undertowlaw03.ChooseOne', WHERE WHAT IT READS IS OF BULK AT MOST 1048576: true; the input reads as it did. -/
def chooseOneUptoRow : OpenClaim := { program := "ytgcahipcbidojaa", sum := "f55ecb26aac8a464d9fd4987ec4a954a588c2f8a887d80646ac33a0f7e6d888e", func := "undertow/undertowlaw03.ChooseOne", spec := "chooseOne", inPlace := ["math.Float64bits", "math.Float64frombits", "math.archFloor", "math.archTrunc"], apart := false, narrowed := true }
def ChooseOneUptoSaid : Prop := chooseOneUptoRow.holds Try.pinned (OpenSpec.upto chooseOneSpec)

/-- 'undertowlaw03.ChooseFair', WHERE WHAT IT READS IS OF BULK AT MOST 1048576: true; the input reads as it did. -/
def chooseFairUptoRow : OpenClaim := { program := "ytgcahipcbidojaa", sum := "f55ecb26aac8a464d9fd4987ec4a954a588c2f8a887d80646ac33a0f7e6d888e", func := "undertow/undertowlaw03.ChooseFair", spec := "chooseFair", inPlace := ["math.Float64bits", "math.Float64frombits", "math.archFloor", "math.archTrunc"], apart := false, narrowed := true }
def ChooseFairUptoSaid : Prop := chooseFairUptoRow.holds Try.pinned (OpenSpec.upto chooseFairSpec)

/-- 'undertowlaw03.ChooseJoin', WHERE WHAT IT READS IS OF BULK AT MOST 1048576: true; the input reads as it did. -/
def chooseJoinUptoRow : OpenClaim := { program := "ytgcahipcbidojaa", sum := "f55ecb26aac8a464d9fd4987ec4a954a588c2f8a887d80646ac33a0f7e6d888e", func := "undertow/undertowlaw03.ChooseJoin", spec := "chooseJoin", inPlace := ["math.Float64bits", "math.Float64frombits", "math.archFloor", "math.archTrunc"], apart := false, narrowed := true }
def ChooseJoinUptoSaid : Prop := chooseJoinUptoRow.holds Try.pinned (OpenSpec.upto chooseJoinSpec)

end Rows
end Go.Proofs.Ytgcahipcbidojaa
