/-
  No cell of these rows narrows 'for every input' (looked for: loops, veiled, ifaces, maps, wideKeys, modest, calm, conditions, laid).
  DERIVED. THE GIVEN ROWS OF THIS SEAT. 5 by the template 'for every input the law returns true; each argument reads behind the call as it read before'; 0 by the template 'total and deterministic' (their statements: YtnmljkhpmcgdoaaTotals.lean).
  GIVEN WITH THE SEED: the statements are not yours to turn. If you find one false, say at which input.
  Laid BY PROGRAM, IN A SANDBOX (cutbox-rows.mjs): the forced cells as the released guide's own fill.sh prints them over the translation 213178d5cecb1895… (all of the seat's roots in one cut). By AI agents, Wed Nov 11 2026. No macro, syntax, notation, axiom, sorry.
-/
import Derived.Test.YtnmljkhpmcgdoaaChecked
import GoSem.Claim
import GoSem.ClaimJoined
import GoSem.ClaimMapViews
import Derived.JoinedTies
import Derived.KernelRfl
namespace Go.Proofs.Ytnmljkhpmcgdoaa
/- THE CELL 'sum', in the pinned program and in every row, IS THE sha256 OF THE DUMP (.gsa) THAT YtnmljkhpmcgdoaaProg.lean LOADS. Nothing in Lean hashes anything: it is a label: what it is worth is what the hold of that sum in a sandbox is worth. -/
noncomputable def Try.pinned : Pinned := { name := "ytnmljkhpmcgdoaa", sum := "213178d5cecb1895e266b65cd951b1e5d2ffc2833533be31daee4eb57a01f604", checked := Try.checked }
namespace Rows
def none {H : Type} : Left H := { results := [], args := [] }

/-- 'undertowlaw02.MomentSteps': WHATEVER THE INPUT: true; the input reads as it did. -/
def momentStepsSpec : ChangeSpec := { name := "momentSteps", fn := fun _ => fun
  | [d1, d2] => { results := [.lit (.bool true)], args := [d1, d2] }
  | _ => none }
def momentStepsRow : OpenClaim := { program := "ytnmljkhpmcgdoaa", sum := "213178d5cecb1895e266b65cd951b1e5d2ffc2833533be31daee4eb57a01f604", func := "undertow/undertowlaw02.MomentSteps", spec := "momentSteps", inPlace := ["math.Float64frombits", "math.Float64bits", "math.archFloor", "math.archTrunc"], apart := false }
def MomentStepsSaid : Prop := momentStepsRow.holds Try.pinned (OpenSpec.ofChange momentStepsSpec)

/-- ITS FALSE NEIGHBOUR: 'it returns false'. Refute it at one input. -/
def momentStepsWrong : ChangeSpec := { name := "momentSteps", fn := fun _ => fun
  | [d1, d2] => { results := [.lit (.bool false)], args := [d1, d2] }
  | _ => none }
def MomentStepsWrongFalsely : Prop := momentStepsRow.holds Try.pinned (OpenSpec.ofChange momentStepsWrong)

/-- 'undertowlaw02.MomentPlaces': WHATEVER THE INPUT: true; the input reads as it did. -/
def momentPlacesSpec : ChangeSpec := { name := "momentPlaces", fn := fun _ => fun
  | [d1, d2, d3] => { results := [.lit (.bool true)], args := [d1, d2, d3] }
  | _ => none }
def momentPlacesRow : OpenClaim := { program := "ytnmljkhpmcgdoaa", sum := "213178d5cecb1895e266b65cd951b1e5d2ffc2833533be31daee4eb57a01f604", func := "undertow/undertowlaw02.MomentPlaces", spec := "momentPlaces", inPlace := ["math.Float64frombits", "math.Float64bits", "math.archFloor", "math.archTrunc"], apart := false }
def MomentPlacesSaid : Prop := momentPlacesRow.holds Try.pinned (OpenSpec.ofChange momentPlacesSpec)

/-- ITS FALSE NEIGHBOUR: 'it returns false'. Refute it at one input. -/
def momentPlacesWrong : ChangeSpec := { name := "momentPlaces", fn := fun _ => fun
  | [d1, d2, d3] => { results := [.lit (.bool false)], args := [d1, d2, d3] }
  | _ => none }
def MomentPlacesWrongFalsely : Prop := momentPlacesRow.holds Try.pinned (OpenSpec.ofChange momentPlacesWrong)

/-- 'undertowlaw02.MomentOrders': WHATEVER THE INPUT: true; the input reads as it did. -/
def momentOrdersSpec : ChangeSpec := { name := "momentOrders", fn := fun _ => fun
  | [d1, d2] => { results := [.lit (.bool true)], args := [d1, d2] }
  | _ => none }
def momentOrdersRow : OpenClaim := { program := "ytnmljkhpmcgdoaa", sum := "213178d5cecb1895e266b65cd951b1e5d2ffc2833533be31daee4eb57a01f604", func := "undertow/undertowlaw02.MomentOrders", spec := "momentOrders", inPlace := ["math.Float64frombits", "math.Float64bits", "math.archFloor", "math.archTrunc"], apart := false }
def MomentOrdersSaid : Prop := momentOrdersRow.holds Try.pinned (OpenSpec.ofChange momentOrdersSpec)

/-- ITS FALSE NEIGHBOUR: 'it returns false'. Refute it at one input. -/
def momentOrdersWrong : ChangeSpec := { name := "momentOrders", fn := fun _ => fun
  | [d1, d2] => { results := [.lit (.bool false)], args := [d1, d2] }
  | _ => none }
def MomentOrdersWrongFalsely : Prop := momentOrdersRow.holds Try.pinned (OpenSpec.ofChange momentOrdersWrong)

/-- 'undertowlaw02.MomentTotal': WHATEVER THE INPUT: true; the input reads as it did. -/
def momentTotalSpec : ChangeSpec := { name := "momentTotal", fn := fun _ => fun
  | [d1, d2, d3] => { results := [.lit (.bool true)], args := [d1, d2, d3] }
  | _ => none }
def momentTotalRow : OpenClaim := { program := "ytnmljkhpmcgdoaa", sum := "213178d5cecb1895e266b65cd951b1e5d2ffc2833533be31daee4eb57a01f604", func := "undertow/undertowlaw02.MomentTotal", spec := "momentTotal", inPlace := ["math.Float64frombits", "math.Float64bits", "math.archFloor", "math.archTrunc"], apart := false }
def MomentTotalSaid : Prop := momentTotalRow.holds Try.pinned (OpenSpec.ofChange momentTotalSpec)

/-- ITS FALSE NEIGHBOUR: 'it returns false'. Refute it at one input. -/
def momentTotalWrong : ChangeSpec := { name := "momentTotal", fn := fun _ => fun
  | [d1, d2, d3] => { results := [.lit (.bool false)], args := [d1, d2, d3] }
  | _ => none }
def MomentTotalWrongFalsely : Prop := momentTotalRow.holds Try.pinned (OpenSpec.ofChange momentTotalWrong)

/-- 'undertowlaw02.MomentSorts': WHATEVER THE INPUT: true; the input reads as it did. -/
def momentSortsSpec : ChangeSpec := { name := "momentSorts", fn := fun _ => fun
  | [d] => { results := [.lit (.bool true)], args := [d] }
  | _ => none }
def momentSortsRow : OpenClaim := { program := "ytnmljkhpmcgdoaa", sum := "213178d5cecb1895e266b65cd951b1e5d2ffc2833533be31daee4eb57a01f604", func := "undertow/undertowlaw02.MomentSorts", spec := "momentSorts", inPlace := ["math.Float64frombits", "math.Float64bits", "math.archFloor", "math.archTrunc"], apart := false }
def MomentSortsSaid : Prop := momentSortsRow.holds Try.pinned (OpenSpec.ofChange momentSortsSpec)

/-- ITS FALSE NEIGHBOUR: 'it returns false'. Refute it at one input. -/
def momentSortsWrong : ChangeSpec := { name := "momentSorts", fn := fun _ => fun
  | [d] => { results := [.lit (.bool false)], args := [d] }
  | _ => none }
def MomentSortsWrongFalsely : Prop := momentSortsRow.holds Try.pinned (OpenSpec.ofChange momentSortsWrong)

/- THE SECOND FORM. 'bulk': how many values and letters a reading holds, each counted each time it is reached (what is shared counts as often as it is met; a slice's spare places count too). A statement '..UptoSaid' is the law's where the arguments, and the package variables that the reading takes, are together of bulk at most 1048576: NARROWER than '..Said'. Prove '..Said' where nothing that the law and all that it calls make is longer than what came in: it says more and counts as full. Else prove '..UptoSaid'. A law counts once. -/
mutual
def uptoBulk {H : Type} : DataW H → Nat
  | .lit (.string bytes) => bytes.length + 1
  | .lit _ => 1
  | .nil => 1
  | .ptr d => uptoBulk d + 1
  | .slice elems spare => uptoBulkAll elems + uptoBulkAll spare + 1
  | .agg parts => uptoBulkAll parts + 1
  | .iface _ d => uptoBulk d + 1
  | .map entries => uptoBulkEntries entries + 1
  | .held _ => 1
def uptoBulkAll {H : Type} : List (DataW H) → Nat
  | [] => 0
  | d :: r => uptoBulk d + uptoBulkAll r
def uptoBulkEntries {H : Type} : List (Lit × DataW H) → Nat
  | [] => 0
  | x :: r => uptoBulkEntry x + uptoBulkEntries r
def uptoBulkEntry {H : Type} : Lit × DataW H → Nat
  | (.string bytes, d) => bytes.length + uptoBulk d + 1
  | (_, d) => uptoBulk d + 1
 end
def uptoSmall : (H : Type) → List (DataW H) → Bool := fun _ ds => decide (uptoBulkAll ds ≤ 1048576)
def OpenSpec.upto (s : _root_.Go.ChangeSpec) : _root_.Go.OpenSpec := { _root_.Go.OpenSpec.ofChange s with cond := some uptoSmall }

/-- 'undertowlaw02.MomentSteps', WHERE WHAT IT READS IS OF BULK AT MOST 1048576: true; the input reads as it did. -/
def momentStepsUptoRow : OpenClaim := { program := "ytnmljkhpmcgdoaa", sum := "213178d5cecb1895e266b65cd951b1e5d2ffc2833533be31daee4eb57a01f604", func := "undertow/undertowlaw02.MomentSteps", spec := "momentSteps", inPlace := ["math.Float64frombits", "math.Float64bits", "math.archFloor", "math.archTrunc"], apart := false, narrowed := true }
def MomentStepsUptoSaid : Prop := momentStepsUptoRow.holds Try.pinned (OpenSpec.upto momentStepsSpec)

/-- 'undertowlaw02.MomentPlaces', WHERE WHAT IT READS IS OF BULK AT MOST 1048576: true; the input reads as it did. -/
def momentPlacesUptoRow : OpenClaim := { program := "ytnmljkhpmcgdoaa", sum := "213178d5cecb1895e266b65cd951b1e5d2ffc2833533be31daee4eb57a01f604", func := "undertow/undertowlaw02.MomentPlaces", spec := "momentPlaces", inPlace := ["math.Float64frombits", "math.Float64bits", "math.archFloor", "math.archTrunc"], apart := false, narrowed := true }
def MomentPlacesUptoSaid : Prop := momentPlacesUptoRow.holds Try.pinned (OpenSpec.upto momentPlacesSpec)

/-- 'undertowlaw02.MomentOrders', WHERE WHAT IT READS IS OF BULK AT MOST 1048576: true; the input reads as it did. -/
def momentOrdersUptoRow : OpenClaim := { program := "ytnmljkhpmcgdoaa", sum := "213178d5cecb1895e266b65cd951b1e5d2ffc2833533be31daee4eb57a01f604", func := "undertow/undertowlaw02.MomentOrders", spec := "momentOrders", inPlace := ["math.Float64frombits", "math.Float64bits", "math.archFloor", "math.archTrunc"], apart := false, narrowed := true }
def MomentOrdersUptoSaid : Prop := momentOrdersUptoRow.holds Try.pinned (OpenSpec.upto momentOrdersSpec)

/-- 'undertowlaw02.MomentTotal', WHERE WHAT IT READS IS OF BULK AT MOST 1048576: true; the input reads as it did. -/
def momentTotalUptoRow : OpenClaim := { program := "ytnmljkhpmcgdoaa", sum := "213178d5cecb1895e266b65cd951b1e5d2ffc2833533be31daee4eb57a01f604", func := "undertow/undertowlaw02.MomentTotal", spec := "momentTotal", inPlace := ["math.Float64frombits", "math.Float64bits", "math.archFloor", "math.archTrunc"], apart := false, narrowed := true }
def MomentTotalUptoSaid : Prop := momentTotalUptoRow.holds Try.pinned (OpenSpec.upto momentTotalSpec)

/-- 'undertowlaw02.MomentSorts', WHERE WHAT IT READS IS OF BULK AT MOST 1048576: true; the input reads as it did. -/
def momentSortsUptoRow : OpenClaim := { program := "ytnmljkhpmcgdoaa", sum := "213178d5cecb1895e266b65cd951b1e5d2ffc2833533be31daee4eb57a01f604", func := "undertow/undertowlaw02.MomentSorts", spec := "momentSorts", inPlace := ["math.Float64frombits", "math.Float64bits", "math.archFloor", "math.archTrunc"], apart := false, narrowed := true }
def MomentSortsUptoSaid : Prop := momentSortsUptoRow.holds Try.pinned (OpenSpec.upto momentSortsSpec)

end Rows
end Go.Proofs.Ytnmljkhpmcgdoaa
