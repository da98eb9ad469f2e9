/-
  No cell of these rows narrows 'for every input' (looked for: loops, veiled, ifaces, maps, wideKeys, modest, calm, conditions, laid).
  DERIVED. THE GIVEN ROWS OF THIS SEAT. 4 by the template 'for every input the law returns true; each argument reads behind the call as it read before'; 0 by the template 'total and deterministic' (their statements: YtlkcfhpklibnaaaTotals.lean).
  GIVEN WITH THE SEED: the statements are not yours to turn. If you find one false, say at which input.
  Laid BY PROGRAM, IN A SANDBOX (cutbox-rows.mjs): the forced cells as the released guide's own fill.sh prints them over the translation 3418f80e6b5cecef… (all of the seat's roots in one cut). By AI agents, Wed Nov 11 2026. No macro, syntax, notation, axiom, sorry.
-/
import Derived.Test.YtlkcfhpklibnaaaChecked
import GoSem.Claim
import GoSem.ClaimJoined
import GoSem.ClaimMapViews
import Derived.JoinedTies
import Derived.KernelRfl
namespace Go.Proofs.Ytlkcfhpklibnaaa
/- THE CELL 'sum', in the pinned program and in every row, IS THE sha256 OF THE DUMP (.gsa) THAT YtlkcfhpklibnaaaProg.lean LOADS. Nothing in Lean hashes anything: it is a label: what it is worth is what the hold of that sum in a sandbox is worth. -/
noncomputable def Try.pinned : Pinned := { name := "ytlkcfhpklibnaaa", sum := "3418f80e6b5cecef141b63ece2e1e9ab486baabe95e4da357aff2aaea4f57563", checked := Try.checked }
namespace Rows
def none {H : Type} : Left H := { results := [], args := [] }

/-- 'undertowlaw20.CandEvents': WHATEVER THE INPUT: true; the input reads as it did. -/
def candEventsSpec : ChangeSpec := { name := "candEvents", fn := fun _ => fun
  | [d1, d2] => { results := [.lit (.bool true)], args := [d1, d2] }
  | _ => none }
def candEventsRow : OpenClaim := { program := "ytlkcfhpklibnaaa", sum := "3418f80e6b5cecef141b63ece2e1e9ab486baabe95e4da357aff2aaea4f57563", func := "undertow/undertowlaw20.CandEvents", spec := "candEvents", unfollowed := true, recurses := true, apart := false }
def CandEventsSaid : Prop := candEventsRow.holds Try.pinned (OpenSpec.ofChange candEventsSpec)

/-- ITS FALSE NEIGHBOUR: 'it returns false'. Refute it at one input. -/
def candEventsWrong : ChangeSpec := { name := "candEvents", fn := fun _ => fun
  | [d1, d2] => { results := [.lit (.bool false)], args := [d1, d2] }
  | _ => none }
def CandEventsWrongFalsely : Prop := candEventsRow.holds Try.pinned (OpenSpec.ofChange candEventsWrong)

/-- 'undertowlaw20.CandChecks': WHATEVER THE INPUT: true; the input reads as it did. -/
def candChecksSpec : ChangeSpec := { name := "candChecks", fn := fun _ => fun
  | [d] => { results := [.lit (.bool true)], args := [d] }
  | _ => none }
def candChecksRow : OpenClaim := { program := "ytlkcfhpklibnaaa", sum := "3418f80e6b5cecef141b63ece2e1e9ab486baabe95e4da357aff2aaea4f57563", func := "undertow/undertowlaw20.CandChecks", spec := "candChecks", unfollowed := true, recurses := true, apart := false }
def CandChecksSaid : Prop := candChecksRow.holds Try.pinned (OpenSpec.ofChange candChecksSpec)

/-- ITS FALSE NEIGHBOUR: 'it returns false'. Refute it at one input. -/
def candChecksWrong : ChangeSpec := { name := "candChecks", fn := fun _ => fun
  | [d] => { results := [.lit (.bool false)], args := [d] }
  | _ => none }
def CandChecksWrongFalsely : Prop := candChecksRow.holds Try.pinned (OpenSpec.ofChange candChecksWrong)

/-- 'undertowlaw20.CandTurned': WHATEVER THE INPUT: true; the input reads as it did. -/
def candTurnedSpec : ChangeSpec := { name := "candTurned", fn := fun _ => fun
  | [d1, d2, d3, d4] => { results := [.lit (.bool true)], args := [d1, d2, d3, d4] }
  | _ => none }
def candTurnedRow : OpenClaim := { program := "ytlkcfhpklibnaaa", sum := "3418f80e6b5cecef141b63ece2e1e9ab486baabe95e4da357aff2aaea4f57563", func := "undertow/undertowlaw20.CandTurned", spec := "candTurned", unfollowed := true, recurses := true, apart := false }
def CandTurnedSaid : Prop := candTurnedRow.holds Try.pinned (OpenSpec.ofChange candTurnedSpec)

/-- ITS FALSE NEIGHBOUR: 'it returns false'. Refute it at one input. -/
def candTurnedWrong : ChangeSpec := { name := "candTurned", fn := fun _ => fun
  | [d1, d2, d3, d4] => { results := [.lit (.bool false)], args := [d1, d2, d3, d4] }
  | _ => none }
def CandTurnedWrongFalsely : Prop := candTurnedRow.holds Try.pinned (OpenSpec.ofChange candTurnedWrong)

/-- 'undertowlaw20.CandHarts': WHATEVER THE INPUT: true; the input reads as it did. -/
def candHartsSpec : ChangeSpec := { name := "candHarts", fn := fun _ => fun
  | [d1, d2, d3] => { results := [.lit (.bool true)], args := [d1, d2, d3] }
  | _ => none }
def candHartsRow : OpenClaim := { program := "ytlkcfhpklibnaaa", sum := "3418f80e6b5cecef141b63ece2e1e9ab486baabe95e4da357aff2aaea4f57563", func := "undertow/undertowlaw20.CandHarts", spec := "candHarts", unfollowed := true, recurses := true, apart := false }
def CandHartsSaid : Prop := candHartsRow.holds Try.pinned (OpenSpec.ofChange candHartsSpec)

/-- ITS FALSE NEIGHBOUR: 'it returns false'. Refute it at one input. -/
def candHartsWrong : ChangeSpec := { name := "candHarts", fn := fun _ => fun
  | [d1, d2, d3] => { results := [.lit (.bool false)], args := [d1, d2, d3] }
  | _ => none }
def CandHartsWrongFalsely : Prop := candHartsRow.holds Try.pinned (OpenSpec.ofChange candHartsWrong)

/- THE SECOND FORM. 'bulk': how many values and letters a reading holds, each counted each time it is reached (what is shared counts as often as it is met; a slice's spare places count too). A statement '..UptoSaid' is the law's where the arguments, and the package variables that the reading takes, are together of bulk at most 1048576: NARROWER than '..Said'. Prove '..Said' where nothing that the law and all that it calls make is longer than what came in: it says more and counts as full. Else prove '..UptoSaid'. A law counts once. -/
mutual
def uptoBulk {H : Type} : DataW H → Nat
  | .lit (.string bytes) => bytes.length + 1
  | .lit _ => 1
  | .nil => 1
  | .ptr d => uptoBulk d + 1
  | .slice elems spare => uptoBulkAll elems + uptoBulkAll spare + 1
  | .agg parts => uptoBulkAll parts + 1
  | .iface _ d => uptoBulk d + 1
  | .map entries => uptoBulkEntries entries + 1
  | .held _ => 1
def uptoBulkAll {H : Type} : List (DataW H) → Nat
  | [] => 0
  | d :: r => uptoBulk d + uptoBulkAll r
def uptoBulkEntries {H : Type} : List (Lit × DataW H) → Nat
  | [] => 0
  | x :: r => uptoBulkEntry x + uptoBulkEntries r
def uptoBulkEntry {H : Type} : Lit × DataW H → Nat
  | (.string bytes, d) => bytes.length + uptoBulk d + 1
  | (_, d) => uptoBulk d + 1
 end
def uptoSmall : (H : Type) → List (DataW H) → Bool := fun _ ds => decide (uptoBulkAll ds ≤ 1048576)
def OpenSpec.upto (s : _root_.Go.ChangeSpec) : _root_.Go.OpenSpec := { _root_.Go.OpenSpec.ofChange s with cond := some uptoSmall }

/-- 'undertowlaw20.CandEvents', WHERE WHAT IT READS IS OF BULK AT MOST 1048576: true; the input reads as it did. -/
def candEventsUptoRow : OpenClaim := { program := "ytlkcfhpklibnaaa", sum := "3418f80e6b5cecef141b63ece2e1e9ab486baabe95e4da357aff2aaea4f57563", func := "undertow/undertowlaw20.CandEvents", spec := "candEvents", unfollowed := true, recurses := true, apart := false, narrowed := true }
def CandEventsUptoSaid : Prop := candEventsUptoRow.holds Try.pinned (OpenSpec.upto candEventsSpec)

/-- 'undertowlaw20.CandChecks', WHERE WHAT IT READS IS OF BULK AT MOST 1048576: true; the input reads as it did. -/
def candChecksUptoRow : OpenClaim := { program := "ytlkcfhpklibnaaa", sum := "3418f80e6b5cecef141b63ece2e1e9ab486baabe95e4da357aff2aaea4f57563", func := "undertow/undertowlaw20.CandChecks", spec := "candChecks", unfollowed := true, recurses := true, apart := false, narrowed := true }
def CandChecksUptoSaid : Prop := candChecksUptoRow.holds Try.pinned (OpenSpec.upto candChecksSpec)

/-- 'undertowlaw20.CandTurned', WHERE WHAT IT READS IS OF BULK AT MOST 1048576: true; the input reads as it did. -/
def candTurnedUptoRow : OpenClaim := { program := "ytlkcfhpklibnaaa", sum := "3418f80e6b5cecef141b63ece2e1e9ab486baabe95e4da357aff2aaea4f57563", func := "undertow/undertowlaw20.CandTurned", spec := "candTurned", unfollowed := true, recurses := true, apart := false, narrowed := true }
def CandTurnedUptoSaid : Prop := candTurnedUptoRow.holds Try.pinned (OpenSpec.upto candTurnedSpec)

/-- 'undertowlaw20.CandHarts', WHERE WHAT IT READS IS OF BULK AT MOST 1048576: true; the input reads as it did. -/
def candHartsUptoRow : OpenClaim := { program := "ytlkcfhpklibnaaa", sum := "3418f80e6b5cecef141b63ece2e1e9ab486baabe95e4da357aff2aaea4f57563", func := "undertow/undertowlaw20.CandHarts", spec := "candHarts", unfollowed := true, recurses := true, apart := false, narrowed := true }
def CandHartsUptoSaid : Prop := candHartsUptoRow.holds Try.pinned (OpenSpec.upto candHartsSpec)

end Rows
end Go.Proofs.Ytlkcfhpklibnaaa
