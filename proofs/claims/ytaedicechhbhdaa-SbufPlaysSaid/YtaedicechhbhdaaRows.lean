/-
  No cell of these rows narrows 'for every input' (looked for: loops, veiled, ifaces, maps, wideKeys, modest, calm, conditions, laid).
  DERIVED. THE GIVEN ROWS OF THIS SEAT. 5 by the template 'for every input the law returns true; each argument reads behind the call as it read before'; 0 by the template 'total and deterministic' (their statements: YtaedicechhbhdaaTotals.lean).
  GIVEN WITH THE SEED: the statements are not yours to turn. If you find one false, say at which input.
  Laid BY PROGRAM, IN A SANDBOX (cutbox-rows.mjs): the forced cells as the released guide's own fill.sh prints them over the translation 6706cadbed95a477… (all of the seat's roots in one cut). By AI agents, Wed Nov 11 2026. No macro, syntax, notation, axiom, sorry.
-/
import Derived.Test.YtaedicechhbhdaaChecked
import GoSem.Claim
import GoSem.ClaimJoined
import GoSem.ClaimMapViews
import Derived.JoinedTies
import Derived.KernelRfl
namespace Go.Proofs.Ytaedicechhbhdaa
/- THE CELL 'sum', in the pinned program and in every row, IS THE sha256 OF THE DUMP (.gsa) THAT YtaedicechhbhdaaProg.lean LOADS. Nothing in Lean hashes anything: it is a label: what it is worth is what the hold of that sum in a sandbox is worth. -/
noncomputable def Try.pinned : Pinned := { name := "ytaedicechhbhdaa", sum := "6706cadbed95a4771a36ced0fba84978168a49fd5c14dc5d1bb97b4afc3df1aa", checked := Try.checked }
namespace Rows
def none {H : Type} : Left H := { results := [], args := [] }

/-- 'undertowlaw13.SbufFinds': WHATEVER THE INPUT: true; the input reads as it did. -/
def sbufFindsSpec : ChangeSpec := { name := "sbufFinds", fn := fun _ => fun
  | [d] => { results := [.lit (.bool true)], args := [d] }
  | _ => none }
def sbufFindsRow : OpenClaim := { program := "ytaedicechhbhdaa", sum := "6706cadbed95a4771a36ced0fba84978168a49fd5c14dc5d1bb97b4afc3df1aa", func := "undertow/undertowlaw13.SbufFinds", spec := "sbufFinds", unfollowed := true, recurses := true, apart := false }
def SbufFindsSaid : Prop := sbufFindsRow.holds Try.pinned (OpenSpec.ofChange sbufFindsSpec)

/-- ITS FALSE NEIGHBOUR: 'it returns false'. Refute it at one input. -/
def sbufFindsWrong : ChangeSpec := { name := "sbufFinds", fn := fun _ => fun
  | [d] => { results := [.lit (.bool false)], args := [d] }
  | _ => none }
def SbufFindsWrongFalsely : Prop := sbufFindsRow.holds Try.pinned (OpenSpec.ofChange sbufFindsWrong)

/-- 'undertowlaw13.SbufOrder': WHATEVER THE INPUT: true; the input reads as it did. -/
def sbufOrderSpec : ChangeSpec := { name := "sbufOrder", fn := fun _ => fun
  | [d1, d2] => { results := [.lit (.bool true)], args := [d1, d2] }
  | _ => none }
def sbufOrderRow : OpenClaim := { program := "ytaedicechhbhdaa", sum := "6706cadbed95a4771a36ced0fba84978168a49fd5c14dc5d1bb97b4afc3df1aa", func := "undertow/undertowlaw13.SbufOrder", spec := "sbufOrder", unfollowed := true, recurses := true, apart := false }
def SbufOrderSaid : Prop := sbufOrderRow.holds Try.pinned (OpenSpec.ofChange sbufOrderSpec)

/-- ITS FALSE NEIGHBOUR: 'it returns false'. Refute it at one input. -/
def sbufOrderWrong : ChangeSpec := { name := "sbufOrder", fn := fun _ => fun
  | [d1, d2] => { results := [.lit (.bool false)], args := [d1, d2] }
  | _ => none }
def SbufOrderWrongFalsely : Prop := sbufOrderRow.holds Try.pinned (OpenSpec.ofChange sbufOrderWrong)

/-- 'undertowlaw13.SbufSame': WHATEVER THE INPUT: true; the input reads as it did. -/
def sbufSameSpec : ChangeSpec := { name := "sbufSame", fn := fun _ => fun
  | [d1, d2] => { results := [.lit (.bool true)], args := [d1, d2] }
  | _ => none }
def sbufSameRow : OpenClaim := { program := "ytaedicechhbhdaa", sum := "6706cadbed95a4771a36ced0fba84978168a49fd5c14dc5d1bb97b4afc3df1aa", func := "undertow/undertowlaw13.SbufSame", spec := "sbufSame", unfollowed := true, recurses := true, apart := false }
def SbufSameSaid : Prop := sbufSameRow.holds Try.pinned (OpenSpec.ofChange sbufSameSpec)

/-- ITS FALSE NEIGHBOUR: 'it returns false'. Refute it at one input. -/
def sbufSameWrong : ChangeSpec := { name := "sbufSame", fn := fun _ => fun
  | [d1, d2] => { results := [.lit (.bool false)], args := [d1, d2] }
  | _ => none }
def SbufSameWrongFalsely : Prop := sbufSameRow.holds Try.pinned (OpenSpec.ofChange sbufSameWrong)

/-- 'undertowlaw13.SbufPlays': WHATEVER THE INPUT: true; the input reads as it did. -/
def sbufPlaysSpec : ChangeSpec := { name := "sbufPlays", fn := fun _ => fun
  | [d] => { results := [.lit (.bool true)], args := [d] }
  | _ => none }
def sbufPlaysRow : OpenClaim := { program := "ytaedicechhbhdaa", sum := "6706cadbed95a4771a36ced0fba84978168a49fd5c14dc5d1bb97b4afc3df1aa", func := "undertow/undertowlaw13.SbufPlays", spec := "sbufPlays", unfollowed := true, recurses := true, apart := false }
def SbufPlaysSaid : Prop := sbufPlaysRow.holds Try.pinned (OpenSpec.ofChange sbufPlaysSpec)

/-- ITS FALSE NEIGHBOUR: 'it returns false'. Refute it at one input. -/
def sbufPlaysWrong : ChangeSpec := { name := "sbufPlays", fn := fun _ => fun
  | [d] => { results := [.lit (.bool false)], args := [d] }
  | _ => none }
def SbufPlaysWrongFalsely : Prop := sbufPlaysRow.holds Try.pinned (OpenSpec.ofChange sbufPlaysWrong)

/-- 'undertowlaw13.SbufNone': WHATEVER THE INPUT: true; the input reads as it did. -/
def sbufNoneSpec : ChangeSpec := { name := "sbufNone", fn := fun _ => fun
  | [d] => { results := [.lit (.bool true)], args := [d] }
  | _ => none }
def sbufNoneRow : OpenClaim := { program := "ytaedicechhbhdaa", sum := "6706cadbed95a4771a36ced0fba84978168a49fd5c14dc5d1bb97b4afc3df1aa", func := "undertow/undertowlaw13.SbufNone", spec := "sbufNone", unfollowed := true, recurses := true, apart := false }
def SbufNoneSaid : Prop := sbufNoneRow.holds Try.pinned (OpenSpec.ofChange sbufNoneSpec)

/-- ITS FALSE NEIGHBOUR: 'it returns false'. Refute it at one input. -/
def sbufNoneWrong : ChangeSpec := { name := "sbufNone", fn := fun _ => fun
  | [d] => { results := [.lit (.bool false)], args := [d] }
  | _ => none }
def SbufNoneWrongFalsely : Prop := sbufNoneRow.holds Try.pinned (OpenSpec.ofChange sbufNoneWrong)

/- THE SECOND FORM. 'bulk': how many values and letters a reading holds, each counted each time it is reached (what is shared counts as often as it is met; a slice's spare places count too). A statement '..UptoSaid' is the law's where the arguments, and the package variables that the reading takes, are together of bulk at most 1048576: NARROWER than '..Said'. Prove '..Said' where nothing that the law and all that it calls make is longer than what came in: it says more and counts as full. Else prove '..UptoSaid'. A law counts once. -/
mutual
def uptoBulk {H : Type} : DataW H → Nat
  | .lit (.string bytes) => bytes.length + 1
  | .lit _ => 1
  | .nil => 1
  | .ptr d => uptoBulk d + 1
  | .slice elems spare => uptoBulkAll elems + uptoBulkAll spare + 1
  | .agg parts => uptoBulkAll parts + 1
  | .iface _ d => uptoBulk d + 1
  | .map entries => uptoBulkEntries entries + 1
  | .held _ => 1
def uptoBulkAll {H : Type} : List (DataW H) → Nat
  | [] => 0
  | d :: r => uptoBulk d + uptoBulkAll r
def uptoBulkEntries {H : Type} : List (Lit × DataW H) → Nat
  | [] => 0
  | x :: r => uptoBulkEntry x + uptoBulkEntries r
def uptoBulkEntry {H : Type} : Lit × DataW H → Nat
  | (.string bytes, d) => bytes.length + uptoBulk d + 1
  | (_, d) => uptoBulk d + 1
 end
def uptoSmall : (H : Type) → List (DataW H) → Bool := fun _ ds => decide (uptoBulkAll ds ≤ 1048576)
def OpenSpec.upto (s : _root_.Go.ChangeSpec) : _root_.Go.OpenSpec := { _root_.Go.OpenSpec.ofChange s with cond := some uptoSmall }

/-- 'undertowlaw13.SbufFinds', WHERE WHAT IT READS IS OF BULK AT MOST 1048576: true; the input reads as it did. -/
def sbufFindsUptoRow : OpenClaim := { program := "ytaedicechhbhdaa", sum := "6706cadbed95a4771a36ced0fba84978168a49fd5c14dc5d1bb97b4afc3df1aa", func := "undertow/undertowlaw13.SbufFinds", spec := "sbufFinds", unfollowed := true, recurses := true, apart := false, narrowed := true }
def SbufFindsUptoSaid : Prop := sbufFindsUptoRow.holds Try.pinned (OpenSpec.upto sbufFindsSpec)

/-- 'undertowlaw13.SbufOrder', WHERE WHAT IT READS IS OF BULK AT MOST 1048576: true; the input reads as it did. -/
def sbufOrderUptoRow : OpenClaim := { program := "ytaedicechhbhdaa", sum := "6706cadbed95a4771a36ced0fba84978168a49fd5c14dc5d1bb97b4afc3df1aa", func := "undertow/undertowlaw13.SbufOrder", spec := "sbufOrder", unfollowed := true, recurses := true, apart := false, narrowed := true }
def SbufOrderUptoSaid : Prop := sbufOrderUptoRow.holds Try.pinned (OpenSpec.upto sbufOrderSpec)

/-- 'undertowlaw13.SbufSame', WHERE WHAT IT READS IS OF BULK AT MOST 1048576: true; the input reads as it did. -/
def sbufSameUptoRow : OpenClaim := { program := "ytaedicechhbhdaa", sum := "6706cadbed95a4771a36ced0fba84978168a49fd5c14dc5d1bb97b4afc3df1aa", func := "undertow/undertowlaw13.SbufSame", spec := "sbufSame", unfollowed := true, recurses := true, apart := false, narrowed := true }
def SbufSameUptoSaid : Prop := sbufSameUptoRow.holds Try.pinned (OpenSpec.upto sbufSameSpec)

/-- 'undertowlaw13.SbufPlays', WHERE WHAT IT READS IS OF BULK AT MOST 1048576: true; the input reads as it did. -/
def sbufPlaysUptoRow : OpenClaim := { program := "ytaedicechhbhdaa", sum := "6706cadbed95a4771a36ced0fba84978168a49fd5c14dc5d1bb97b4afc3df1aa", func := "undertow/undertowlaw13.SbufPlays", spec := "sbufPlays", unfollowed := true, recurses := true, apart := false, narrowed := true }
def SbufPlaysUptoSaid : Prop := sbufPlaysUptoRow.holds Try.pinned (OpenSpec.upto sbufPlaysSpec)

/-- 'undertowlaw13.SbufNone', WHERE WHAT IT READS IS OF BULK AT MOST 1048576: true; the input reads as it did. -/
def sbufNoneUptoRow : OpenClaim := { program := "ytaedicechhbhdaa", sum := "6706cadbed95a4771a36ced0fba84978168a49fd5c14dc5d1bb97b4afc3df1aa", func := "undertow/undertowlaw13.SbufNone", spec := "sbufNone", unfollowed := true, recurses := true, apart := false, narrowed := true }
def SbufNoneUptoSaid : Prop := sbufNoneUptoRow.holds Try.pinned (OpenSpec.upto sbufNoneSpec)

end Rows
end Go.Proofs.Ytaedicechhbhdaa
