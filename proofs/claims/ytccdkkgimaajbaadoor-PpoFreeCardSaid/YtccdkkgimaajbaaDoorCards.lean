/-
  DERIVED. GIVEN WITH THE SEED: THE CARDS: each row of YtccdkkgimaajbaaDoorRows.lean that lists a variable, with what it lists TIED to the program's text (the seventh form; the later family's looks); each row that meets fmt, with fmt's text TOLD by the authors' own Lean function (tested against real Go, not proved from fmt's source: count such statements apart). THE CARD IS WHAT COUNTS. Prove the row's statement (the work); the ties are given (YtccdkkgimaajbaaDoorTie.lean); close each card by the builder's one call (the guide's Derived/Test/ToyasCard.lean, 'card_holds'). Laid BY PROGRAM, IN A SANDBOX (cutbox-door.mjs). By AI agents, Wed Nov 11 2026. No macro, syntax, notation, axiom, sorry.
-/
import Derived.Test.YtccdkkgimaajbaaDoorRows
import GoSem.ClaimSeven
namespace Go.Proofs.YtccdkkgimaajbaaDoor
namespace Rows

/-- THE TIED CARD OF 'undertowlaw22.PpoAhead'. -/
def ppoAheadCard : Claim7 := { stood := { row := ppoAheadRow, standIns := [], harness := (true, "5eb0e8bdb8a748fb9074a0839297c8eac1d5cabb794b4474663b053a4aec61ca"), looks := false }, kinds := [], alts := [], laidByText := true, laidKinds := [.data], laidTests := true, laidLooks := .later }
def PpoAheadCardSaid : Prop := Claim7.holds Tryd.pinned (.plain (OpenSpec.ofChange ppoAheadSpec)) ppoAheadCard

/-- THE TIED CARD OF 'undertowlaw22.PpoMore'. -/
def ppoMoreCard : Claim7 := { stood := { row := ppoMoreRow, standIns := [], harness := (true, "5eb0e8bdb8a748fb9074a0839297c8eac1d5cabb794b4474663b053a4aec61ca"), looks := false }, kinds := [], alts := [], laidByText := true, laidKinds := [.data], laidTests := true, laidLooks := .later }
def PpoMoreCardSaid : Prop := Claim7.holds Tryd.pinned (.plain (OpenSpec.ofChange ppoMoreSpec)) ppoMoreCard

/-- THE TIED CARD OF 'undertowlaw22.PpoFree'. -/
def ppoFreeCard : Claim7 := { stood := { row := ppoFreeRow, standIns := [], harness := (true, "5eb0e8bdb8a748fb9074a0839297c8eac1d5cabb794b4474663b053a4aec61ca"), looks := false }, kinds := [], alts := [], laidByText := true, laidKinds := [.data], laidTests := true, laidLooks := .later }
def PpoFreeCardSaid : Prop := Claim7.holds Tryd.pinned (.plain (OpenSpec.ofChange ppoFreeSpec)) ppoFreeCard

/-- THE TIED CARD OF 'undertowlaw22.PpoCut'. -/
def ppoCutCard : Claim7 := { stood := { row := ppoCutRow, standIns := [], harness := (true, "5eb0e8bdb8a748fb9074a0839297c8eac1d5cabb794b4474663b053a4aec61ca"), looks := false }, kinds := [], alts := [], laidByText := true, laidKinds := [.data], laidTests := true, laidLooks := .later }
def PpoCutCardSaid : Prop := Claim7.holds Tryd.pinned (.plain (OpenSpec.ofChange ppoCutSpec)) ppoCutCard

/-- THE SECOND FORM's CARD OF 'undertowlaw22.PpoAhead'. -/
def ppoAheadUptoCard : Claim7 := { stood := { row := ppoAheadUptoRow, standIns := [], harness := (true, "5eb0e8bdb8a748fb9074a0839297c8eac1d5cabb794b4474663b053a4aec61ca"), looks := false }, kinds := [], alts := [], laidByText := true, laidKinds := [.data], laidTests := true, laidLooks := .later }
def PpoAheadUptoCardSaid : Prop := Claim7.holds Tryd.pinned (.plain (OpenSpec.upto ppoAheadSpec)) ppoAheadUptoCard

/-- THE SECOND FORM's CARD OF 'undertowlaw22.PpoMore'. -/
def ppoMoreUptoCard : Claim7 := { stood := { row := ppoMoreUptoRow, standIns := [], harness := (true, "5eb0e8bdb8a748fb9074a0839297c8eac1d5cabb794b4474663b053a4aec61ca"), looks := false }, kinds := [], alts := [], laidByText := true, laidKinds := [.data], laidTests := true, laidLooks := .later }
def PpoMoreUptoCardSaid : Prop := Claim7.holds Tryd.pinned (.plain (OpenSpec.upto ppoMoreSpec)) ppoMoreUptoCard

/-- THE SECOND FORM's CARD OF 'undertowlaw22.PpoFree'. -/
def ppoFreeUptoCard : Claim7 := { stood := { row := ppoFreeUptoRow, standIns := [], harness := (true, "5eb0e8bdb8a748fb9074a0839297c8eac1d5cabb794b4474663b053a4aec61ca"), looks := false }, kinds := [], alts := [], laidByText := true, laidKinds := [.data], laidTests := true, laidLooks := .later }
def PpoFreeUptoCardSaid : Prop := Claim7.holds Tryd.pinned (.plain (OpenSpec.upto ppoFreeSpec)) ppoFreeUptoCard

/-- THE SECOND FORM's CARD OF 'undertowlaw22.PpoCut'. -/
def ppoCutUptoCard : Claim7 := { stood := { row := ppoCutUptoRow, standIns := [], harness := (true, "5eb0e8bdb8a748fb9074a0839297c8eac1d5cabb794b4474663b053a4aec61ca"), looks := false }, kinds := [], alts := [], laidByText := true, laidKinds := [.data], laidTests := true, laidLooks := .later }
def PpoCutUptoCardSaid : Prop := Claim7.holds Tryd.pinned (.plain (OpenSpec.upto ppoCutSpec)) ppoCutUptoCard
end Rows
end Go.Proofs.YtccdkkgimaajbaaDoor
