/-
  DERIVED. GIVEN WITH THE SEED: THE CARDS: each row of YtkjfedgjjgobaaaDoorRows.lean that lists a variable, with what it lists TIED to the program's text (the seventh form; the later family's looks); each row that meets fmt, with fmt's text TOLD by the authors' own Lean function (tested against real Go, not proved from fmt's source: count such statements apart). THE CARD IS WHAT COUNTS. Prove the row's statement (the work); the ties are given (YtkjfedgjjgobaaaDoorTie.lean); close each card by the builder's one call (the guide's Derived/Test/ToyasCard.lean, 'card_holds'). Laid BY PROGRAM, IN A SANDBOX (cutbox-door.mjs). By AI agents, Wed Nov 11 2026. No macro, syntax, notation, axiom, sorry.
-/
import Derived.Test.YtkjfedgjjgobaaaDoorRows
import GoSem.ClaimSeven
namespace Go.Proofs.YtkjfedgjjgobaaaDoor
namespace Rows

/-- THE TIED CARD OF 'undertowlaw19.RelCloses'. -/
def relClosesCard : Claim7 := { stood := { row := relClosesRow, standIns := [], harness := (true, "b1532261c6eac33c31bab65466cef332a3ccf39d27d5691dfdfd9b0a0f6eedc0"), looks := false }, kinds := [], alts := [], laidByText := true, laidKinds := [.data], laidTests := true, laidLooks := .later }
def RelClosesCardSaid : Prop := Claim7.holds Tryd.pinned (.plain (OpenSpec.ofChange relClosesSpec)) relClosesCard

/-- THE TIED CARD OF 'undertowlaw19.RelPairs'. -/
def relPairsCard : Claim7 := { stood := { row := relPairsRow, standIns := [], harness := (true, "b1532261c6eac33c31bab65466cef332a3ccf39d27d5691dfdfd9b0a0f6eedc0"), looks := false }, kinds := [], alts := [], laidByText := true, laidKinds := [.data], laidTests := true, laidLooks := .later }
def RelPairsCardSaid : Prop := Claim7.holds Tryd.pinned (.plain (OpenSpec.ofChange relPairsSpec)) relPairsCard

/-- THE TIED CARD OF 'undertowlaw19.RelOrders'. -/
def relOrdersCard : Claim7 := { stood := { row := relOrdersRow, standIns := [], harness := (true, "b1532261c6eac33c31bab65466cef332a3ccf39d27d5691dfdfd9b0a0f6eedc0"), looks := false }, kinds := [], alts := [], laidByText := true, laidKinds := [.data], laidTests := true, laidLooks := .later }
def RelOrdersCardSaid : Prop := Claim7.holds Tryd.pinned (.plain (OpenSpec.ofChange relOrdersSpec)) relOrdersCard

/-- THE TIED CARD OF 'undertowlaw19.RelMeets'. -/
def relMeetsCard : Claim7 := { stood := { row := relMeetsRow, standIns := [], harness := (true, "b1532261c6eac33c31bab65466cef332a3ccf39d27d5691dfdfd9b0a0f6eedc0"), looks := false }, kinds := [], alts := [], laidByText := true, laidKinds := [.data], laidTests := true, laidLooks := .later }
def RelMeetsCardSaid : Prop := Claim7.holds Tryd.pinned (.plain (OpenSpec.ofChange relMeetsSpec)) relMeetsCard

/-- THE SECOND FORM's CARD OF 'undertowlaw19.RelCloses'. -/
def relClosesUptoCard : Claim7 := { stood := { row := relClosesUptoRow, standIns := [], harness := (true, "b1532261c6eac33c31bab65466cef332a3ccf39d27d5691dfdfd9b0a0f6eedc0"), looks := false }, kinds := [], alts := [], laidByText := true, laidKinds := [.data], laidTests := true, laidLooks := .later }
def RelClosesUptoCardSaid : Prop := Claim7.holds Tryd.pinned (.plain (OpenSpec.upto relClosesSpec)) relClosesUptoCard

/-- THE SECOND FORM's CARD OF 'undertowlaw19.RelPairs'. -/
def relPairsUptoCard : Claim7 := { stood := { row := relPairsUptoRow, standIns := [], harness := (true, "b1532261c6eac33c31bab65466cef332a3ccf39d27d5691dfdfd9b0a0f6eedc0"), looks := false }, kinds := [], alts := [], laidByText := true, laidKinds := [.data], laidTests := true, laidLooks := .later }
def RelPairsUptoCardSaid : Prop := Claim7.holds Tryd.pinned (.plain (OpenSpec.upto relPairsSpec)) relPairsUptoCard

/-- THE SECOND FORM's CARD OF 'undertowlaw19.RelOrders'. -/
def relOrdersUptoCard : Claim7 := { stood := { row := relOrdersUptoRow, standIns := [], harness := (true, "b1532261c6eac33c31bab65466cef332a3ccf39d27d5691dfdfd9b0a0f6eedc0"), looks := false }, kinds := [], alts := [], laidByText := true, laidKinds := [.data], laidTests := true, laidLooks := .later }
def RelOrdersUptoCardSaid : Prop := Claim7.holds Tryd.pinned (.plain (OpenSpec.upto relOrdersSpec)) relOrdersUptoCard

/-- THE SECOND FORM's CARD OF 'undertowlaw19.RelMeets'. -/
def relMeetsUptoCard : Claim7 := { stood := { row := relMeetsUptoRow, standIns := [], harness := (true, "b1532261c6eac33c31bab65466cef332a3ccf39d27d5691dfdfd9b0a0f6eedc0"), looks := false }, kinds := [], alts := [], laidByText := true, laidKinds := [.data], laidTests := true, laidLooks := .later }
def RelMeetsUptoCardSaid : Prop := Claim7.holds Tryd.pinned (.plain (OpenSpec.upto relMeetsSpec)) relMeetsUptoCard
end Rows
end Go.Proofs.YtkjfedgjjgobaaaDoor
