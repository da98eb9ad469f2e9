/-
  DERIVED. GIVEN WITH THE SEED: THE CARDS: each row of YtimiademofajeaaGreatDoorRows.lean that lists a variable, with what it lists TIED to the program's text (the seventh form; the later family's looks); each row that meets fmt, with fmt's text TOLD by the authors' own Lean function (tested against real Go, not proved from fmt's source: count such statements apart). THE CARD IS WHAT COUNTS. Prove the row's statement (the work); the ties are given (YtimiademofajeaaGreatDoorTie.lean); close each card by the builder's one call (the guide's Derived/Test/ToyasCard.lean, 'card_holds'). Laid BY PROGRAM, IN A SANDBOX (cutbox-door.mjs). By AI agents, Wed Nov 11 2026. No macro, syntax, notation, axiom, sorry.
-/
import Derived.Test.YtimiademofajeaaGreatDoorRows
import GoSem.ClaimSeven
namespace Go.Proofs.YtimiademofajeaaGreatDoor
namespace Rows

/-- THE TIED CARD OF 'undertowlaw23.GmoJudges'. -/
def gmoJudgesCard : Claim7 := { stood := { row := gmoJudgesRow, standIns := [], harness := (true, "8bbab50fce849b24ed388c25f939925cf4c085d432d657e240b29144a6d9a374"), looks := false }, kinds := [], alts := [], laidByText := true, laidKinds := [.data], laidTests := true, laidLooks := .later }
def GmoJudgesCardSaid : Prop := Claim7.holds Tryz.pinned (.plain (OpenSpec.ofChange gmoJudgesSpec)) gmoJudgesCard

/-- THE TIED CARD OF 'undertowlaw23.GmoMeets'. -/
def gmoMeetsCard : Claim7 := { stood := { row := gmoMeetsRow, standIns := [], harness := (true, "8bbab50fce849b24ed388c25f939925cf4c085d432d657e240b29144a6d9a374"), looks := false }, kinds := [], alts := [], laidByText := true, laidKinds := [.data], laidTests := true, laidLooks := .later }
def GmoMeetsCardSaid : Prop := Claim7.holds Tryz.pinned (.plain (OpenSpec.ofChange gmoMeetsSpec)) gmoMeetsCard

/-- THE TIED CARD OF 'undertowlaw23.GmoFits'. -/
def gmoFitsCard : Claim7 := { stood := { row := gmoFitsRow, standIns := [], harness := (true, "8bbab50fce849b24ed388c25f939925cf4c085d432d657e240b29144a6d9a374"), looks := false }, kinds := [], alts := [], laidByText := true, laidKinds := [.data], laidTests := true, laidLooks := .later }
def GmoFitsCardSaid : Prop := Claim7.holds Tryz.pinned (.plain (OpenSpec.ofChange gmoFitsSpec)) gmoFitsCard

/-- THE TIED CARD OF 'undertowlaw23.GmoHarts'. -/
def gmoHartsCard : Claim7 := { stood := { row := gmoHartsRow, standIns := [], harness := (true, "8bbab50fce849b24ed388c25f939925cf4c085d432d657e240b29144a6d9a374"), looks := false }, kinds := [], alts := [], laidByText := true, laidKinds := [.data], laidTests := true, laidLooks := .later }
def GmoHartsCardSaid : Prop := Claim7.holds Tryz.pinned (.plain (OpenSpec.ofChange gmoHartsSpec)) gmoHartsCard

/-- THE SECOND FORM's CARD OF 'undertowlaw23.GmoJudges'. -/
def gmoJudgesUptoCard : Claim7 := { stood := { row := gmoJudgesUptoRow, standIns := [], harness := (true, "8bbab50fce849b24ed388c25f939925cf4c085d432d657e240b29144a6d9a374"), looks := false }, kinds := [], alts := [], laidByText := true, laidKinds := [.data], laidTests := true, laidLooks := .later }
def GmoJudgesUptoCardSaid : Prop := Claim7.holds Tryz.pinned (.plain (OpenSpec.upto gmoJudgesSpec)) gmoJudgesUptoCard

/-- THE SECOND FORM's CARD OF 'undertowlaw23.GmoMeets'. -/
def gmoMeetsUptoCard : Claim7 := { stood := { row := gmoMeetsUptoRow, standIns := [], harness := (true, "8bbab50fce849b24ed388c25f939925cf4c085d432d657e240b29144a6d9a374"), looks := false }, kinds := [], alts := [], laidByText := true, laidKinds := [.data], laidTests := true, laidLooks := .later }
def GmoMeetsUptoCardSaid : Prop := Claim7.holds Tryz.pinned (.plain (OpenSpec.upto gmoMeetsSpec)) gmoMeetsUptoCard

/-- THE SECOND FORM's CARD OF 'undertowlaw23.GmoFits'. -/
def gmoFitsUptoCard : Claim7 := { stood := { row := gmoFitsUptoRow, standIns := [], harness := (true, "8bbab50fce849b24ed388c25f939925cf4c085d432d657e240b29144a6d9a374"), looks := false }, kinds := [], alts := [], laidByText := true, laidKinds := [.data], laidTests := true, laidLooks := .later }
def GmoFitsUptoCardSaid : Prop := Claim7.holds Tryz.pinned (.plain (OpenSpec.upto gmoFitsSpec)) gmoFitsUptoCard

/-- THE SECOND FORM's CARD OF 'undertowlaw23.GmoHarts'. -/
def gmoHartsUptoCard : Claim7 := { stood := { row := gmoHartsUptoRow, standIns := [], harness := (true, "8bbab50fce849b24ed388c25f939925cf4c085d432d657e240b29144a6d9a374"), looks := false }, kinds := [], alts := [], laidByText := true, laidKinds := [.data], laidTests := true, laidLooks := .later }
def GmoHartsUptoCardSaid : Prop := Claim7.holds Tryz.pinned (.plain (OpenSpec.upto gmoHartsSpec)) gmoHartsUptoCard
end Rows
end Go.Proofs.YtimiademofajeaaGreatDoor
