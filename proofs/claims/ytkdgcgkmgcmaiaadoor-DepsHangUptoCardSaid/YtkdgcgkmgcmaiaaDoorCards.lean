/-
  DERIVED. GIVEN WITH THE SEED: THE CARDS: each row of YtkdgcgkmgcmaiaaDoorRows.lean that lists a variable, with what it lists TIED to the program's text (the seventh form; the later family's looks); each row that meets fmt, with fmt's text TOLD by the authors' own Lean function (tested against real Go, not proved from fmt's source: count such statements apart). THE CARD IS WHAT COUNTS. Prove the row's statement (the work); the ties are given (YtkdgcgkmgcmaiaaDoorTie.lean); close each card by the builder's one call (the guide's Derived/Test/ToyasCard.lean, 'card_holds'). Laid BY PROGRAM, IN A SANDBOX (cutbox-door.mjs). By AI agents, Wed Nov 11 2026. No macro, syntax, notation, axiom, sorry.
-/
import Derived.Test.YtkdgcgkmgcmaiaaDoorRows
import GoSem.ClaimSeven
namespace Go.Proofs.YtkdgcgkmgcmaiaaDoor
namespace Rows

/-- THE TIED CARD OF 'undertowlaw21.DepsHang'. -/
def depsHangCard : Claim7 := { stood := { row := depsHangRow, standIns := [], harness := (true, "769f9c1e20b7e26c5d0e2b0cb5985a7a6fe3dc0fe741f2eca9d2b4b0c4324ae9"), looks := false }, kinds := [], alts := [], laidByText := true, laidKinds := [.data], laidTests := true, laidLooks := .later }
def DepsHangCardSaid : Prop := Claim7.holds Tryd.pinned (.plain (OpenSpec.ofChange depsHangSpec)) depsHangCard

/-- THE TIED CARD OF 'undertowlaw21.DepsRoots'. -/
def depsRootsCard : Claim7 := { stood := { row := depsRootsRow, standIns := [], harness := (true, "769f9c1e20b7e26c5d0e2b0cb5985a7a6fe3dc0fe741f2eca9d2b4b0c4324ae9"), looks := false }, kinds := [], alts := [], laidByText := true, laidKinds := [.data], laidTests := true, laidLooks := .later }
def DepsRootsCardSaid : Prop := Claim7.holds Tryd.pinned (.plain (OpenSpec.ofChange depsRootsSpec)) depsRootsCard

/-- THE TIED CARD OF 'undertowlaw21.DepsBehind'. -/
def depsBehindCard : Claim7 := { stood := { row := depsBehindRow, standIns := [], harness := (true, "769f9c1e20b7e26c5d0e2b0cb5985a7a6fe3dc0fe741f2eca9d2b4b0c4324ae9"), looks := false }, kinds := [], alts := [], laidByText := true, laidKinds := [.data], laidTests := true, laidLooks := .later }
def DepsBehindCardSaid : Prop := Claim7.holds Tryd.pinned (.plain (OpenSpec.ofChange depsBehindSpec)) depsBehindCard

/-- THE TIED CARD OF 'undertowlaw21.DepsApart'. -/
def depsApartCard : Claim7 := { stood := { row := depsApartRow, standIns := [], harness := (true, "769f9c1e20b7e26c5d0e2b0cb5985a7a6fe3dc0fe741f2eca9d2b4b0c4324ae9"), looks := false }, kinds := [], alts := [], laidByText := true, laidKinds := [.data], laidTests := true, laidLooks := .later }
def DepsApartCardSaid : Prop := Claim7.holds Tryd.pinned (.plain (OpenSpec.ofChange depsApartSpec)) depsApartCard

/-- THE SECOND FORM's CARD OF 'undertowlaw21.DepsHang'. -/
def depsHangUptoCard : Claim7 := { stood := { row := depsHangUptoRow, standIns := [], harness := (true, "769f9c1e20b7e26c5d0e2b0cb5985a7a6fe3dc0fe741f2eca9d2b4b0c4324ae9"), looks := false }, kinds := [], alts := [], laidByText := true, laidKinds := [.data], laidTests := true, laidLooks := .later }
def DepsHangUptoCardSaid : Prop := Claim7.holds Tryd.pinned (.plain (OpenSpec.upto depsHangSpec)) depsHangUptoCard

/-- THE SECOND FORM's CARD OF 'undertowlaw21.DepsRoots'. -/
def depsRootsUptoCard : Claim7 := { stood := { row := depsRootsUptoRow, standIns := [], harness := (true, "769f9c1e20b7e26c5d0e2b0cb5985a7a6fe3dc0fe741f2eca9d2b4b0c4324ae9"), looks := false }, kinds := [], alts := [], laidByText := true, laidKinds := [.data], laidTests := true, laidLooks := .later }
def DepsRootsUptoCardSaid : Prop := Claim7.holds Tryd.pinned (.plain (OpenSpec.upto depsRootsSpec)) depsRootsUptoCard

/-- THE SECOND FORM's CARD OF 'undertowlaw21.DepsBehind'. -/
def depsBehindUptoCard : Claim7 := { stood := { row := depsBehindUptoRow, standIns := [], harness := (true, "769f9c1e20b7e26c5d0e2b0cb5985a7a6fe3dc0fe741f2eca9d2b4b0c4324ae9"), looks := false }, kinds := [], alts := [], laidByText := true, laidKinds := [.data], laidTests := true, laidLooks := .later }
def DepsBehindUptoCardSaid : Prop := Claim7.holds Tryd.pinned (.plain (OpenSpec.upto depsBehindSpec)) depsBehindUptoCard

/-- THE SECOND FORM's CARD OF 'undertowlaw21.DepsApart'. -/
def depsApartUptoCard : Claim7 := { stood := { row := depsApartUptoRow, standIns := [], harness := (true, "769f9c1e20b7e26c5d0e2b0cb5985a7a6fe3dc0fe741f2eca9d2b4b0c4324ae9"), looks := false }, kinds := [], alts := [], laidByText := true, laidKinds := [.data], laidTests := true, laidLooks := .later }
def DepsApartUptoCardSaid : Prop := Claim7.holds Tryd.pinned (.plain (OpenSpec.upto depsApartSpec)) depsApartUptoCard
end Rows
end Go.Proofs.YtkdgcgkmgcmaiaaDoor
