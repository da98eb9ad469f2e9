/- The law GmoFits returns true whatever it is handed; its row, its card. No condition beside what the row lists. -/
import Derived.Test.YtimiademofajeaaGreatDoorPL23f
import Derived.Test.YtimiademofajeaaGreatDoorCards
import Derived.Test.YtimiademofajeaaGreatDoorTie
import Derived.LaidMore
import Derived.Lay
import Derived.SevenTiedAt
import Derived.Stop.Joined
set_option linter.unusedSimpArgs false
set_option linter.unusedVariables false
namespace Go.Proofs.YtimiademofajeaaGreatDoor.gmoFits
open Go Go.Vm Go.ChangeShapes Go.WideShapes Go.ChangeAt Go.RowKit
theorem own:ownKnob Tryz.prog.godebug=none:=by kernel_rfl
abbrev laid : List (String × DataW Unit) := [("math/bits.deBruijn64tab", Rows.laid_math_bits_deBruijn64tab)]
theorem laid_eq : laid = [("math/bits.deBruijn64tab", .agg (Go.Proofs.YtimiademofajeaaGreatDoor.glN.map fun n => .lit (.int .u8 n)))] := rfl
theorem glob (W:World) (h:laidMetH Tryz.prog laid W):GI Go.Proofs.YtimiademofajeaaGreatDoor.glT (Gh.imm fun _ b o=>∃ q∈Go.Proofs.YtimiademofajeaaGreatDoor.glT,q.1=b∧o<q.2.length) W:=
 gi_of_laid (P := Tryz.prog) (name := "math/bits.deBruijn64tab") (g := 0) (t := 156) (e := 5) (ns := Go.Proofs.YtimiademofajeaaGreatDoor.glN) (by kernel_rfl) (by kernel_rfl) Tryz.underlying156 Tryz.underlying5 (by kernel_rfl) (laid_eq ▸ h)
end Go.Proofs.YtimiademofajeaaGreatDoor.gmoFits
