/-  No condition. -/
import Derived.Test.YtffbhbjnkecieaaL08b
import Derived.Test.YtffbhbjnkecieaaRows
set_option linter.unusedSimpArgs false
set_option linter.unusedVariables false
namespace Go.Proofs.Ytffbhbjnkecieaa.aluBack
open Go Go.Vm Go.ChangeShapes Go.WideShapes Go.ChangeAt Go.RowKit
theorem own : ownKnob Try.prog.godebug = none := by kernel_rfl
set_option maxRecDepth 100000 in
theorem lifted (os : Os) (started : os.Started) (H : Type) (enc : TypeId × Value → H) :
    ReturnsInHanded {} Try.checked os 7 .any (Rows.aluBackSpec.pre6 enc Try.prog Try.f7 Rows.aluBackRow.domain false) (Rows.aluBackSpec.post enc Try.prog Try.f7 false true false false) :=
  law_lifted (C := Try.checked) (n := 8) (tb := 4) os started own (by kernel_rfl) Try.func7 (by kernel_rfl) (tgP_ok Try.prog) (pgOf_ok Try.prog Go.Proofs.Ytffbhbjnkecieaa.hints) (by kernel_rfl) (by kernel_rfl) (by kernel_rfl) Try.underlying4 rfl
    (fun ds h => by
      match ds, h with
      | [d1, d2, d3], _ => rfl)
    (ChangeSpec.witness6 (enc := enc) (C := Try.checked) false ⟨#[], #[.int .u64 0, .int .u64 0, .int .u8 0], []⟩ 8 (by kernel_rfl) (by kernel_rfl) (by kernel_rfl) (by kernel_rfl))
    Go.Proofs.Ytffbhbjnkecieaa.law_back
theorem over : Rows.aluBackRow.holds Try.pinned (OpenSpec.ofChange Rows.aluBackSpec) :=
  OpenClaim.holds_of_wide 7 Try.f7 rfl rfl rfl rfl rfl rfl rfl ⟨rfl, rfl, rfl, rfl, rfl⟩ rfl rfl rfl rfl rfl (by kernel_rfl) Try.func7 (by kernel_rfl)
    (of_decide_eq_true (by kernel_rfl)) (by unfold Func.isWrapper; first | (rw [if_pos (by decide +kernel)]; kernel_rfl) | (rw [if_neg (by decide +kernel)]; exact ⟨rfl, rfl⟩))
    (fun os started H enc _ => lifted os started H enc)
/-- The statement. -/
theorem proved : Rows.AluBackSaid := over
end Go.Proofs.Ytffbhbjnkecieaa.aluBack
