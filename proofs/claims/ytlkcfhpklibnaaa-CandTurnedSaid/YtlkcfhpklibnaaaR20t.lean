/-  No condition. -/
import Derived.Test.YtlkcfhpklibnaaaL20t
import Derived.Test.YtlkcfhpklibnaaaRows
set_option linter.unusedSimpArgs false
set_option linter.unusedVariables false
namespace Go.Proofs.Ytlkcfhpklibnaaa.candTurned
open Go Go.Vm Go.ChangeShapes Go.WideShapes Go.ChangeAt Go.RowKit
theorem own : ownKnob Try.prog.godebug = none := by kernel_rfl
set_option maxRecDepth 100000 in
theorem lifted (os : Os) (started : os.Started) (H : Type) (enc : TypeId × Value → H) :
    ReturnsInHanded {} Try.checked os 5 .any (Rows.candTurnedSpec.pre6 enc Try.prog Try.f5 Rows.candTurnedRow.domain false) (Rows.candTurnedSpec.post enc Try.prog Try.f5 false true false false) :=
  law_lifted (C := Try.checked) (n := 8) (tb := 4) os started own (by kernel_rfl) Try.func5 (by kernel_rfl) (tgP_ok Try.prog) (pgOf_ok Try.prog Go.Proofs.Ytlkcfhpklibnaaa.hints Go.Proofs.Ytlkcfhpklibnaaa.glT) (by kernel_rfl) (by kernel_rfl) (by kernel_rfl) Try.underlying4 rfl
    (fun ds h => by
      match ds, h with
      | [d1, d2, d3, d4], _ => rfl)
    (ChangeSpec.witness6 (enc := enc) (C := Try.checked) false ⟨#[], #[.agg #[.slice none 0 0, .slice none 0 0, .slice none 0 0, .slice none 0 0, .slice none 0 0], .int .u8 0, .int .u8 0, .int .i64 0], []⟩ 8 (by kernel_rfl) (by kernel_rfl) (by kernel_rfl) (by kernel_rfl))
    Go.Proofs.Ytlkcfhpklibnaaa.law_turned
theorem over : Rows.candTurnedRow.holds Try.pinned (OpenSpec.ofChange Rows.candTurnedSpec) :=
  OpenClaim.holds_of_wide 5 Try.f5 rfl rfl rfl rfl rfl rfl rfl ⟨rfl, rfl, rfl, rfl, rfl⟩ rfl rfl rfl rfl rfl (by kernel_rfl) Try.func5 (by kernel_rfl)
    (of_decide_eq_true (by kernel_rfl)) (by unfold Func.isWrapper; first | (rw [if_pos (by decide +kernel)]; kernel_rfl) | (rw [if_neg (by decide +kernel)]; exact ⟨rfl, rfl⟩))
    (fun os started H enc _ => lifted os started H enc)
/-- The statement. -/
theorem proved : Rows.CandTurnedSaid := over
end Go.Proofs.Ytlkcfhpklibnaaa.candTurned
