/-  No condition. -/
import Derived.Test.YtlkcfhpklibnaaaL20c
import Derived.Test.YtlkcfhpklibnaaaRows
set_option linter.unusedSimpArgs false
set_option linter.unusedVariables false
namespace Go.Proofs.Ytlkcfhpklibnaaa.candChecks
open Go Go.Vm Go.ChangeShapes Go.WideShapes Go.ChangeAt Go.RowKit
theorem own : ownKnob Try.prog.godebug = none := by kernel_rfl
set_option maxRecDepth 100000 in
theorem lifted (os : Os) (started : os.Started) (H : Type) (enc : TypeId × Value → H) :
    ReturnsInHanded {} Try.checked os 4 .any (Rows.candChecksSpec.pre6 enc Try.prog Try.f4 Rows.candChecksRow.domain false) (Rows.candChecksSpec.post enc Try.prog Try.f4 false true false false) :=
  law_lifted (C := Try.checked) (n := 8) (tb := 4) os started own (by kernel_rfl) Try.func4 (by kernel_rfl) (tgP_ok Try.prog) (pgOf_ok Try.prog Go.Proofs.Ytlkcfhpklibnaaa.hints Go.Proofs.Ytlkcfhpklibnaaa.glT) (by kernel_rfl) (by kernel_rfl) (by kernel_rfl) Try.underlying4 rfl
    (fun ds h => by
      match ds, h with
      | [d], _ => rfl)
    (ChangeSpec.witness6 (enc := enc) (C := Try.checked) false ⟨#[], #[.agg #[.slice none 0 0, .slice none 0 0, .slice none 0 0, .slice none 0 0, .slice none 0 0]], []⟩ 8 (by kernel_rfl) (by kernel_rfl) (by kernel_rfl) (by kernel_rfl))
    Go.Proofs.Ytlkcfhpklibnaaa.law_checks
theorem over : Rows.candChecksRow.holds Try.pinned (OpenSpec.ofChange Rows.candChecksSpec) :=
  OpenClaim.holds_of_wide 4 Try.f4 rfl rfl rfl rfl rfl rfl rfl ⟨rfl, rfl, rfl, rfl, rfl⟩ rfl rfl rfl rfl rfl (by kernel_rfl) Try.func4 (by kernel_rfl)
    (of_decide_eq_true (by kernel_rfl)) (by unfold Func.isWrapper; first | (rw [if_pos (by decide +kernel)]; kernel_rfl) | (rw [if_neg (by decide +kernel)]; exact ⟨rfl, rfl⟩))
    (fun os started H enc _ => lifted os started H enc)
/-- The statement. -/
theorem proved : Rows.CandChecksSaid := over
end Go.Proofs.Ytlkcfhpklibnaaa.candChecks
