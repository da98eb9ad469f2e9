/- What is put and not drained is found, byte by byte, and nothing else. No condition. -/
import Derived.Test.YtaedicechhbhdaaL13f
import Derived.Test.YtaedicechhbhdaaRows
set_option linter.unusedSimpArgs false
set_option linter.unusedVariables false
namespace Go.Proofs.Ytaedicechhbhdaa.sbufFinds
open Go Go.Vm Go.ChangeShapes Go.WideShapes Go.ChangeAt Go.RowKit
theorem own : ownKnob Try.prog.godebug = none := by kernel_rfl
set_option maxRecDepth 100000 in
theorem lifted (os : Os) (started : os.Started) (H : Type) (enc : TypeId × Value → H) :
    ReturnsInHanded {} Try.checked os 3 .any (Rows.sbufFindsSpec.pre6 enc Try.prog Try.f3 Rows.sbufFindsRow.domain false) (Rows.sbufFindsSpec.post enc Try.prog Try.f3 false true false false) :=
  law_lifted (C := Try.checked) (n := 8) (tb := 4) os started own (by kernel_rfl) Try.func3 (by kernel_rfl) (tgP_ok Try.prog) (pgOf_ok Try.prog Go.Proofs.Ytaedicechhbhdaa.hints) (by kernel_rfl) (by kernel_rfl) (by kernel_rfl) Try.underlying4 rfl
    (fun ds h => by
      match ds, h with
      | [d], _ => rfl)
    (ChangeSpec.witness6 (enc := enc) (C := Try.checked) false ⟨#[], #[.slice none 0 0], []⟩ 8 (by kernel_rfl) (by kernel_rfl) (by kernel_rfl) (by kernel_rfl))
    Go.Proofs.Ytaedicechhbhdaa.law_finds
theorem over : Rows.sbufFindsRow.holds Try.pinned (OpenSpec.ofChange Rows.sbufFindsSpec) :=
  OpenClaim.holds_of_wide 3 Try.f3 rfl rfl rfl rfl rfl rfl rfl ⟨rfl, rfl, rfl, rfl, rfl⟩ rfl rfl rfl rfl rfl (by kernel_rfl) Try.func3 (by kernel_rfl)
    (of_decide_eq_true (by kernel_rfl)) (by unfold Func.isWrapper; first | (rw [if_pos (by decide +kernel)]; kernel_rfl) | (rw [if_neg (by decide +kernel)]; exact ⟨rfl, rfl⟩))
    (fun os started H enc _ => lifted os started H enc)
/-- The statement. -/
theorem proved : Rows.SbufFindsSaid := over
end Go.Proofs.Ytaedicechhbhdaa.sbufFinds
