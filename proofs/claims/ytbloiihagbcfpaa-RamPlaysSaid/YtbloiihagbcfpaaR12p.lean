/-  No condition. -/
import Derived.Test.YtbloiihagbcfpaaL12p
import Derived.Test.YtbloiihagbcfpaaRows
set_option linter.unusedSimpArgs false
set_option linter.unusedVariables false
namespace Go.Proofs.Ytbloiihagbcfpaa.ramPlays
open Go Go.Vm Go.ChangeShapes Go.WideShapes Go.ChangeAt Go.RowKit
theorem own : ownKnob Try.prog.godebug = none := by kernel_rfl
set_option maxRecDepth 100000 in
theorem lifted (os : Os) (started : os.Started) (H : Type) (enc : TypeId × Value → H) :
    ReturnsInHanded {} Try.checked os 4 .any (Rows.ramPlaysSpec.pre6 enc Try.prog Try.f4 Rows.ramPlaysRow.domain false) (Rows.ramPlaysSpec.post enc Try.prog Try.f4 false true false false) :=
  law_lifted (C := Try.checked) (n := 8) (tb := 4) os started own (by kernel_rfl) Try.func4 (by kernel_rfl) (tgP_ok Try.prog) (pgOf_ok Try.prog Go.Proofs.Ytbloiihagbcfpaa.hints) (by kernel_rfl) (by kernel_rfl) (by kernel_rfl) Try.underlying4 rfl
    (fun ds h => by
      match ds, h with
      | [d1, d2], _ => rfl)
    (ChangeSpec.witness6 (enc := enc) (C := Try.checked) false ⟨#[], #[.slice none 0 0, .slice none 0 0], []⟩ 8 (by kernel_rfl) (by kernel_rfl) (by kernel_rfl) (by kernel_rfl))
    Go.Proofs.Ytbloiihagbcfpaa.law_plays
theorem over : Rows.ramPlaysRow.holds Try.pinned (OpenSpec.ofChange Rows.ramPlaysSpec) :=
  OpenClaim.holds_of_wide 4 Try.f4 rfl rfl rfl rfl rfl rfl rfl ⟨rfl, rfl, rfl, rfl, rfl⟩ rfl rfl rfl rfl rfl (by kernel_rfl) Try.func4 (by kernel_rfl)
    (of_decide_eq_true (by kernel_rfl)) (by unfold Func.isWrapper; first | (rw [if_pos (by decide +kernel)]; kernel_rfl) | (rw [if_neg (by decide +kernel)]; exact ⟨rfl, rfl⟩))
    (fun os started H enc _ => lifted os started H enc)
/-- The statement. -/
theorem proved : Rows.RamPlaysSaid := over
end Go.Proofs.Ytbloiihagbcfpaa.ramPlays
