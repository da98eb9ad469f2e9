/- All fields of every word are the document's: the law WordFields returns true whatever it is handed. No condition. -/
import Derived.Test.YtblaimfdeiccpaaVf
import Derived.Test.YtblaimfdeiccpaaK01
import Derived.Test.YtblaimfdeiccpaaRows
set_option linter.unusedSimpArgs false
set_option linter.unusedVariables false
namespace Go.Proofs.Ytblaimfdeiccpaa
open Go Go.Vm

theorem alive_ok : evI pg .val n_undertowlaw01_alive [] [] = some (.bool true, []) := closed irL_ok 100 (by kernel_rfl)
theorem WordFields_true (w : Nat) (hi lo : Int) (hw : w < 4294967296) : evI pg .val n_undertowlaw01_WordFields [.int .u32 w, .int .i64 hi, .int .i64 lo] [] = some (.bool true, []) := by
  rw [s_fn fn_undertowlaw01_WordFields]
  simp [ir_undertowlaw01_WordFields, go_sem, callF, alive_ok, Field_ok w hi lo hw, refField_ok w hi lo hw, unV]
theorem law : ∀ vs, PArgs Try.prog 6 Try.f4.params.toList vs → ∃ k, evF pg k .val 4 vs [] = some (.bool true, []) := by
  intro vs h
  obtain ⟨v1, _, rfl, h1, v2, _, rfl, h2, v3, _, rfl, h3, rfl⟩ := h
  obtain ⟨w, rfl, hw⟩ := arg_u32 Try.underlying26 h1
  obtain ⟨hi, rfl, _⟩ := arg_i64 Try.underlying3 h2
  obtain ⟨lo, rfl, _⟩ := arg_i64 Try.underlying3 h3
  exact (evI_iff (hx _ _)).1 (WordFields_true w hi lo hw)
end Go.Proofs.Ytblaimfdeiccpaa
