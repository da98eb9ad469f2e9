/- Which of however many things every number chooses is the document's: the law ChooseOf returns true whatever it is handed. No condition. -/
import Derived.Test.YtgcahipcbidojaaK03q
import Derived.Test.YtgcahipcbidojaaRows
set_option linter.unusedSimpArgs false
set_option linter.unusedVariables false
namespace Go.Proofs.Ytgcahipcbidojaa
open Go Go.Vm

theorem wf_f3 {b : Nat} (h : (Lit.float .f64 b).wf = true) : b < 18446744073709551616 := by simpa [Lit.wf, FloatKind.format] using h
theorem ChooseOf_true (n : Int) (a : Nat) (ha : a < 18446744073709551616) : evI pg .val n_undertowlaw03_ChooseOf [.int .i64 n, .flt a] [] = some (.bool true, []) := by
  have h1 := chOf_ok n a ha
  have h2 := refOf_ok n a ha
  rw [s_fn fn_undertowlaw03_ChooseOf]
  unfold chV at h1 h2
  by_cases c : okc n a = true
  · rw [if_pos c] at h1 h2
    simp [ir_undertowlaw03_ChooseOf, go_sem, alive03, h1, h2, unV]
  · rw [if_neg c] at h1 h2
    simp [ir_undertowlaw03_ChooseOf, go_sem, alive03, h1, h2, unV]
theorem law_of : ∀ vs, PArgs Try.prog 8 Try.f3.params.toList vs → ∃ k, evF pg k .val 3 vs [] = some (.bool true, []) := by
  intro vs h
  obtain ⟨v1, _, rfl, h1, v2, _, rfl, h2, rfl⟩ := h
  obtain ⟨n, rfl, _⟩ := arg_i64 Try.underlying3 h1
  obtain ⟨a, rfl, ha⟩ := arg_flt Try.underlying22 h2
  exact (evI_iff (hx _ _)).1 (ChooseOf_true n a (wf_f3 ha))
end Go.Proofs.Ytgcahipcbidojaa
