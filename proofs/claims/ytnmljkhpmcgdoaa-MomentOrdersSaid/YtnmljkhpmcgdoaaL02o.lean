/- Which of all moments stands ahead is the document's: the law MomentOrders returns true whatever it is handed. No condition. -/
import Derived.Test.YtnmljkhpmcgdoaaK02b
import Derived.Test.YtnmljkhpmcgdoaaRows
set_option linter.unusedSimpArgs false
set_option linter.unusedVariables false
namespace Go.Proofs.Ytnmljkhpmcgdoaa
open Go Go.Vm

theorem wf_flt {b : Nat} (h : (Lit.float .f64 b).wf = true) : b < 18446744073709551616 := by
  simpa [Lit.wf, FloatKind.format] using h
theorem alive02 : evI pg .val n_undertowlaw02_alive [] [] = some (.bool true, []) := closed irL_ok 300 (by kernel_rfl)
theorem MomentOrders_true (a b : Nat) (ha : a < 18446744073709551616) (hb : b < 18446744073709551616) : evI pg .val n_undertowlaw02_MomentOrders [.flt a, .flt b] [] = some (.bool true, []) := by
  have h1 := Less_ok a b ha hb
  have h2 := refLess_ok a b ha hb
  have h3 := Same_ok a b ha hb
  have h4 := Rank_ok a ha
  have h5 := Rank_ok b hb
  rw [s_fn fn_undertowlaw02_MomentOrders]
  by_cases c : rk a = rk b
  · have c' : (rk a : Int) = (rk b : Int) := by omega
    simp [ir_undertowlaw02_MomentOrders, go_sem, alive02, h1, h2, h3, h4, h5, c, unV]
  · have c' : ¬ (rk a : Int) = (rk b : Int) := by omega
    simp [ir_undertowlaw02_MomentOrders, go_sem, alive02, h1, h2, h3, h4, h5, c, c', unV]
theorem law : ∀ vs, PArgs Try.prog 3 Try.f5.params.toList vs → ∃ k, evF pg k .val 5 vs [] = some (.bool true, []) := by
  intro vs h
  obtain ⟨v1, _, rfl, h1, v2, _, rfl, h2, rfl⟩ := h
  obtain ⟨a, rfl, ha⟩ := arg_flt Try.underlying22 h1
  obtain ⟨b, rfl, hb⟩ := arg_flt Try.underlying22 h2
  exact (evI_iff (hx _ _)).1 (MomentOrders_true a b (wf_flt ha) (wf_flt hb))
end Go.Proofs.Ytnmljkhpmcgdoaa
