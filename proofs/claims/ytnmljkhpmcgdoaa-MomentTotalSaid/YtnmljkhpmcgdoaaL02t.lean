/- Of two moments one is ahead, or they are the same: the law MomentTotal returns true whatever it is handed. No condition. -/
import Derived.Test.YtnmljkhpmcgdoaaK02b
import Derived.Test.YtnmljkhpmcgdoaaRows
set_option linter.unusedSimpArgs false
set_option linter.unusedVariables false
namespace Go.Proofs.Ytnmljkhpmcgdoaa
open Go Go.Vm

theorem wf_fltT {b : Nat} (h : (Lit.float .f64 b).wf = true) : b < 18446744073709551616 := by
  simpa [Lit.wf, FloatKind.format] using h
theorem alive02T : evI pg .val n_undertowlaw02_alive [] [] = some (.bool true, []) := closed irL_ok 300 (by kernel_rfl)
theorem MomentTotal_true (a b c : Nat) (ha : a < 18446744073709551616) (hb : b < 18446744073709551616) (hc : c < 18446744073709551616) : evI pg .val n_undertowlaw02_MomentTotal [.flt a, .flt b, .flt c] [] = some (.bool true, []) := by
  have h1 := Less_ok a b ha hb
  have h2 := Less_ok b a hb ha
  have h3 := Same_ok a b ha hb
  have h4 := Same_ok a a ha ha
  have h5 := Less_ok b c hb hc
  have h6 := Less_ok a c ha hc
  rw [decide_eq_true rfl] at h4
  have w1 : IntKind.i64.wrap 1 = 1 := by rfl
  rw [s_fn fn_undertowlaw02_MomentTotal]
  rcases Nat.lt_trichotomy (rk a) (rk b) with d | d | d
  · have d2 : ¬ rk b < rk a := by omega
    have d3 : ¬ rk a = rk b := by omega
    rw [decide_eq_true d] at h1
    rw [decide_eq_false d2] at h2
    rw [decide_eq_false d3] at h3
    by_cases e : rk b < rk c
    · have f : rk a < rk c := by omega
      rw [decide_eq_true e] at h5
      rw [decide_eq_true f] at h6
      simp [ir_undertowlaw02_MomentTotal, go_sem, alive02T, h1, h2, h3, h4, h5, h6, w1, unV]
    · rw [decide_eq_false e] at h5
      simp [ir_undertowlaw02_MomentTotal, go_sem, alive02T, h1, h2, h3, h4, h5, w1, unV]
  · have d1 : ¬ rk a < rk b := by omega
    have d2 : ¬ rk b < rk a := by omega
    rw [decide_eq_false d1] at h1
    rw [decide_eq_false d2] at h2
    rw [decide_eq_true d] at h3
    simp [ir_undertowlaw02_MomentTotal, go_sem, alive02T, h1, h2, h3, h4, w1, unV]
  · have d1 : ¬ rk a < rk b := by omega
    have d3 : ¬ rk a = rk b := by omega
    rw [decide_eq_false d1] at h1
    rw [decide_eq_true d] at h2
    rw [decide_eq_false d3] at h3
    simp [ir_undertowlaw02_MomentTotal, go_sem, alive02T, h1, h2, h3, h4, w1, unV]
theorem law_total : ∀ vs, PArgs Try.prog 3 Try.f6.params.toList vs → ∃ k, evF pg k .val 6 vs [] = some (.bool true, []) := by
  intro vs h
  obtain ⟨v1, _, rfl, h1, v2, _, rfl, h2, v3, _, rfl, h3, rfl⟩ := h
  obtain ⟨a, rfl, ha⟩ := arg_flt Try.underlying22 h1
  obtain ⟨b, rfl, hb⟩ := arg_flt Try.underlying22 h2
  obtain ⟨c, rfl, hc⟩ := arg_flt Try.underlying22 h3
  exact (evI_iff (hx _ _)).1 (MomentTotal_true a b c (wf_fltT ha) (wf_fltT hb) (wf_fltT hc))
end Go.Proofs.Ytnmljkhpmcgdoaa
