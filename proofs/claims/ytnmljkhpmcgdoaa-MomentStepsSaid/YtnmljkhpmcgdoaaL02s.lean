/- Every step's moment and every moment's step are the document's: the law MomentSteps returns true whatever it is handed. No condition. -/
import Derived.Test.YtnmljkhpmcgdoaaK02j
set_option linter.unusedSimpArgs false
set_option linter.unusedVariables false
namespace Go.Proofs.Ytnmljkhpmcgdoaa
open Go Go.Vm

theorem MomentSteps_true (v : Int) (m : Nat) (hm : m < 18446744073709551616) : evI pg .val n_undertowlaw02_MomentSteps [.int .i64 v, .flt m] [] = some (.bool true, []) := by
  have h1 := Step_ok m hm
  have h2 := refStep_ok m hm
  have h3 := First_ok
  have h4 := Later_ok
  have h5 := Never_ok
  rw [s_fn fn_undertowlaw02_MomentSteps]
  by_cases c : v < 0 ∨ 9007199254740992 < v
  · have h6 := Of_bad v c
    by_cases c1 : v < 0
    · simp [ir_undertowlaw02_MomentSteps, go_sem, alive02s, h1, h2, h3, h4, h5, h6, Rank_first, Rank_later, None_never, c1, unV]
    · have c2 : 9007199254740992 < v := by omega
      simp [ir_undertowlaw02_MomentSteps, go_sem, alive02s, h1, h2, h3, h4, h5, h6, Rank_first, Rank_later, None_never, c1, c2, unV]
  · obtain ⟨n, rfl⟩ : ∃ n : Nat, v = n := ⟨v.toNat, by omega⟩
    have hn : n ≤ 9007199254740992 := by omega
    have h6 := Of_ok n hn
    have hl := wn_le n hn
    have h7 := refStep_ok (wn n) (by omega)
    obtain ⟨w1, w2⟩ := step_wn n hn
    rw [w2, decide_eq_true w1] at h7
    have c2 : ¬ 9007199254740992 < (n : Int) := by omega
    have c3 : ¬ 9007199254740992 < n := by omega
    simp [ir_undertowlaw02_MomentSteps, go_sem, alive02s, h1, h2, h3, h4, h5, h6, h7, Rank_first, Rank_later, None_never, c2, c3, unV]
theorem law_steps : ∀ vs, PArgs Try.prog 3 Try.f3.params.toList vs → ∃ k, evF pg k .val 3 vs [] = some (.bool true, []) := by
  intro vs h
  obtain ⟨v1, _, rfl, h1, v2, _, rfl, h2, rfl⟩ := h
  obtain ⟨v, rfl, _⟩ := arg_i64 Try.underlying3 h1
  obtain ⟨m, rfl, hm⟩ := arg_flt Try.underlying22 h2
  exact (evI_iff (hx _ _)).1 (MomentSteps_true v m (wf_f hm))
end Go.Proofs.Ytnmljkhpmcgdoaa
