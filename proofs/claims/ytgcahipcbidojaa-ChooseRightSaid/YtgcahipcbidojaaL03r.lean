/- Whether every number is the oldest's, and every pick is right, is the document's: the law ChooseRight returns true whatever it is handed. No condition. -/
import Derived.Test.YtgcahipcbidojaaK03c
import Derived.Test.YtgcahipcbidojaaRows
set_option linter.unusedSimpArgs false
set_option linter.unusedVariables false
namespace Go.Proofs.Ytgcahipcbidojaa
open Go Go.Vm

theorem ChooseRight_true (p : Pk) (h : p.at_ < 18446744073709551616) : evI pg .val n_undertowlaw03_ChooseRight [.agg (pkV p)] [] = some (.bool true, []) := by
  have h1 := Oldest_ok p.at_ h
  have h2 := refOldest_ok p.at_ h
  have h3 := Right_ok p
  have h4 := refRight_ok p
  obtain ⟨c, u, a⟩ := p
  simp only [pkV] at *
  rw [s_fn fn_undertowlaw03_ChooseRight]
  simp [ir_undertowlaw03_ChooseRight, go_sem, alive03, h1, h2, h3, h4, unV]
theorem law_right : ∀ vs, PArgs Try.prog 8 Try.f4.params.toList vs → ∃ k, evF pg k .val 4 vs [] = some (.bool true, []) := by
  intro vs h
  obtain ⟨v1, _, rfl, h1, rfl⟩ := h
  obtain ⟨q, rfl, hq⟩ := arg_struct Try.underlying28 h1
  obtain ⟨p, rfl, hp⟩ := pk_of (n := 6) (q := q) (by simpa only [PV, Try.underlying28] using hq)
  exact (evI_iff (hx _ _)).1 (ChooseRight_true p hp)
end Go.Proofs.Ytgcahipcbidojaa
