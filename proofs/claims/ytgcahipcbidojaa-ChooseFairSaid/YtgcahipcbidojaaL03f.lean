/- Whether all picks are fair, and how many runs are whole, is the document's: the law ChooseFair returns true whatever it is handed. No condition. -/
import Derived.Test.YtgcahipcbidojaaK03c
import Derived.Test.YtgcahipcbidojaaRows
set_option linter.unusedSimpArgs false
set_option linter.unusedVariables false
namespace Go.Proofs.Ytgcahipcbidojaa
open Go Go.Vm

theorem ChooseFair_true (v : V) (l : List Pk) (hv : Sl v (pkR l)) (hok : okP l) (w : Int) (hw : w ≤ 9223372036854775807) (hw' : -9223372036854775808 ≤ w) : evI pg .val n_undertowlaw03_ChooseFair [v, .int .i64 w] [] = some (.bool true, []) := by
  rw [s_fn fn_undertowlaw03_ChooseFair]
  by_cases hL : l.length ≤ 2000
  · have h1 := Fair_ok v l hv hok (by omega) w hw hw'
    have h2 := refFair_ok v l hv hok (by omega) w hw
    have h3 := Windows_ok v l hv (by omega) w hw
    have hgt : ¬ (2000 : Int) < (l.length : Int) := by omega
    by_cases h : 1 ≤ w
    · obtain ⟨k, rfl⟩ : ∃ k : Nat, w = k := ⟨w.toNat, by omega⟩
      have e : (l.length : Int).tdiv (k : Int) = ((l.length / k : Nat) : Int) := rfl
      have hq := Nat.div_le_self l.length k
      have ew : wins l.length (k : Int) = l.length / k := by unfold wins; rw [if_neg (by omega)]; rfl
      rw [ew] at h3
      have h0 : ¬ k = 0 := by omega
      revert e hq h3
      generalize l.length / k = q
      intro h3 e hq
      have e2 : IntKind.i64.wrap (q : Int) = (q : Int) := wrap_i64 (by omega) (by omega)
      simp [ir_undertowlaw03_ChooseFair, go_sem, alive03, hv.is, hv.rows, pkR_len, hgt, h, e, e2, h0, h1, h2, h3, unV]
    · have ew : wins l.length w = 0 := by unfold wins; rw [if_pos (by omega)]
      rw [ew] at h3
      simp [ir_undertowlaw03_ChooseFair, go_sem, alive03, hv.is, hv.rows, pkR_len, hgt, h, h1, h2, h3, unV]
  · have hgt : (2000 : Int) < (l.length : Int) := by omega
    simp [ir_undertowlaw03_ChooseFair, go_sem, alive03, hv.is, hv.rows, pkR_len, hgt, unV]
theorem law_fair : ∀ vs, PArgs Try.prog 8 Try.f6.params.toList vs → ∃ k, evF pg k .val 6 vs [] = some (.bool true, []) := by
  intro vs h
  obtain ⟨v1, _, rfl, h1, v2, _, rfl, h2, rfl⟩ := h
  obtain ⟨l, hl, hok⟩ := arg_pks (n := 5) h1
  obtain ⟨w, rfl, hw1, hw2⟩ := arg_i64 Try.underlying3 h2
  exact (evI_iff (hx _ _)).1 (ChooseFair_true v1 l hl hok w hw2 hw1)
end Go.Proofs.Ytgcahipcbidojaa
