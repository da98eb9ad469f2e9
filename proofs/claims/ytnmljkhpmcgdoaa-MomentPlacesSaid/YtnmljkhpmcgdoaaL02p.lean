/- Steps' moments stand as the steps: the law MomentPlaces returns true whatever it is handed. No condition. -/
import Derived.Test.YtnmljkhpmcgdoaaK02j
set_option linter.unusedSimpArgs false
set_option linter.unusedVariables false
namespace Go.Proofs.Ytnmljkhpmcgdoaa
open Go Go.Vm

theorem MomentPlaces_true (i k : Int) (m : Nat) (hm : m < 18446744073709551616) : evI pg .val n_undertowlaw02_MomentPlaces [.int .i64 i, .int .i64 k, .flt m] [] = some (.bool true, []) := by
  have h3 := First_ok
  have h4 := Later_ok
  have h5 := Never_ok
  have l1 := Less_ok 9221120237041090561 m (by omega) hm
  have l2 := Less_ok m 18442240474082181120 hm (by omega)
  have r1 := rk_le m
  have r2 := rk_ge m hm
  rw [rk_never, decide_eq_false (by omega)] at l1
  rw [rk_first, decide_eq_false (by omega)] at l2
  rw [s_fn fn_undertowlaw02_MomentPlaces]
  by_cases c : i < 0 ∨ 9007199254740992 < i
  · have h6 := Of_bad i c
    by_cases d : k < 0 ∨ 9007199254740992 < k
    · have h7 := Of_bad k d
      simp [ir_undertowlaw02_MomentPlaces, go_sem, alive02s, h3, h4, h5, h6, h7, l1, l2, unV]
    · obtain ⟨q, rfl⟩ : ∃ n : Nat, k = n := ⟨k.toNat, by omega⟩
      have h7 := Of_ok q (by omega)
      simp [ir_undertowlaw02_MomentPlaces, go_sem, alive02s, h3, h4, h5, h6, h7, l1, l2, unV]
  · obtain ⟨p, rfl⟩ : ∃ n : Nat, i = n := ⟨i.toNat, by omega⟩
    have hp : p ≤ 9007199254740992 := by omega
    have h6 := Of_ok p hp
    by_cases d : k < 0 ∨ 9007199254740992 < k
    · have h7 := Of_bad k d
      simp [ir_undertowlaw02_MomentPlaces, go_sem, alive02s, h3, h4, h5, h6, h7, l1, l2, unV]
    · obtain ⟨q, rfl⟩ : ∃ n : Nat, k = n := ⟨k.toNat, by omega⟩
      have hq : q ≤ 9007199254740992 := by omega
      have h7 := Of_ok q hq
      have w1 := wn_le p hp
      have w2 := wn_le q hq
      have l3 := Less_ok (wn p) (wn q) (by omega) (by omega)
      have l4 := Less_ok 18442240474082181120 (wn p) (by omega) (by omega)
      have l5 := Less_ok (wn p) 9218868437227405312 (by omega) (by omega)
      have hlt := wn_lt_iff p q hp hq
      have e3 : decide (rk (wn p) < rk (wn q)) = decide (p < q) := by
        rw [rk_wn p hp, rk_wn q hq]
        by_cases z : p < q
        · have := hlt.2 z
          rw [decide_eq_true z, decide_eq_true (by omega)]
        · have : ¬ wn p < wn q := fun h => z (hlt.1 h)
          rw [decide_eq_false z, decide_eq_false (by omega)]
      rw [e3] at l3
      rw [rk_first, rk_wn p hp, decide_eq_true (by omega)] at l4
      rw [rk_later, rk_wn p hp, decide_eq_true (by omega)] at l5
      have s := Step_ok (wn p) (by omega)
      obtain ⟨s1, s2⟩ := step_wn p hp
      rw [s2, decide_eq_true s1] at s
      simp [ir_undertowlaw02_MomentPlaces, go_sem, alive02s, h3, h4, h5, h6, h7, l1, l2, l3, l4, l5, s, unV]
theorem law_places : ∀ vs, PArgs Try.prog 3 Try.f4.params.toList vs → ∃ k, evF pg k .val 4 vs [] = some (.bool true, []) := by
  intro vs h
  obtain ⟨v1, _, rfl, h1, v2, _, rfl, h2, v3, _, rfl, h3, rfl⟩ := h
  obtain ⟨i, rfl, _⟩ := arg_i64 Try.underlying3 h1
  obtain ⟨k, rfl, _⟩ := arg_i64 Try.underlying3 h2
  obtain ⟨m, rfl, hm⟩ := arg_flt Try.underlying22 h3
  exact (evI_iff (hx _ _)).1 (MomentPlaces_true i k m (wf_f hm))
end Go.Proofs.Ytnmljkhpmcgdoaa
