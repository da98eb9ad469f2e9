/- What is chosen is one of them, of one thing that one, the oldest's numbers choose the first one, and turned about in its sign a number chooses from the last one on: the law ChooseOne returns true whatever it is handed. No condition. -/
import Derived.Test.YtgcahipcbidojaaK03q
import Derived.Test.YtgcahipcbidojaaRows
set_option linter.unusedSimpArgs false
set_option linter.unusedVariables false
namespace Go.Proofs.Ytgcahipcbidojaa
open Go Go.Vm

theorem wf_f4 {b : Nat} (h : (Lit.float .f64 b).wf = true) : b < 18446744073709551616 := by simpa [Lit.wf, FloatKind.format] using h
theorem cho_lt (n a : Nat) (hn : 1 ≤ n) : cho n a < n := by
  have := Nat.mod_lt (whp a) (show 0 < n by omega)
  unfold cho
  split
  · split <;> omega
  · split <;> omega
theorem cho_neg (n a b : Nat) (hn : 1 ≤ n) (hr : rg b = rg a) (hs : 9223372036854775808 ≤ b ↔ ¬ 9223372036854775808 ≤ a) : cho n b = n - 1 - cho n a := by
  have := Nat.mod_lt (whp a) (show 0 < n by omega)
  have hw : whp b = whp a := by unfold whp; rw [hr]
  unfold cho
  rw [hr, hw]
  by_cases c : rg a = inf
  · rw [if_pos c, if_pos c]
    by_cases d : 9223372036854775808 ≤ a
    · rw [if_pos d, if_neg (by omega)]; omega
    · rw [if_neg d, if_pos (hs.2 d)]; omega
  · rw [if_neg c, if_neg c]
    by_cases d : 9223372036854775808 ≤ a
    · rw [if_pos d, if_neg (by omega)]; omega
    · rw [if_neg d, if_pos (hs.2 d)]
theorem cho_old (n a : Nat) (ha : a < 18446744073709551616) (hn : 1 ≤ n) (h : old a = true) : cho n a = 0 := by
  have hi := inf_eq
  have hr := rg_eq ha
  unfold old at h
  simp only [Bool.or_eq_true, decide_eq_true_eq] at h
  unfold cho
  rcases h with h | h
  · rw [if_pos (by omega)] at hr
    rw [if_pos (by omega), if_pos (by omega)]
  · rw [if_neg (by omega)] at hr
    rw [if_neg (by omega), if_neg (by omega)]
    have : whp a = 0 := by unfold whp; exact whp_small (by omega)
    rw [this, Nat.zero_mod]
theorem ChooseOne_true (n : Int) (a : Nat) (ha : a < 18446744073709551616) : evI pg .val n_undertowlaw03_ChooseOne [.int .i64 n, .flt a] [] = some (.bool true, []) := by
  have hi := inf_eq
  obtain ⟨b, hb⟩ : ∃ b, a ^^^ 2 ^ 63 = b := ⟨_, rfl⟩
  have hx := xor_sign ha
  rw [hb] at hx
  have hb2 : b < 18446744073709551616 := by rw [hx]; split <;> omega
  have hr : rg b = rg a := by rw [rg_eq ha, rg_eq hb2]; split at hx <;> split <;> (try split) <;> omega
  have hs : 9223372036854775808 ≤ b ↔ ¬ 9223372036854775808 ≤ a := by split at hx <;> omega
  have h1 := chOf_ok n a ha
  have h2 := chOf_ok n b hb2
  have h3 := chOf_ok 1 a ha
  have h4 := None_ok a ha
  have h5 := Oldest_ok a ha
  have ho : okc n b = okc n a := by unfold okc; rw [hr]
  unfold chV at h1 h2 h3
  rw [ho] at h2
  rw [s_fn fn_undertowlaw03_ChooseOne]
  have c1' : okc 1 a = decide (¬ inf < rg a) := by
    unfold okc
    rw [Bool.eq_iff_iff]
    simp only [decide_eq_true_eq]
    omega
  have one0 : cho (1 : Int).toNat a = 0 := by have := cho_lt 1 a (by omega); show cho 1 a = 0; omega
  rw [c1', one0] at h3
  by_cases c : okc n a = true
  · have hc : 1 ≤ n ∧ n ≤ 1048576 ∧ ¬ inf < rg a := by unfold okc at c; simpa only [decide_eq_true_eq] using c
    rw [if_pos c] at h1 h2
    rw [decide_eq_true hc.2.2, if_pos rfl] at h3
    rw [decide_eq_false hc.2.2] at h4
    obtain ⟨k, rfl⟩ : ∃ k : Nat, n = k := ⟨n.toNat, by omega⟩
    rw [Int.toNat_natCast] at h1 h2
    have hl := cho_lt k a (by omega)
    have hn := cho_neg k a b (by omega) hr hs
    rw [hn] at h2
    have q1 : ¬ (k : Int) < 1 := by omega
    have q2 : ¬ (1048576 : Int) < (k : Int) := by omega
    have ek : IntKind.i64.wrap ((k : Int) - 1) = ((k - 1 : Nat) : Int) := by rw [wrap_i64 (by omega) (by omega)]; omega
    have h6 := cho_old k a ha (by omega)
    revert hl h1 h2 hn h6
    generalize cho k a = R
    intro h1 h2 hl hn h6
    have e2 : IntKind.i64.wrap (((k - 1 : Nat) : Int) - (R : Int)) = ((k - 1 - R : Nat) : Int) := by rw [wrap_i64 (by omega) (by omega)]; omega
    have q3 : (0 : Int) ≤ (R : Int) := by omega
    cases o : old a with
    | true =>
      rw [o] at h5
      have := h6 o
      subst this
      have e3 : IntKind.i64.wrap ((k - 1 : Nat) : Int) = ((k - 1 : Nat) : Int) := wrap_i64 (by omega) (by omega)
      simp [e3, ir_undertowlaw03_ChooseOne, go_sem, alive03, hb, h1, h2, h3, h4, h5, q1, q2, ek, e2, hl, unV]
    | false =>
      rw [o] at h5
      simp [ir_undertowlaw03_ChooseOne, go_sem, alive03, hb, h1, h2, h3, h4, h5, q1, q2, q3, ek, e2, hl, unV]
  · rw [if_neg c] at h1 h2
    have hc : n < 1 ∨ 1048576 < n ∨ inf < rg a := by
      unfold okc at c
      simp only [decide_eq_true_eq] at c
      omega
    by_cases q1 : n < 1
    · by_cases d : inf < rg a
      · rw [decide_eq_false (by omega), if_neg (by simp)] at h3
        simp [ir_undertowlaw03_ChooseOne, go_sem, alive03, hb, h1, h2, h3, q1, unV]
      · rw [decide_eq_true d, if_pos rfl] at h3
        simp [ir_undertowlaw03_ChooseOne, go_sem, alive03, hb, h1, h2, h3, q1, unV]
    by_cases q2 : 1048576 < n
    · by_cases d : inf < rg a
      · rw [decide_eq_false (by omega), if_neg (by simp)] at h3
        simp [ir_undertowlaw03_ChooseOne, go_sem, alive03, hb, h1, h2, h3, q1, q2, unV]
      · rw [decide_eq_true d, if_pos rfl] at h3
        simp [ir_undertowlaw03_ChooseOne, go_sem, alive03, hb, h1, h2, h3, q1, q2, unV]
    have d : inf < rg a := by omega
    rw [decide_eq_true d] at h4
    rw [decide_eq_false (by omega), if_neg (by simp)] at h3
    simp [ir_undertowlaw03_ChooseOne, go_sem, alive03, hb, h1, h2, h3, h4, q1, q2, unV]
theorem law_one : ∀ vs, PArgs Try.prog 8 Try.f5.params.toList vs → ∃ k, evF pg k .val 5 vs [] = some (.bool true, []) := by
  intro vs h
  obtain ⟨v1, _, rfl, h1, v2, _, rfl, h2, rfl⟩ := h
  obtain ⟨n, rfl, _⟩ := arg_i64 Try.underlying3 h1
  obtain ⟨a, rfl, ha⟩ := arg_flt Try.underlying22 h2
  exact (evI_iff (hx _ _)).1 (ChooseOne_true n a (wf_f4 ha))
end Go.Proofs.Ytgcahipcbidojaa
