/- Layer 3: Of, by the program and by the document (no claim; lemmas). -/
import Derived.Test.YtgcahipcbidojaaK03o
set_option linter.unusedSimpArgs false
set_option linter.unusedVariables false
namespace Go.Proofs.Ytgcahipcbidojaa
open Go Go.Vm

/-- The whole part of a word's size. -/
def whp (a : Nat) : Nat := vr (rg a) / 2 ^ 1074
/-- Which of some things a number chooses. -/
def cho (n a : Nat) : Nat := if rg a = inf then (if 9223372036854775808 ≤ a then 0 else n - 1) else if 9223372036854775808 ≤ a then n - 1 - whp a % n else whp a % n
def okc (n : Int) (a : Nat) : Bool := decide (1 ≤ n ∧ n ≤ 1048576 ∧ ¬ inf < rg a)
def chV (n : Int) (a : Nat) : V := if okc n a = true then .tup [.int .i64 ((cho n.toNat a : Nat) : Int), .bool true] else .tup [.int .i64 0, .bool false]
theorem inf_gt {a : Nat} (ha : a < 18446744073709551616) (hi : rg a = inf) : (Ieee.double.order a 0 == some .lt) = decide (9223372036854775808 ≤ a) := by
  have hi2 := inf_eq
  have hr := rg_eq ha
  have hs := sv_eq ha
  have s0 : sv 0 = 0 := by decide
  have r0 : rg 0 = 0 := by decide
  rw [order_eq, if_neg (by omega), s0]
  by_cases d : 9223372036854775808 ≤ a
  · rw [if_pos d] at hs hr
    rw [(cmp_lt _ _).2 (by omega), decide_eq_true d]
    rfl
  · rw [if_neg d] at hs
    rw [decide_eq_false d]
    exact cmp_ne fun h => by have := (cmp_lt _ _).1 h; omega
theorem vr_one : vr 4607182418800017408 = 2 ^ 1074 := by
  have e1 : mg 4607182418800017408 = 2 ^ 52 := by decide
  have e2 : ex 4607182418800017408 = 1022 := by decide
  unfold vr
  obtain ⟨x, hx⟩ : ∃ x, ex 4607182418800017408 = x := ⟨_, rfl⟩
  rw [hx, e1, ← Nat.pow_add]
  congr 1
  omega
theorem Nrm_wn (n : Nat) (h1 : 1 ≤ n) (h : n < 9007199254740992) : Nrm (wn n) := by
  obtain ⟨h2, h3⟩ := wn_w n h
  refine ⟨?_, h2⟩
  have h5 : vr 4607182418800017408 ≤ vr (wn n) := by
    rw [h3, vr_one]
    exact Nat.le_mul_of_pos_left _ h1
  have := vr_lt_iff (wn n) 4607182418800017408
  omega
theorem chOf_ok (n : Int) (a : Nat) (ha : a < 18446744073709551616) : evI pg .val n_choose_Of [.int .i64 n, .flt a] [] = some (chV n a, []) := by
  have hi := inf_eq
  have hN := IsNaN_ok a
  have hS := Signbit_ok a ha
  rw [ng_eq ha] at hS
  rw [s_fn fn_choose_Of]
  unfold chV okc
  by_cases c1 : n < 1
  · rw [decide_eq_false (by omega)]
    simp [ir_choose_Of, go_sem, c1]
  by_cases c2 : 1048576 < n
  · rw [decide_eq_false (by omega)]
    simp [ir_choose_Of, go_sem, c1, c2]
  by_cases c3 : inf < rg a
  · rw [decide_eq_true c3] at hN
    rw [decide_eq_false (by omega)]
    simp [ir_choose_Of, go_sem, c1, c2, hN]
  rw [decide_eq_false c3] at hN
  rw [decide_eq_true (show 1 ≤ n ∧ n ≤ 1048576 ∧ ¬ inf < rg a from ⟨by omega, by omega, c3⟩), if_pos rfl]
  obtain ⟨k, rfl⟩ : ∃ k : Nat, n = k := ⟨n.toNat, by omega⟩
  rw [Int.toNat_natCast]
  have hI := IsInf_ok a ha c3
  have ek : IntKind.i64.wrap ((k : Int) - 1) = ((k - 1 : Nat) : Int) := by rw [wrap_i64 (by omega) (by omega)]; omega
  unfold cho
  by_cases c4 : rg a = inf
  · rw [decide_eq_true c4] at hI
    rw [if_pos c4]
    have ho := inf_gt ha c4
    by_cases d : 9223372036854775808 ≤ a
    · rw [decide_eq_true d] at hS ho
      rw [if_pos d]
      simp [ir_choose_Of, go_sem, c1, c2, hN, hI, hS, ho, unV]
    · rw [decide_eq_false d] at hS ho
      rw [if_neg d]
      simp [ir_choose_Of, go_sem, c1, c2, hN, hI, hS, ho, ek, unV]
  · rw [decide_eq_false c4] at hI
    rw [if_neg c4]
    have hA := Abs_ok a ha
    obtain ⟨w, w1, w2, hF⟩ := FloorW_ok (rg a) (by omega)
    have hn := i2f_nat k (by omega)
    have hy := Nrm_wn k (by omega) (by omega)
    obtain ⟨_, hyv⟩ := wn_w k (by omega)
    obtain ⟨u, u1, u2, hM⟩ := Mod_ok w (wn k) k (2 ^ 1074) (Nat.two_pow_pos 1074) hy hyv (by omega) (vr (rg a) / 2 ^ 1074) w1 w2
    have hT := toInt_w u _ u1 u2
    have hlt : vr (rg a) / 2 ^ 1074 % k < k := Nat.mod_lt _ (by omega)
    unfold whp
    revert hT hlt
    clear w2 u2 hyv
    generalize vr (rg a) / 2 ^ 1074 % k = R
    intro hT hlt
    have e : IntKind.i64.wrap (R : Int) = (R : Int) := wrap_i64 (by omega) (by omega)
    have mi : IntKind.i64.min = -9223372036854775808 := by decide
    have q1 : (-9223372036854775808 : Int) ≤ (R : Int) := by omega
    have q2 : (R : Int) ≤ 9223372036854775807 := by omega
    have e2 : IntKind.i64.wrap (((k - 1 : Nat) : Int) - (R : Int)) = ((k - 1 - R : Nat) : Int) := by rw [wrap_i64 (by omega) (by omega)]; omega
    by_cases d : 9223372036854775808 ≤ a
    · rw [decide_eq_true d] at hS
      rw [if_pos d]
      simp [ir_choose_Of, go_sem, c1, c2, hN, hI, hS, hA, hF, hn, hM, hT, e, mi, q1, q2, ek, e2, unV]
    · rw [decide_eq_false d] at hS
      rw [if_neg d]
      simp [ir_choose_Of, go_sem, c1, c2, hN, hI, hS, hA, hF, hn, hM, hT, e, mi, q1, q2, ek, e2, unV]

/-! ### the document's -/
theorem Whole_loop (av : Nat) (n m e : Nat) (hn : 1 ≤ n) (hn2 : n ≤ 1048576) (he : e ≤ 2000) (i : Nat) (hi : i ≤ e) (h52 : 52 ≤ i) :
    evCI pg (.loop ir_undertowref03_Wholel0) ⟨[.undef, .int .i64 (n : Int), .undef, .undef, .int .i64 (e : Int), .undef, .int .u64 ((m * 2 ^ (i - 52) % n : Nat) : Int), .int .i64 (i : Int), .undef, .undef, .undef], ⟨[], [], []⟩⟩ =
      some (.exit 0, ⟨[.undef, .int .i64 (n : Int), .undef, .undef, .int .i64 (e : Int), .undef, .int .u64 ((m * 2 ^ (e - 52) % n : Nat) : Int), .int .i64 (e : Int), .undef, .undef, .bool false], ⟨[], [], []⟩⟩) := by
  obtain ⟨B, hB⟩ : ∃ B, B = C.loop ir_undertowref03_Wholel0 := ⟨_, rfl⟩
  by_cases h : i < e
  · have ih := Whole_loop av n m e hn hn2 he (i + 1) h (by omega)
    have e3 := succ_i64 h (by omega)
    have hlt : m * 2 ^ (i - 52) % n < n := Nat.mod_lt _ (by omega)
    have hs : m * 2 ^ (i + 1 - 52) % n = 2 * (m * 2 ^ (i - 52) % n) % n := by
      rw [show i + 1 - 52 = (i - 52) + 1 by omega, Nat.pow_succ, ← Nat.mul_assoc, Nat.mul_comm _ 2, Nat.mul_mod_mod]
    rw [hs] at ih
    revert ih hlt
    generalize m * 2 ^ (i - 52) % n = x
    intro ih hlt
    have e1 : IntKind.u64.wrap (2 * (x : Int)) = ((2 * x : Nat) : Int) := by
      rw [show 2 * (x : Int) = ((2 * x : Nat) : Int) by omega]
      exact wrap_u64' (by omega)
    have e2 : IntKind.u64.wrap (n : Int) = (n : Int) := wrap_u64' (by omega)
    have e4 : ((2 * x : Nat) : Int).tmod (n : Int) = ((2 * x % n : Nat) : Int) := rfl
    have h0 : ¬ n = 0 := by omega
    rw [← hB] at ih
    rw [← hB, s_loop_at hB]
    simp [ir_undertowref03_Wholel0, go_sem, h, e1, e2, e3, e4, h0, ih, -Int.natCast_add, -Int.natCast_mul, -Int.natCast_emod]
  · obtain rfl : i = e := by omega
    rw [← hB, s_loop_at hB]
    simp [ir_undertowref03_Wholel0, go_sem, -Int.natCast_mul, -Int.natCast_emod]
termination_by e - i
theorem whp_small {b : Nat} (h : b < 4607182418800017408) : vr b / 2 ^ 1074 = 0 := by
  apply Nat.div_eq_of_lt
  have h1 := vr_lt h
  rw [vr_one] at h1
  exact h1
theorem whp_mid {b : Nat} (h : Nrm b) (h2 : b / 4503599627370496 ≤ 1075) : vr b / 2 ^ 1074 = mg b / 2 ^ (1075 - b / 4503599627370496) := by
  have e1 := h.ex_
  have e2 := h.bounds
  unfold vr
  obtain ⟨k, hk⟩ : ∃ k, 1074 = k + ex b := ⟨1074 - ex b, by omega⟩
  rw [hk, Nat.pow_add, Nat.mul_div_mul_right _ _ (Nat.two_pow_pos _), show 1075 - b / 4503599627370496 = k by omega]
theorem whp_big {b : Nat} (h : Nrm b) (h2 : 1075 < b / 4503599627370496) : vr b / 2 ^ 1074 = mg b * 2 ^ (b / 4503599627370496 - 1075) := by
  have e1 := h.ex_
  unfold vr
  obtain ⟨k, hk⟩ : ∃ k, ex b = k + 1074 := ⟨ex b - 1074, by omega⟩
  rw [hk, Nat.pow_add, ← Nat.mul_assoc, Nat.mul_div_cancel _ (Nat.two_pow_pos 1074), show b / 4503599627370496 - 1075 = k by omega]
theorem Whole_ok (a n : Nat) (ha : a < 18446744073709551616) (hf : rg a < inf) (hn : 1 ≤ n) (hn2 : n ≤ 1048576) : evI pg .val n_undertowref03_Whole [.flt a, .int .i64 (n : Int)] [] = some (.int .i64 ((whp a % n : Nat) : Int), []) := by
  have hi := inf_eq
  have hr := rg_eq ha
  obtain ⟨E, hE⟩ : ∃ E, E = rg a / 4503599627370496 := ⟨_, rfl⟩
  have hE2 : E ≤ 2046 := by omega
  have e1 := shr52 a
  have e2 : andI .u64 ((a / 4503599627370496 : Nat) : Int) 2047 = (E : Int) := by
    have h := and_u64 (show a / 4503599627370496 < 18446744073709551616 by omega) (show 2047 < 18446744073709551616 by omega)
    have h2 : a / 4503599627370496 &&& 2047 = E := by
      rw [show (2047 : Nat) = 2 ^ 11 - 1 from rfl, Nat.and_two_pow_sub_one_eq_mod, hE, hr]
      split <;> omega
    rw [h2] at h
    exact h
  have e3 : IntKind.i64.wrap (E : Int) = (E : Int) := wrap_i64 (by omega) (by omega)
  have e4 : IntKind.i64.wrap ((E : Int) - 1023) = (E : Int) - 1023 := wrap_i64 (by omega) (by omega)
  rw [s_fn fn_undertowref03_Whole]
  unfold whp
  by_cases c1 : E < 1023
  · rw [whp_small (by omega), Nat.zero_mod]
    have c1' : (E : Int) - 1023 < 0 := by omega
    simp [ir_undertowref03_Whole, go_sem, e1, e2, e3, e4, c1', IntKind.bits, -Int.natCast_ediv]
  have hN : Nrm (rg a) := ⟨by omega, hf⟩
  have hm := hN.mg_
  have hml := mg_lt (rg a)
  have c1' : ¬ (E : Int) - 1023 < 0 := by omega
  have e5 : andI .u64 (a : Int) 4503599627370495 = ((rg a % 4503599627370496 : Nat) : Int) := by
    have h := and_u64 ha (show 4503599627370495 < 18446744073709551616 by omega)
    have h2 : a &&& 4503599627370495 = rg a % 4503599627370496 := by
      rw [show (4503599627370495 : Nat) = 2 ^ 52 - 1 from rfl, Nat.and_two_pow_sub_one_eq_mod, hr]
      split <;> omega
    rw [h2] at h
    exact h
  have e6 : IntKind.u64.wrap (((rg a % 4503599627370496 : Nat) : Int) + 4503599627370496) = ((mg (rg a) : Nat) : Int) := by
    rw [hm, ← wrap_u64' (a := 4503599627370496 + rg a % 4503599627370496) (by omega)]
    congr 1; omega
  have e7 : IntKind.u64.wrap (n : Int) = (n : Int) := wrap_u64' (by omega)
  have h0 : ¬ n = 0 := by omega
  have h0' : ¬ (n : Int) = 0 := by omega
  by_cases c2 : E ≤ 1075
  · have c2' : (E : Int) - 1023 ≤ 52 := by omega
    have hw := whp_mid hN (by omega)
    rw [← hE] at hw
    rw [hw]
    have e8 : IntKind.i64.wrap (52 - ((E : Int) - 1023)) = ((1075 - E : Nat) : Int) := by rw [wrap_i64 (by omega) (by omega)]; omega
    have e9 : IntKind.u64.wrap ((1075 - E : Nat) : Int) = ((1075 - E : Nat) : Int) := wrap_u64' (by omega)
    have e10 : ((mg (rg a) : Nat) : Int).fdiv (2 ^ (1075 - E)) = ((mg (rg a) / 2 ^ (1075 - E) : Nat) : Int) := shr_nat _ _
    have emin : min (1075 - E) 64 = 1075 - E := by omega
    have hlt : mg (rg a) / 2 ^ (1075 - E) % n < n := Nat.mod_lt _ (by omega)
    have e11 : ((mg (rg a) / 2 ^ (1075 - E) : Nat) : Int).tmod (n : Int) = ((mg (rg a) / 2 ^ (1075 - E) % n : Nat) : Int) := rfl
    revert hlt e11 e10
    generalize mg (rg a) / 2 ^ (1075 - E) = q
    intro e10 hlt e11
    revert hlt e11
    generalize q % n = x
    intro hlt e11
    have e12 : IntKind.i64.wrap (x : Int) = (x : Int) := wrap_i64 (by omega) (by omega)
    simp [ir_undertowref03_Whole, go_sem, e1, e2, e3, e4, e5, e6, e7, e8, e9, e10, e11, e12, emin, h0, c1', c2', IntKind.bits, -Int.natCast_ediv, -Int.natCast_emod]
  · have c2' : ¬ (E : Int) - 1023 ≤ 52 := by omega
    have hw := whp_big hN (by omega)
    rw [← hE] at hw
    rw [hw]
    have hl := Whole_loop a n (mg (rg a)) (E - 1023) hn hn2 (by omega) 52 (by omega) (by omega)
    rw [Nat.sub_self, Nat.pow_zero, Nat.mul_one, show E - 1023 - 52 = E - 1075 by omega, show ((E - 1023 : Nat) : Int) = (E : Int) - 1023 by omega] at hl
    have e11 : ((mg (rg a) : Nat) : Int).tmod (n : Int) = ((mg (rg a) % n : Nat) : Int) := rfl
    have hlt : mg (rg a) * 2 ^ (E - 1075) % n < n := Nat.mod_lt _ (by omega)
    revert hl hlt e11
    generalize mg (rg a) * 2 ^ (E - 1075) % n = x
    generalize mg (rg a) % n = y
    intro hl e11 hlt
    have e12 : IntKind.i64.wrap (x : Int) = (x : Int) := wrap_i64 (by omega) (by omega)
    have e52 : ((52 : Nat) : Int) = 52 := rfl
    rw [e52] at hl
    simp [ir_undertowref03_Whole, go_sem, e1, e2, e3, e4, e5, e6, e7, e11, e12, hl, h0, c1', c2', IntKind.bits, -Int.natCast_ediv, -Int.natCast_emod]
theorem refOf_ok (n : Int) (a : Nat) (ha : a < 18446744073709551616) : evI pg .val n_undertowref03_Of [.int .i64 n, .flt a] [] = some (chV n a, []) := by
  have hi := inf_eq
  have hr := rg_eq ha
  have hN := None_ok a ha
  rw [s_fn fn_undertowref03_Of]
  unfold chV okc
  by_cases c1 : n < 1
  · rw [decide_eq_false (by omega)]
    simp [ir_undertowref03_Of, go_sem, c1]
  by_cases c2 : 1048576 < n
  · rw [decide_eq_false (by omega)]
    simp [ir_undertowref03_Of, go_sem, c1, c2]
  by_cases c3 : inf < rg a
  · rw [decide_eq_true c3] at hN
    rw [decide_eq_false (by omega)]
    simp [ir_undertowref03_Of, go_sem, c1, c2, hN]
  rw [decide_eq_false c3] at hN
  rw [decide_eq_true (show 1 ≤ n ∧ n ≤ 1048576 ∧ ¬ inf < rg a from ⟨by omega, by omega, c3⟩), if_pos rfl]
  obtain ⟨k, rfl⟩ : ∃ k : Nat, n = k := ⟨n.toNat, by omega⟩
  rw [Int.toNat_natCast]
  have ek : IntKind.i64.wrap ((k : Int) - 1) = ((k - 1 : Nat) : Int) := by rw [wrap_i64 (by omega) (by omega)]; omega
  unfold cho
  by_cases c4 : rg a = inf
  · rw [if_pos c4]
    by_cases d : 9223372036854775808 ≤ a
    · rw [if_pos d] at hr ⊢
      have d1 : a = 18442240474082181120 := by omega
      subst d1
      simp [ir_undertowref03_Of, go_sem, c1, c2, hN]
    · rw [if_neg d] at hr ⊢
      have d1 : a = 9218868437227405312 := by omega
      subst d1
      simp [ir_undertowref03_Of, go_sem, c1, c2, hN, ek]
  · have d1 : ¬ (a : Int) = 9218868437227405312 := by split at hr <;> omega
    have d2 : ¬ (a : Int) = 18442240474082181120 := by split at hr <;> omega
    rw [if_neg c4]
    have hW := Whole_ok a k ha (by omega) (by omega) (by omega)
    have hlt : whp a % k < k := Nat.mod_lt _ (by omega)
    have e1 : ((a : Int)).fdiv 9223372036854775808 = ((a / 9223372036854775808 : Nat) : Int) := shr_nat a 63
    revert hW hlt
    generalize whp a % k = R
    intro hW hlt
    have e2 : IntKind.i64.wrap (((k - 1 : Nat) : Int) - (R : Int)) = ((k - 1 - R : Nat) : Int) := by rw [wrap_i64 (by omega) (by omega)]; omega
    by_cases d : 9223372036854775808 ≤ a
    · rw [if_pos d]
      have d3 : a / 9223372036854775808 = 1 := by omega
      rw [d3] at e1
      simp [ir_undertowref03_Of, go_sem, c1, c2, hN, d1, d2, hW, e1, ek, e2, IntKind.bits]
    · rw [if_neg d]
      have d3 : a / 9223372036854775808 = 0 := by omega
      rw [d3] at e1
      simp [ir_undertowref03_Of, go_sem, c1, c2, hN, d1, d2, hW, e1, IntKind.bits]
end Go.Proofs.Ytgcahipcbidojaa
