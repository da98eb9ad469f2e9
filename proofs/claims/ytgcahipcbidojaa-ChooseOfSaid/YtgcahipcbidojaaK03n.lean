/- Layer 3: the rest of a float by a whole number, by Go's library (no claim; lemmas). -/
import Derived.Test.YtgcahipcbidojaaK03m
set_option linter.unusedSimpArgs false
set_option linter.unusedVariables false
namespace Go.Proofs.Ytgcahipcbidojaa
open Go Go.Vm

theorem cmp_ne {x y : Int} {o : Ordering} (h : compare x y ≠ o) : (some (compare x y) == some o) = false := by
  rw [beq_eq_false_iff_ne]
  intro e
  exact h (Option.some.inj e)
/-- How two words stand. -/
theorem lt_w {a b : Nat} (ha : a < inf) (hb : b < inf) : (Ieee.double.order a b == some .lt) = decide (a < b) := by
  rw [ord_w ha hb]
  by_cases c : a < b
  · rw [(cmp_lt _ _).2 (by omega), decide_eq_true c]; rfl
  · rw [decide_eq_false c]; exact cmp_ne fun h => by have := (cmp_lt _ _).1 h; omega
theorem eq_w {a b : Nat} (ha : a < inf) (hb : b < inf) : (Ieee.double.order a b == some .eq) = decide (a = b) := by
  rw [ord_w ha hb]
  by_cases c : a = b
  · rw [(cmp_eq _ _).2 (by omega), decide_eq_true c]; rfl
  · rw [decide_eq_false c]; exact cmp_ne fun h => by have := (cmp_eq _ _).1 h; omega
theorem gt_w {a b : Nat} (ha : a < inf) (hb : b < inf) : (Ieee.double.order a b == some .gt) = decide (b < a) := by
  rw [ord_w ha hb]
  by_cases c : b < a
  · rw [(cmp_gt _ _).2 (by omega), decide_eq_true c]; rfl
  · rw [decide_eq_false c]; exact cmp_ne fun h => by have := (cmp_gt _ _).1 h; omega
theorem cut_sign {a : Nat} (ha : a < 9223372036854775808) : andNotI .u64 (a : Int) 9218868437227405312 = ((a % 4503599627370496 : Nat) : Int) := by
  have h1 : a &&& 9223372036854775807 = a := by
    rw [show (9223372036854775807 : Nat) = 2 ^ 63 - 1 from rfl, Nat.and_two_pow_sub_one_eq_mod]
    exact Nat.mod_eq_of_lt ha
  have h2 : (9223372036854775807 : Nat) &&& 9227875636482146303 = 4503599627370495 := by decide
  have h3 : a &&& 9227875636482146303 = a % 4503599627370496 := by
    conv => lhs; rw [← h1]
    rw [Nat.and_assoc, h2]
    exact Nat.and_two_pow_sub_one_eq_mod a 52
  show IntKind.u64.wrap ((BitVec.ofInt 64 (a : Int) &&& ~~~ (BitVec.ofInt 64 ((9218868437227405312 : Nat) : Int))).toNat : Nat) = _
  rw [BitVec.toNat_and, BitVec.toNat_not, toNat64 (by omega), toNat64 (by omega)]
  rw [show 2 ^ 64 - 1 - 9218868437227405312 = 9227875636482146303 from rfl, h3]
  exact wrap_u64' (by omega)
theorem or_exp {b e : Nat} (hb : b < 4503599627370496) (he : e < 2048) : orI .u64 (b : Int) ((e * 4503599627370496 : Nat) : Int) = ((b + e * 4503599627370496 : Nat) : Int) := by
  rw [or_u64 (by omega) (by omega)]
  have := Nat.two_pow_add_eq_or_of_lt (i := 52) (b := b) hb e
  rw [Nat.or_comm, Nat.mul_comm e, show (4503599627370496 : Nat) = 2 ^ 52 from rfl, ← this, Nat.add_comm]
theorem and_exp {e : Nat} (he : e < 2048) : andI .u64 (e : Int) 2047 = (e : Int) := by
  have h := and_u64 (show e < 18446744073709551616 by omega) (show 2047 < 18446744073709551616 by omega)
  have h2 : e &&& 2047 = e := by
    rw [show (2047 : Nat) = 2 ^ 11 - 1 from rfl, Nat.and_two_pow_sub_one_eq_mod]
    exact Nat.mod_eq_of_lt he
  rw [h2] at h
  exact h
theorem and_expI {e : Nat} (he : e < 2048) : andI .i64 (e : Int) 2047 = (e : Int) := by
  have h2 : e &&& 2047 = e := by
    rw [show (2047 : Nat) = 2 ^ 11 - 1 from rfl, Nat.and_two_pow_sub_one_eq_mod]
    exact Nat.mod_eq_of_lt he
  show IntKind.i64.wrap ((BitVec.ofInt 64 (e : Int) &&& (BitVec.ofInt 64 ((2047 : Nat) : Int))).toNat : Nat) = _
  rw [BitVec.toNat_and, toNat64 (by omega), toNat64 (by omega), h2]
  exact wrap_i64 (by omega) (by omega)
/-- A normal word's parts. -/
structure Nrm (a : Nat) : Prop where
  lo : 4607182418800017408 ≤ a
  hi : a < inf
theorem Nrm.ex_ {a : Nat} (h : Nrm a) : ex a + 1 = a / 4503599627370496 := by
  have := h.lo
  unfold ex
  rw [if_neg (by omega)]
  omega
theorem Nrm.mg_ {a : Nat} (h : Nrm a) : mg a = 4503599627370496 + a % 4503599627370496 := by
  have := h.lo
  unfold mg
  rw [if_neg (by omega)]
theorem Nrm.bounds {a : Nat} (h : Nrm a) : 1023 ≤ a / 4503599627370496 ∧ a / 4503599627370496 ≤ 2046 := by
  have h1 := h.lo
  have h2 := h.hi
  have := inf_eq
  omega
theorem nan_w {a : Nat} (h : a < inf) : evI pg .val n_math_IsNaN [.flt a] [] = some (.bool false, []) := by
  have := IsNaN_ok a
  rw [(fin_rg h).1, decide_eq_false (by omega)] at this
  exact this
theorem inf_w {a : Nat} (h : a < inf) : evI pg .val n_math_IsInf [.flt a, .int .i64 0] [] = some (.bool false, []) := by
  have hi := inf_eq
  have h1 := (fin_rg h).1
  have := IsInf_ok a (by omega) (by omega)
  rw [h1, decide_eq_false (by omega)] at this
  exact this
theorem abs_w {a : Nat} (h : a < inf) : evI pg .val n_math_Abs [.flt a] [] = some (.flt a, []) := by
  have hi := inf_eq
  have := Abs_ok a (by omega)
  rwa [(fin_rg h).1] at this
theorem normalize_ok {a : Nat} (h : Nrm a) : evI pg .val n_math_normalize [.flt a] [] = some (.tup [.flt a, .int .i64 0], []) := by
  have h1 := h.lo
  have hi := inf_eq
  have o := lt_w h.hi (show 4503599627370496 < inf by omega)
  rw [decide_eq_false (by omega)] at o
  rw [s_fn fn_math_normalize]
  simp [ir_math_normalize, go_sem, abs_w h.hi, o]
theorem shr52 (a : Nat) : ((a : Int)).fdiv 4503599627370496 = ((a / 4503599627370496 : Nat) : Int) := shr_nat a 52
theorem Frexp_ok {a : Nat} (h : Nrm a) : evI pg .val n_math_Frexp [.flt a] [] = some (.tup [.flt (a % 4503599627370496 + 1022 * 4503599627370496), .int .i64 ((a / 4503599627370496 : Nat) - 1022 : Int)], []) := by
  have h1 := h.lo
  have h2 := h.hi
  have hi := inf_eq
  have hb := h.bounds
  have o := eq_w h.hi (show 0 < inf by omega)
  rw [decide_eq_false (by omega)] at o
  have hn := normalize_ok h
  have hn1 := nan_w h.hi
  have hn2 := inf_w h.hi
  have e1 := shr52 a
  have e2 := and_exp (e := a / 4503599627370496) (by omega)
  have e3 := cut_sign (a := a) (by omega)
  have e4 := or_exp (b := a % 4503599627370496) (e := 1022) (by omega) (by omega)
  rw [show (((1022 * 4503599627370496 : Nat)) : Int) = 4602678819172646912 from rfl] at e4
  have e5 : IntKind.i64.wrap (((a / 4503599627370496 : Nat)) : Int) = ((a / 4503599627370496 : Nat) : Int) := wrap_i64 (by omega) (by omega)
  have key : evI pg .val n_math_frexp [.flt a] [] = some (.tup [.flt (a % 4503599627370496 + 1022 * 4503599627370496), .int .i64 ((a / 4503599627370496 : Nat) - 1022 : Int)], []) := by
    revert e1 e2 e3 e4 e5 hb
    have hm := Nat.mod_lt a (show 0 < 4503599627370496 by omega)
    revert hm
    generalize a / 4503599627370496 = E
    generalize a % 4503599627370496 = M
    intro hm hb e1 e2 e3 e4 e5
    have e6 : IntKind.i64.wrap ((E : Int) - 1023) = (E : Int) - 1023 := wrap_i64 (by omega) (by omega)
    have e7 : IntKind.i64.wrap ((E : Int) - 1023 + 1) = (E : Int) - 1022 := by rw [wrap_i64 (by omega) (by omega)]; omega
    have e8 : IntKind.i64.wrap ((E : Int) - 1022) = (E : Int) - 1022 := wrap_i64 (by omega) (by omega)
    have e9 : ((M + 1022 * 4503599627370496 : Nat) : Int).toNat = M + 1022 * 4503599627370496 := rfl
    rw [s_fn fn_math_frexp]
    simp [ir_math_frexp, go_sem, hn, hn1, hn2, o, e1, e2, e3, e4, e5, e6, e7, e8, e9, IntKind.bits, -Int.natCast_add, -Int.natCast_mul, -Nat.reduceMul]
  rw [s_fn fn_math_Frexp]
  simp [ir_math_Frexp, go_sem, key, -Nat.reduceMul]
theorem ldexp_at (y M E d : Nat) (o : (Ieee.double.order y 0 == some .eq) = false) (hn : evI pg .val n_math_normalize [.flt y] [] = some (.tup [.flt y, .int .i64 0], []))
 (hn1 : evI pg .val n_math_IsNaN [.flt y] [] = some (.bool false, [])) (hn2 : evI pg .val n_math_IsInf [.flt y, .int .i64 0] [] = some (.bool false, []))
 (e1 : ((y : Int)).fdiv 4503599627370496 = (E : Int)) (e2 : andI .i64 (E : Int) 2047 = (E : Int)) (e3 : andNotI .u64 (y : Int) 9218868437227405312 = (M : Int)) (e5 : IntKind.i64.wrap (E : Int) = (E : Int))
 (e6 : IntKind.i64.wrap (d : Int) = (d : Int)) (e7 : IntKind.i64.wrap ((E : Int) - 1023) = (E : Int) - 1023)
 (q : Int) (e8 : IntKind.i64.wrap ((d : Int) + ((E : Int) - 1023)) = q)
 (c1 : ¬ q < -1075) (c2 : ¬ 1023 < q) (c3 : ¬ q < -1022) (s1 s2 s3 s4 : Int) (e9 : IntKind.i64.wrap (q + 1023) = s1) (e10 : IntKind.u64.wrap s1 = s2) (e11 : IntKind.u64.wrap (s2 * 4503599627370496) = s3) (e4 : orI .u64 (M : Int) s3 = s4)
 (w : Nat) (e12 : s4.toNat = w) (hmul : Ieee.double.mul 4607182418800017408 w = some w) :
  evI pg .val n_math_ldexp [.flt y, .int .i64 (d : Int)] [] = some (.flt w, []) := by
  rw [s_fn fn_math_ldexp]
  simp [ir_math_ldexp, go_sem, hn, hn1, hn2, o, e1, e2, e3, e4, e5, e6, e7, e8, e9, e10, e11, e12, c1, c2, c3, hmul, IntKind.bits, -Int.natCast_add, -Int.natCast_mul]
theorem Ldexp_ok {y : Nat} (h : Nrm y) (d : Nat) (hd : y / 4503599627370496 + d ≤ 2046) : evI pg .val n_math_Ldexp [.flt y, .int .i64 (d : Int)] [] = some (.flt (y + d * 4503599627370496), []) := by
  have h1 := h.lo
  have h2 := h.hi
  have hi := inf_eq
  have hb := h.bounds
  have o := eq_w h.hi (show 0 < inf by omega)
  rw [decide_eq_false (by omega)] at o
  have hn := normalize_ok h
  have hn1 := nan_w h.hi
  have hn2 := inf_w h.hi
  have e1 := shr52 y
  have e3 := cut_sign (a := y) (by omega)
  have e5 : IntKind.i64.wrap (((y / 4503599627370496 : Nat)) : Int) = ((y / 4503599627370496 : Nat) : Int) := wrap_i64 (by omega) (by omega)
  have e2 := and_expI (e := y / 4503599627370496) (by omega)
  have hW : Nrm (y + d * 4503599627370496) := ⟨by omega, by omega⟩
  have hmul := mul_one_w (y + d * 4503599627370496) hW.hi (by have := hW.ex_; omega)
  have hsum : y % 4503599627370496 + (y / 4503599627370496 + d) * 4503599627370496 = y + d * 4503599627370496 := by omega
  have key : evI pg .val n_math_ldexp [.flt y, .int .i64 (d : Int)] [] = some (.flt (y + d * 4503599627370496), []) := by
    have hm := Nat.mod_lt y (show 0 < 4503599627370496 by omega)
    rw [← hsum] at hmul ⊢
    clear hsum hW
    revert e1 e2 e3 e5 hb hmul hd hm
    generalize y / 4503599627370496 = E
    generalize y % 4503599627370496 = M
    intro hd hb e1 e3 e5 e2 hmul hm
    have e4 := or_exp (b := M) (e := E + d) hm (by omega)
    have e6 : IntKind.i64.wrap (d : Int) = (d : Int) := wrap_i64 (by omega) (by omega)
    have e7 : IntKind.i64.wrap ((E : Int) - 1023) = (E : Int) - 1023 := wrap_i64 (by omega) (by omega)
    have e8 : IntKind.i64.wrap ((d : Int) + ((E : Int) - 1023)) = (d : Int) + (E : Int) - 1023 := by rw [wrap_i64 (by omega) (by omega)]; omega
    have e9 : IntKind.i64.wrap ((d : Int) + (E : Int) - 1023 + 1023) = ((E + d : Nat) : Int) := by rw [wrap_i64 (by omega) (by omega)]; omega
    have e9' : IntKind.i64.wrap ((d : Int) + (E : Int)) = ((E + d : Nat) : Int) := by rw [wrap_i64 (by omega) (by omega)]; omega
    have e10 : IntKind.u64.wrap ((E + d : Nat) : Int) = ((E + d : Nat) : Int) := wrap_u64' (by omega)
    have e11 : IntKind.u64.wrap (((E + d : Nat) : Int) * 4503599627370496) = (((E + d) * 4503599627370496 : Nat) : Int) := by
      rw [show ((E + d : Nat) : Int) * 4503599627370496 = (((E + d) * 4503599627370496 : Nat) : Int) by omega]
      exact wrap_u64' (by omega)
    have c1 : ¬ (d : Int) + (E : Int) - 1023 < -1075 := by omega
    have c2 : ¬ (1023 : Int) < (d : Int) + (E : Int) - 1023 := by omega
    have c3 : ¬ (d : Int) + (E : Int) - 1023 < -1022 := by omega
    have e12 : ((M + (E + d) * 4503599627370496 : Nat) : Int).toNat = M + (E + d) * 4503599627370496 := rfl
    exact ldexp_at y M E d o hn hn1 hn2 e1 e2 e3 e5 e6 e7 _ e8 c1 c2 c3 _ _ _ _ e9 e10 e11 e4 _ e12 hmul
  rw [s_fn fn_math_Ldexp]
  simp [ir_math_Ldexp, go_sem, key, -Int.natCast_add, -Int.natCast_mul]
end Go.Proofs.Ytgcahipcbidojaa
