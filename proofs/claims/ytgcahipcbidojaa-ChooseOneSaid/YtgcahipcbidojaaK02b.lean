/- Layer 2: how moments stand (no claim; lemmas). -/
import Derived.Test.YtgcahipcbidojaaK02a
set_option linter.unusedSimpArgs false
set_option linter.unusedVariables false
namespace Go.Proofs.Ytgcahipcbidojaa
open Go Go.Vm

attribute [go_sem] fltV primV
theorem order_self (a : Nat) : Ieee.double.order a a = if inf < rg a then none else some .eq := by
  rw [order_eq]
  by_cases h : inf < rg a
  · rw [if_pos (.inl h), if_pos h]
  · rw [if_neg (by omega), if_neg h]
    congr 1
    show compareOfLessAndEq _ _ = _
    unfold compareOfLessAndEq
    rw [if_neg (by omega), if_pos rfl]
theorem cmp_lt (x y : Int) : (compare x y = .lt) ↔ x < y := by
  show compareOfLessAndEq _ _ = _ ↔ _
  unfold compareOfLessAndEq
  split
  · simp [*]
  · split <;> simp [*]
theorem cmp_eq (x y : Int) : (compare x y = .eq) ↔ x = y := by
  show compareOfLessAndEq _ _ = _ ↔ _
  unfold compareOfLessAndEq
  split
  · simp; omega
  · split <;> simp [*]
theorem cmp_gt (x y : Int) : (compare x y = .gt) ↔ y < x := by
  show compareOfLessAndEq _ _ = _ ↔ _
  unfold compareOfLessAndEq
  split
  · simp; omega
  · split
    · simp; omega
    · simp; omega
theorem IsNaN_ok (a : Nat) : evI pg .val n_math_IsNaN [.flt a] [] = some (.bool (decide (inf < rg a)), []) := by
  have h := order_self a
  rw [s_fn fn_math_IsNaN]
  by_cases c : inf < rg a
  · rw [if_pos c] at h
    simp [ir_math_IsNaN, go_sem, h, c]
  · rw [if_neg c] at h
    simp [ir_math_IsNaN, go_sem, h, c]
theorem Signbit_ok (a : Nat) (ha : a < 18446744073709551616) : evI pg .val n_math_Signbit [.flt a] [] = some (.bool (ng a), []) := by
  have hn : ng a = decide (9223372036854775808 ≤ a) := by
    unfold ng
    rw [Bool.eq_iff_iff]
    simp only [beq_iff_eq, decide_eq_true_eq]
    omega
  rw [s_fn fn_math_Signbit, hn]
  have e : IntKind.i64.wrap (a : Int) < 0 ↔ 9223372036854775808 ≤ a := by
    rw [wrap_i64_eq]
    split <;> omega
  by_cases c : 9223372036854775808 ≤ a
  · have e' := e.2 c
    simp [ir_math_Signbit, go_sem, e', c]
  · have e' : ¬ IntKind.i64.wrap (a : Int) < 0 := fun h => c (e.1 h)
    simp [ir_math_Signbit, go_sem, e', c]
/-- Where a moment stands. -/
def rk (a : Nat) : Nat := if inf < rg a then 18446744073709551615 else if 9223372036854775808 ≤ a then 9223372036854775807 - (a - 9223372036854775808) else a + 9223372036854775808
theorem None_ok (a : Nat) (ha : a < 18446744073709551616) : evI pg .val n_undertowref02_None [.flt a] [] = some (.bool (decide (inf < rg a)), []) := by
  have e : andNotI .u64 (a : Int) 9223372036854775808 = (rg a : Int) := by
    have h : a &&& 9223372036854775807 = rg a := Nat.and_two_pow_sub_one_eq_mod a 63
    show IntKind.u64.wrap ((BitVec.ofInt 64 (a : Int) &&& ~~~ (BitVec.ofInt 64 ((9223372036854775808 : Nat) : Int))).toNat : Nat) = _
    rw [BitVec.toNat_and, BitVec.toNat_not, toNat64 ha, toNat64 (by omega)]
    rw [show 2 ^ 64 - 1 - 9223372036854775808 = 9223372036854775807 from rfl, h]
    exact wrap_u64' (by unfold rg; omega)
  rw [s_fn fn_undertowref02_None]
  have hi : inf = 9218868437227405312 := rfl
  by_cases c : 9218868437227405312 < rg a
  · have c' : (9218868437227405312 : Int) < (rg a : Int) := by omega
    simp [ir_undertowref02_None, go_sem, e, hi, c, c']
  · have c' : ¬ (9218868437227405312 : Int) < (rg a : Int) := by omega
    simp [ir_undertowref02_None, go_sem, e, hi, c, c']
end Go.Proofs.Ytgcahipcbidojaa
