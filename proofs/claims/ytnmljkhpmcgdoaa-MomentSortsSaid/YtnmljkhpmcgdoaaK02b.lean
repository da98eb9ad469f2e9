/- Layer 2: how moments stand (no claim; lemmas). -/
import Derived.Test.YtnmljkhpmcgdoaaK02a
set_option linter.unusedSimpArgs false
set_option linter.unusedVariables false
namespace Go.Proofs.Ytnmljkhpmcgdoaa
open Go Go.Vm

attribute [go_sem] fltV primV
theorem order_self (a : Nat) : Ieee.double.order a a = if inf < rg a then none else some .eq := by
  rw [order_eq]
  by_cases h : inf < rg a
  · rw [if_pos (.inl h), if_pos h]
  · rw [if_neg (by omega), if_neg h]
    congr 1
    show compareOfLessAndEq _ _ = _
    unfold compareOfLessAndEq
    rw [if_neg (by omega), if_pos rfl]
theorem cmp_lt (x y : Int) : (compare x y = .lt) ↔ x < y := by
  show compareOfLessAndEq _ _ = _ ↔ _
  unfold compareOfLessAndEq
  split
  · simp [*]
  · split <;> simp [*]
theorem cmp_eq (x y : Int) : (compare x y = .eq) ↔ x = y := by
  show compareOfLessAndEq _ _ = _ ↔ _
  unfold compareOfLessAndEq
  split
  · simp; omega
  · split <;> simp [*]
theorem cmp_gt (x y : Int) : (compare x y = .gt) ↔ y < x := by
  show compareOfLessAndEq _ _ = _ ↔ _
  unfold compareOfLessAndEq
  split
  · simp; omega
  · split
    · simp; omega
    · simp; omega
theorem IsNaN_ok (a : Nat) : evI pg .val n_math_IsNaN [.flt a] [] = some (.bool (decide (inf < rg a)), []) := by
  have h := order_self a
  rw [s_fn fn_math_IsNaN]
  by_cases c : inf < rg a
  · rw [if_pos c] at h
    simp [ir_math_IsNaN, go_sem, h, c]
  · rw [if_neg c] at h
    simp [ir_math_IsNaN, go_sem, h, c]
theorem Signbit_ok (a : Nat) (ha : a < 18446744073709551616) : evI pg .val n_math_Signbit [.flt a] [] = some (.bool (ng a), []) := by
  have hn : ng a = decide (9223372036854775808 ≤ a) := by
    unfold ng
    rw [Bool.eq_iff_iff]
    simp only [beq_iff_eq, decide_eq_true_eq]
    omega
  rw [s_fn fn_math_Signbit, hn]
  have e : IntKind.i64.wrap (a : Int) < 0 ↔ 9223372036854775808 ≤ a := by
    rw [wrap_i64_eq]
    split <;> omega
  by_cases c : 9223372036854775808 ≤ a
  · have e' := e.2 c
    simp [ir_math_Signbit, go_sem, e', c]
  · have e' : ¬ IntKind.i64.wrap (a : Int) < 0 := fun h => c (e.1 h)
    simp [ir_math_Signbit, go_sem, e', c]
/-- Where a moment stands. -/
def rk (a : Nat) : Nat := if inf < rg a then 18446744073709551615 else if 9223372036854775808 ≤ a then 9223372036854775807 - (a - 9223372036854775808) else a + 9223372036854775808
theorem None_ok (a : Nat) (ha : a < 18446744073709551616) : evI pg .val n_undertowref02_None [.flt a] [] = some (.bool (decide (inf < rg a)), []) := by
  have e : andNotI .u64 (a : Int) 9223372036854775808 = (rg a : Int) := by
    have h : a &&& 9223372036854775807 = rg a := Nat.and_two_pow_sub_one_eq_mod a 63
    show IntKind.u64.wrap ((BitVec.ofInt 64 (a : Int) &&& ~~~ (BitVec.ofInt 64 ((9223372036854775808 : Nat) : Int))).toNat : Nat) = _
    rw [BitVec.toNat_and, BitVec.toNat_not, toNat64 ha, toNat64 (by omega)]
    rw [show 2 ^ 64 - 1 - 9223372036854775808 = 9223372036854775807 from rfl, h]
    exact wrap_u64' (by unfold rg; omega)
  rw [s_fn fn_undertowref02_None]
  have hi : inf = 9218868437227405312 := rfl
  by_cases c : 9218868437227405312 < rg a
  · have c' : (9218868437227405312 : Int) < (rg a : Int) := by omega
    simp [ir_undertowref02_None, go_sem, e, hi, c, c']
  · have c' : ¬ (9218868437227405312 : Int) < (rg a : Int) := by omega
    simp [ir_undertowref02_None, go_sem, e, hi, c, c']
theorem Rank_ok (a : Nat) (ha : a < 18446744073709551616) : evI pg .val n_undertowref02_Rank [.flt a] [] = some (.int .u64 (rk a : Int), []) := by
  have h := None_ok a ha
  rw [s_fn fn_undertowref02_Rank]
  unfold rk
  by_cases c : inf < rg a
  · rw [decide_eq_true c] at h
    simp [ir_undertowref02_Rank, go_sem, h, c]
  · rw [decide_eq_false c] at h
    have e1 : ((a : Int)).fdiv 9223372036854775808 = ((a / 9223372036854775808 : Nat) : Int) := shr_nat a 63
    by_cases d : 9223372036854775808 ≤ a
    · have e2 : a / 9223372036854775808 = 1 := by omega
      have e3 : IntKind.u64.wrap ((a : Int) - 9223372036854775808) = ((a - 9223372036854775808 : Nat) : Int) := by rw [← wrap_u64' (a := a - 9223372036854775808) (by omega)]; congr 1; omega
      have e5 : (9223372036854775807 : Int) - ((a - 9223372036854775808 : Nat) : Int) = ((9223372036854775807 - (a - 9223372036854775808) : Nat) : Int) := by omega
      have e4 : IntKind.u64.wrap (9223372036854775807 - ((a - 9223372036854775808 : Nat) : Int)) = ((9223372036854775807 - (a - 9223372036854775808) : Nat) : Int) := by rw [e5]; exact wrap_u64' (by omega)
      simp [ir_undertowref02_Rank, go_sem, h, c, d, e1, e2, e3, e4, -Int.natCast_ediv]
    · have e2 : a / 9223372036854775808 = 0 := by omega
      have e3 : IntKind.u64.wrap ((a : Int) + 9223372036854775808) = ((a + 9223372036854775808 : Nat) : Int) := wrap_u64' (a := a + 9223372036854775808) (by omega)
      simp [ir_undertowref02_Rank, go_sem, h, c, d, e1, e2, e3, -Int.natCast_ediv, -Int.natCast_add]
theorem refLess_ok (a b : Nat) (ha : a < 18446744073709551616) (hb : b < 18446744073709551616) : evI pg .val n_undertowref02_Less [.flt a, .flt b] [] = some (.bool (decide (rk a < rk b)), []) := by
  have h1 := Rank_ok a ha
  have h2 := Rank_ok b hb
  rw [s_fn fn_undertowref02_Less]
  simp [ir_undertowref02_Less, go_sem, h1, h2]
theorem Less_ok (a b : Nat) (ha : a < 18446744073709551616) (hb : b < 18446744073709551616) : evI pg .val n_moment_Less [.flt a, .flt b] [] = some (.bool (decide (rk a < rk b)), []) := by
  have n1 := IsNaN_ok a
  have n2 := IsNaN_ok b
  have g1 := Signbit_ok a ha
  have g2 := Signbit_ok b hb
  have hi : inf = 9218868437227405312 := rfl
  have hra : rg a < 9223372036854775808 := Nat.mod_lt _ (by omega)
  have hrb : rg b < 9223372036854775808 := Nat.mod_lt _ (by omega)
  rw [s_fn fn_moment_Less]
  by_cases c1 : inf < rg a
  · rw [decide_eq_true c1] at n1
    have : ¬ rk a < rk b := by
      have hb' : rk b ≤ 18446744073709551615 := by
        unfold rk rg at *
        split
        · omega
        · split <;> omega
      have hra' : rk a = 18446744073709551615 := by unfold rk; rw [if_pos c1]
      omega
    simp [ir_moment_Less, go_sem, n1, this]
  rw [decide_eq_false c1] at n1
  have hka : rk a < 18446744073709551615 := by
    unfold rk rg at *
    rw [if_neg c1]
    split <;> omega
  by_cases c2 : inf < rg b
  · rw [decide_eq_true c2] at n2
    have : rk a < rk b := by
      conv => rhs; unfold rk
      rw [if_pos c2]
      exact hka
    simp [ir_moment_Less, go_sem, n1, n2, this]
  rw [decide_eq_false c2] at n2
  have hka : rk a = if 9223372036854775808 ≤ a then 9223372036854775807 - (a - 9223372036854775808) else a + 9223372036854775808 := by unfold rk; rw [if_neg c1]
  have hkb : rk b = if 9223372036854775808 ≤ b then 9223372036854775807 - (b - 9223372036854775808) else b + 9223372036854775808 := by unfold rk; rw [if_neg c2]
  have hna : ng a = decide (9223372036854775808 ≤ a) := by
    unfold ng
    rw [Bool.eq_iff_iff]
    simp only [beq_iff_eq, decide_eq_true_eq]
    omega
  have hnb : ng b = decide (9223372036854775808 ≤ b) := by
    unfold ng
    rw [Bool.eq_iff_iff]
    simp only [beq_iff_eq, decide_eq_true_eq]
    omega
  have sa : sv a = if 9223372036854775808 ≤ a then -((a - 9223372036854775808 : Nat) : Int) else (a : Int) := by
    unfold sv
    rw [hna]
    by_cases d : 9223372036854775808 ≤ a
    · rw [decide_eq_true d, if_pos rfl, if_pos d]; unfold rg; omega
    · rw [decide_eq_false d, if_neg (by simp), if_neg d]; unfold rg; omega
  have sb : sv b = if 9223372036854775808 ≤ b then -((b - 9223372036854775808 : Nat) : Int) else (b : Int) := by
    unfold sv
    rw [hnb]
    by_cases d : 9223372036854775808 ≤ b
    · rw [decide_eq_true d, if_pos rfl, if_pos d]; unfold rg; omega
    · rw [decide_eq_false d, if_neg (by simp), if_neg d]; unfold rg; omega
  have hz : ¬ inf < rg 0 := by decide
  have s0 : sv 0 = 0 := by decide
  have o1 : Ieee.double.order a 0 = some (compare (sv a) 0) := by rw [order_eq, if_neg (by omega), s0]
  have o2 : Ieee.double.order b 0 = some (compare (sv b) 0) := by rw [order_eq, if_neg (by omega), s0]
  have o3 : Ieee.double.order a b = some (compare (sv a) (sv b)) := by rw [order_eq, if_neg (by omega)]
  have p1 := cmp_eq (sv a) 0
  have p2 := cmp_eq (sv b) 0
  have p3 := cmp_lt (sv a) (sv b)
  by_cases d1 : sv a = 0
  · have q1 := p1.2 d1
    by_cases d2 : sv b = 0
    · have q2 := p2.2 d2
      by_cases x : 9223372036854775808 ≤ a <;> by_cases y : 9223372036854775808 ≤ b
      all_goals
        simp only [x, y, if_true, if_false] at hka hkb sa sb
        simp only [x, y, decide_true, decide_false] at hna hnb
        rw [hna] at g1
        rw [hnb] at g2
      · have : ¬ rk a < rk b := by omega
        simp [ir_moment_Less, go_sem, n1, n2, g1, g2, o1, o2, q1, q2, this]
      · have : rk a < rk b := by omega
        simp [ir_moment_Less, go_sem, n1, n2, g1, g2, o1, o2, q1, q2, this, unV]
      · have : ¬ rk a < rk b := by omega
        simp [ir_moment_Less, go_sem, n1, n2, g1, g2, o1, o2, q1, q2, this]
      · have : ¬ rk a < rk b := by omega
        simp [ir_moment_Less, go_sem, n1, n2, g1, g2, o1, o2, q1, q2, this]
    · have q2 := beq_eq_false_iff_ne.2 (show ¬ compare (sv b) 0 = .eq from fun h => d2 (p2.1 h))
      have key : (compare (sv a) (sv b) = .lt) ↔ rk a < rk b := by
        rw [p3]
        by_cases x : 9223372036854775808 ≤ a <;> by_cases y : 9223372036854775808 ≤ b <;> simp only [x, y, if_true, if_false] at hka hkb sa sb <;> omega
      by_cases z : rk a < rk b
      · have z' := key.2 z
        simp [ir_moment_Less, go_sem, n1, n2, o1, o2, o3, q1, q2, z, z']
      · have z' := beq_eq_false_iff_ne.2 (show ¬ compare (sv a) (sv b) = .lt from fun h => z (key.1 h))
        simp [ir_moment_Less, go_sem, n1, n2, o1, o2, o3, q1, q2, z, z']
  · have q1 := beq_eq_false_iff_ne.2 (show ¬ compare (sv a) 0 = .eq from fun h => d1 (p1.1 h))
    have key : (compare (sv a) (sv b) = .lt) ↔ rk a < rk b := by
      rw [p3]
      by_cases x : 9223372036854775808 ≤ a <;> by_cases y : 9223372036854775808 ≤ b <;> simp only [x, y, if_true, if_false] at hka hkb sa sb <;> omega
    by_cases z : rk a < rk b
    · have z' := key.2 z
      simp [ir_moment_Less, go_sem, n1, n2, o1, o2, o3, q1, z, z']
    · have z' := beq_eq_false_iff_ne.2 (show ¬ compare (sv a) (sv b) = .lt from fun h => z (key.1 h))
      simp [ir_moment_Less, go_sem, n1, n2, o1, o2, o3, q1, z, z']
theorem Same_ok (a b : Nat) (ha : a < 18446744073709551616) (hb : b < 18446744073709551616) : evI pg .val n_moment_Same [.flt a, .flt b] [] = some (.bool (decide (rk a = rk b)), []) := by
  have h1 := Less_ok a b ha hb
  have h2 := Less_ok b a hb ha
  rw [s_fn fn_moment_Same]
  rcases Nat.lt_trichotomy (rk a) (rk b) with c | c | c
  · have c' : ¬ rk a = rk b := by omega
    rw [decide_eq_true c] at h1
    simp [ir_moment_Same, go_sem, h1, c', unV]
  · have d1 : ¬ rk a < rk b := by omega
    have d2 : ¬ rk b < rk a := by omega
    rw [decide_eq_false d1] at h1
    rw [decide_eq_false d2] at h2
    simp [ir_moment_Same, go_sem, h1, h2, c, unV]
  · have c' : ¬ rk a = rk b := by omega
    have d1 : ¬ rk a < rk b := by omega
    rw [decide_eq_false d1] at h1
    rw [decide_eq_true c] at h2
    simp [ir_moment_Same, go_sem, h1, h2, c', unV]
end Go.Proofs.Ytnmljkhpmcgdoaa
