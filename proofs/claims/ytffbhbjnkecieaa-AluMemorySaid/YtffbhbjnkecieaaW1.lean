/- Layer 1: what its functions come to (no claim; lemmas). -/
import Derived.Test.YtffbhbjnkecieaaVf
import Derived.Test.YtffbhbjnkecieaaIr
set_option linter.unusedSimpArgs false
set_option linter.unusedVariables false
namespace Go.Proofs.Ytffbhbjnkecieaa
open Go Go.Vm

/-- The low bits of a word. -/
def zx (x : Nat) (n : Int) : Nat := x % 2 ^ n.toNat
theorem zx_lt {x : Nat} {n : Int} (hx : x < 18446744073709551616) : zx x n < 18446744073709551616 := Nat.lt_of_le_of_lt (Nat.mod_le _ _) hx
theorem pow_lt {k : Nat} (h : k < 64) : 2 ^ k < 18446744073709551616 := by
  have := Nat.pow_lt_pow_right (a := 2) (by omega) h
  omega
theorem pow_le {k : Nat} (h : 64 ≤ k) : 18446744073709551616 ≤ 2 ^ k := Nat.pow_le_pow_right (n := 2) (by omega) h

theorem Zext_ok (x : Nat) (n : Int) (hx : x < 18446744073709551616) : evI pg .val n_word_Zext [.int .u64 x, .int .i64 n] [] = some (.int .u64 (zx x n : Nat), []) := by
  unfold zx
  rw [s_fn fn_word_Zext]
  by_cases h : n < 1
  · have e : n.toNat = 0 := by omega
    simp [ir_word_Zext, go_sem, h, e, Nat.mod_one]
  · by_cases h' : 64 ≤ n
    · have e : x % 2 ^ n.toNat = x := Nat.mod_eq_of_lt (Nat.lt_of_lt_of_le hx (pow_le (by omega)))
      simp [ir_word_Zext, go_sem, h, h', e]
    · obtain ⟨k, rfl⟩ : ∃ k : Nat, n = k := ⟨n.toNat, by omega⟩
      have hk : k < 64 := by omega
      have hp := pow_lt hk
      have h0 : 0 < 2 ^ k := Nat.two_pow_pos k
      have e1 : IntKind.u64.wrap (2 ^ k) = ((2 ^ k : Nat) : Int) := by rw [← wrap_u64' hp]; simp
      have e2 : IntKind.u64.wrap (((2 ^ k : Nat) : Int) - 1) = ((2 ^ k - 1 : Nat) : Int) := by rw [← wrap_u64' (by omega : 2 ^ k - 1 < _)]; congr 1; omega
      have e3 : andI .u64 (x : Int) ((2 ^ k - 1 : Nat) : Int) = ((x % 2 ^ k : Nat) : Int) := by rw [and_u64 hx (by omega), Nat.and_two_pow_sub_one_eq_mod]
      simp [ir_word_Zext, go_sem, h, h', min_nat, Nat.min_eq_left (Nat.le_of_lt hk), IntKind.bits, e1, e2, e3, -Int.natCast_pow, -Int.natCast_emod]

/-- The low bits with their sign. -/
def sx (x : Nat) (n : Int) : Nat := if n < 1 ∨ 64 ≤ n then zx x n else zx x n + if x.testBit (n.toNat - 1) then 18446744073709551616 - 2 ^ n.toNat else 0
theorem sx_pre (x k : Nat) (h0 : 1 ≤ k) (h : k < 64) : x * 2 ^ (64 - k) % 18446744073709551616 = x % 2 ^ k * 2 ^ (64 - k) := by
  have e : (18446744073709551616 : Nat) = 2 ^ k * 2 ^ (64 - k) := by rw [← Nat.pow_add, Nat.add_sub_cancel' (by omega)]
  rw [e, Nat.mul_mod_mul_right]
theorem half_pow (k : Nat) (h0 : 1 ≤ k) : 2 ^ k = 2 * 2 ^ (k - 1) := by
  obtain ⟨j, rfl⟩ : ∃ j, k = j + 1 := ⟨k - 1, by omega⟩
  simp [Nat.pow_succ]; omega
theorem Sext_ok (x : Nat) (n : Int) (hx : x < 18446744073709551616) : evI pg .val n_word_Sext [.int .u64 x, .int .i64 n] [] = some (.int .u64 (sx x n : Nat), []) := by
  have hz := Zext_ok x n hx
  rw [s_fn fn_word_Sext]
  by_cases h : n < 1
  · simp [ir_word_Sext, go_sem, h, callF, hz, sx]
  · by_cases h' : 64 ≤ n
    · simp [ir_word_Sext, go_sem, h, h', callF, hz, sx]
    · obtain ⟨k, rfl⟩ : ∃ k : Nat, n = k := ⟨n.toNat, by omega⟩
      have hk : k < 64 := by omega
      have h1 : 1 ≤ k := by omega
      have h64 : (64 : Int) - (k : Int) = ((64 - k : Nat) : Int) := by omega
      have e0 : IntKind.i64.wrap (((64 - k : Nat) : Int)) = ((64 - k : Nat) : Int) := wrap_i64 (by omega) (by omega)
      have e1 : IntKind.u64.wrap ((x : Int) * 2 ^ (64 - k)) = ((x % 2 ^ k * 2 ^ (64 - k) : Nat) : Int) := by
        rw [shl_nat, wrap_u64, sx_pre x k h1 hk]
      have hp : 2 ^ k * 2 ^ (64 - k) = 18446744073709551616 := by rw [← Nat.pow_add, Nat.add_sub_cancel' (by omega)]
      have hz1 : x % 2 ^ k < 2 ^ k := Nat.mod_lt _ (Nat.two_pow_pos k)
      have hlt : x % 2 ^ k * 2 ^ (64 - k) < 18446744073709551616 := by rw [← hp]; exact Nat.mul_lt_mul_of_pos_right hz1 (Nat.two_pow_pos _)
      have hp2 := half_pow k h1
      have hbit := mod_succ_bit x (k - 1)
      rw [Nat.sub_add_cancel h1] at hbit
      have hz2 : x % 2 ^ (k - 1) < 2 ^ (k - 1) := Nat.mod_lt _ (Nat.two_pow_pos _)
      have hph : 2 ^ (k - 1) * 2 ^ (64 - k) = 9223372036854775808 := by
        rw [← Nat.pow_add, show k - 1 + (64 - k) = 63 by omega]
      have hpl := pow_lt hk
      have hne : ((2 ^ (64 - k) : Nat) : Int) ≠ 0 := by have := Nat.two_pow_pos (64 - k); omega
      have hcast : (2 : Int) ^ (64 - k) = ((2 ^ (64 - k) : Nat) : Int) := by simp
      have e2 : IntKind.u64.wrap ((IntKind.i64.wrap ((x % 2 ^ k * 2 ^ (64 - k) : Nat) : Int)).fdiv (2 ^ (64 - k))) = ((sx x k : Nat) : Int) := by
        have hsx : sx x k = x % 2 ^ k + if x.testBit (k - 1) then 18446744073709551616 - 2 ^ k else 0 := by
          unfold sx zx
          rw [if_neg (by omega)]
          simp
        rw [hsx]
        cases hb : x.testBit (k - 1) with
        | false =>
          rw [hb] at hbit
          have hlow : x % 2 ^ k * 2 ^ (64 - k) < 9223372036854775808 := by
            rw [← hph]
            exact Nat.mul_lt_mul_of_pos_right (by rw [hbit]; simpa using hz2) (Nat.two_pow_pos _)
          rw [wrap_i64 (by omega) (by omega), hcast, Int.natCast_mul, Int.mul_fdiv_cancel _ hne]
          simp only [Bool.false_eq_true, if_false, Nat.add_zero]
          exact wrap_u64' (by omega)
        | true =>
          rw [hb] at hbit
          simp only [if_true] at hbit
          have hhigh : 9223372036854775808 ≤ x % 2 ^ k * 2 ^ (64 - k) := by
            rw [← hph]
            exact Nat.mul_le_mul_right _ (by omega)
          have ew : IntKind.i64.wrap ((x % 2 ^ k * 2 ^ (64 - k) : Nat) : Int) = ((x % 2 ^ k : Nat) : Int) * ((2 ^ (64 - k) : Nat) : Int) - ((2 ^ k : Nat) : Int) * ((2 ^ (64 - k) : Nat) : Int) := by
            rw [wrap_i64_eq, ← Int.natCast_mul, ← Int.natCast_mul, hp]
            rw [Int.emod_eq_of_lt (by omega) (by omega), if_pos (by omega)]
            rfl
          rw [ew, ← Int.sub_mul, hcast, Int.mul_fdiv_cancel _ hne]
          simp only [if_true]
          have e9 : IntKind.u64.wrap (((x % 2 ^ k : Nat) : Int) - ((2 ^ k : Nat) : Int)) = (((x % 2 ^ k : Nat) : Int) - ((2 ^ k : Nat) : Int)) % 18446744073709551616 := by
            simp only [IntKind.wrap, IntKind.bits, IntKind.signed]; simp
          rw [e9]
          omega
      simp [ir_word_Sext, go_sem, h, h', h64, e0, e1, e2, Nat.min_eq_left, IntKind.bits, -Int.natCast_emod, -Int.natCast_pow, -Int.natCast_ediv, -Int.natCast_add, -Int.natCast_mul]
/-! ### fields -/
def fld (w : Nat) (hi lo : Int) : Nat := if lo < 0 ∨ 31 < hi ∨ hi < lo then 0 else w / 2 ^ lo.toNat % 2 ^ (hi - lo + 1).toNat
theorem pow_lt32 {k : Nat} (h : k < 32) : 2 ^ k < 4294967296 := by
  have := Nat.pow_lt_pow_right (a := 2) (by omega) h
  omega
theorem refZext_loop (x : Nat) (n : Int) (hx : x < 18446744073709551616) (m : Mem) : ∀ (d i : Nat) (r a b : V), i + d = 64 → (i : Int) ≤ max n 0 →
    ∃ i' a' b', evCI pg (.loop ir_undertowref01_Zextl0) ⟨[.int .u64 x, .int .i64 n, r, .int .u64 ((x % 2 ^ i : Nat) : Int), .int .i64 i, a, b], m⟩ = some (.exit 0, ⟨[.int .u64 x, .int .i64 n, r, .int .u64 (zx x n : Nat), i', a', b'], m⟩)
  | d, i, r, a, b, hd, hi => by
    by_cases h1 : i < 64
    · obtain ⟨d, rfl⟩ : ∃ k, d = k + 1 := ⟨d - 1, by omega⟩
      by_cases h2 : (i : Int) < n
      · have hm := mod_succ_bit x i
        have hp := pow_lt h1
        have e0 : IntKind.u64.wrap (i : Int) = (i : Int) := wrap_u64' (by omega)
        have e1 : IntKind.u64.wrap ((2 : Int) ^ i) = ((2 ^ i : Nat) : Int) := by rw [← wrap_u64' hp]; simp
        have e2 : IntKind.i64.wrap ((i : Int) + 1) = (i : Int) + 1 := wrap_i64 (by omega) (by omega)
        have e3 : ((x : Int)).fdiv (2 ^ i) = ((x / 2 ^ i : Nat) : Int) := shr_nat x i
        have hl : x / 2 ^ i < 18446744073709551616 := Nat.lt_of_le_of_lt (Nat.div_le_self _ _) hx
        have hmn : min i 64 = i := by omega
        have e4 : andI .u64 ((x / 2 ^ i : Nat) : Int) 1 = if x.testBit i then 1 else 0 := by
          have := and_u64 hl (show 1 < 18446744073709551616 by omega)
          rw [testBit_and] at this
          rw [show (1 : Int) = ((1 : Nat) : Int) from rfl, this]
          split <;> rfl
        have h1' : (i : Int) < 64 := by omega
        have hsum : x % 2 ^ i + 2 ^ i < 18446744073709551616 ∨ x.testBit i = false := by
          cases hb : x.testBit i with
          | false => exact .inr rfl
          | true =>
            left
            have : x % 2 ^ (i + 1) ≤ x := Nat.mod_le _ _
            rw [hm, hb] at this
            simp at this
            omega
        cases hb : x.testBit i with
        | true =>
          have e5 : IntKind.u64.wrap (((x % 2 ^ i : Nat) : Int) + ((2 ^ i : Nat) : Int)) = ((x % 2 ^ (i + 1) : Nat) : Int) := by
            rw [hm, hb]
            rw [hb] at hsum
            have : x % 2 ^ i + 2 ^ i < 18446744073709551616 := by simpa using hsum
            rw [if_pos rfl, ← Int.natCast_add, wrap_u64' this]
          have hs := rfl (a := evCI pg ir_undertowref01_Zextl0 ⟨[.int .u64 x, .int .i64 n, r, .int .u64 ((x % 2 ^ i : Nat) : Int), .int .i64 i, a, b], m⟩)
          conv at hs => rhs; simp [ir_undertowref01_Zextl0, go_sem, h1', h2, e0, e1, e2, e3, e4, hb, hmn, e5, IntKind.bits, -Int.natCast_emod, -Int.natCast_pow, -Int.natCast_ediv, -Int.natCast_add, -Int.natCast_mul]
          rw [s_loop, hs, s_then_nrm]
          exact refZext_loop x n hx m d (i + 1) _ _ _ (by omega) (by omega)
        | false =>
          have e5 : x % 2 ^ i = x % 2 ^ (i + 1) := by rw [hm, hb]; simp
          have hs := rfl (a := evCI pg ir_undertowref01_Zextl0 ⟨[.int .u64 x, .int .i64 n, r, .int .u64 ((x % 2 ^ i : Nat) : Int), .int .i64 i, a, b], m⟩)
          conv at hs => rhs; simp [ir_undertowref01_Zextl0, go_sem, h1', h2, e0, e1, e2, e3, e4, hb, hmn, IntKind.bits, -Int.natCast_emod, -Int.natCast_pow, -Int.natCast_ediv, -Int.natCast_add, -Int.natCast_mul]
          rw [s_loop, hs, s_then_nrm, e5]
          exact refZext_loop x n hx m d (i + 1) _ _ _ (by omega) (by omega)
      · have h1' : (i : Int) < 64 := by omega
        have hs := rfl (a := evCI pg ir_undertowref01_Zextl0 ⟨[.int .u64 x, .int .i64 n, r, .int .u64 ((x % 2 ^ i : Nat) : Int), .int .i64 i, a, b], m⟩)
        conv at hs => rhs; simp [ir_undertowref01_Zextl0, go_sem, h1', h2, -Int.natCast_emod, -Int.natCast_pow, -Int.natCast_ediv, -Int.natCast_add, -Int.natCast_mul]
        rw [s_loop, hs, s_then_exit]
        have e : x % 2 ^ i = zx x n := by unfold zx; congr 2; omega
        exact ⟨_, _, _, by rw [e]⟩
    · have hi' : i = 64 := by omega
      subst hi'
      have hs := rfl (a := evCI pg ir_undertowref01_Zextl0 ⟨[.int .u64 x, .int .i64 n, r, .int .u64 ((x % 2 ^ 64 : Nat) : Int), .int .i64 (64 : Nat), a, b], m⟩)
      conv at hs => rhs; simp [ir_undertowref01_Zextl0, go_sem, -Int.natCast_emod, -Int.natCast_pow, -Int.natCast_ediv, -Int.natCast_add, -Int.natCast_mul]
      rw [s_loop, hs, s_then_exit]
      have e : x % 2 ^ 64 = zx x n := by
        unfold zx
        rw [Nat.mod_eq_of_lt hx, Nat.mod_eq_of_lt (Nat.lt_of_lt_of_le hx (pow_le (by omega)))]
      exact ⟨_, _, _, by rw [← e]⟩
theorem refZext_ok (x : Nat) (n : Int) (hx : x < 18446744073709551616) : evI pg .val n_undertowref01_Zext [.int .u64 x, .int .i64 n] [] = some (.int .u64 (zx x n : Nat), []) := by
  obtain ⟨i', a', b', h⟩ := refZext_loop x n hx ⟨[], [], []⟩ 64 0 (.int .u64 0) .undef .undef (by omega) (by omega)
  simp at h
  rw [s_fn fn_undertowref01_Zext]
  simp [ir_undertowref01_Zext, go_sem, h, -Int.natCast_emod, -Int.natCast_pow, -Int.natCast_ediv, -Int.natCast_add, -Int.natCast_mul]

theorem refSext_loop (x : Nat) (n : Int) (m : Mem) (z k : Nat) (hz : z < 2 ^ k) : ∀ (d i : Nat) (r a b : V), i + d = 64 → k ≤ i → i ≤ 64 →
    ∃ i' a' b', evCI pg (.loop ir_undertowref01_Sextl0) ⟨[.int .u64 x, .int .i64 n, r, .int .u64 ((z + (2 ^ i - 2 ^ k) : Nat) : Int), .int .i64 i, a, b], m⟩ = some (.exit 0, ⟨[.int .u64 x, .int .i64 n, r, .int .u64 ((z + (18446744073709551616 - 2 ^ k) : Nat) : Int), i', a', b'], m⟩)
  | d, i, r, a, b, hd, hk, hi => by
    by_cases h1 : i < 64
    · obtain ⟨d, rfl⟩ : ∃ k, d = k + 1 := ⟨d - 1, by omega⟩
      have hp := pow_lt h1
      have hpk : 2 ^ k ≤ 2 ^ i := Nat.pow_le_pow_right (by omega) hk
      have hps : 2 ^ (i + 1) = 2 * 2 ^ i := by rw [Nat.pow_succ]; omega
      have hpu : 2 ^ (i + 1) ≤ 18446744073709551616 := by
        have := Nat.pow_le_pow_right (n := 2) (by omega) (show i + 1 ≤ 64 by omega)
        omega
      have e0 : IntKind.u64.wrap (i : Int) = (i : Int) := wrap_u64' (by omega)
      have e1 : IntKind.u64.wrap ((2 : Int) ^ i) = ((2 ^ i : Nat) : Int) := by rw [← wrap_u64' hp]; simp
      have e2 : IntKind.i64.wrap ((i : Int) + 1) = (i : Int) + 1 := wrap_i64 (by omega) (by omega)
      have e5 : IntKind.u64.wrap (((z + (2 ^ i - 2 ^ k) : Nat) : Int) + ((2 ^ i : Nat) : Int)) = ((z + (2 ^ (i + 1) - 2 ^ k) : Nat) : Int) := by
        rw [← Int.natCast_add, wrap_u64' (by omega)]
        congr 1; omega
      have h1' : (i : Int) < 64 := by omega
      have hmn : min i 64 = i := by omega
      have hs := rfl (a := evCI pg ir_undertowref01_Sextl0 ⟨[.int .u64 x, .int .i64 n, r, .int .u64 ((z + (2 ^ i - 2 ^ k) : Nat) : Int), .int .i64 i, a, b], m⟩)
      conv at hs => rhs; simp [ir_undertowref01_Sextl0, go_sem, h1', e0, e1, e2, hmn, e5, IntKind.bits, -Int.natCast_emod, -Int.natCast_pow, -Int.natCast_ediv, -Int.natCast_add, -Int.natCast_mul]
      rw [s_loop, hs, s_then_nrm]
      exact refSext_loop x n m z k hz d (i + 1) _ _ _ (by omega) (by omega) (by omega)
    · have hi' : i = 64 := by omega
      subst hi'
      have hs := rfl (a := evCI pg ir_undertowref01_Sextl0 ⟨[.int .u64 x, .int .i64 n, r, .int .u64 ((z + (2 ^ 64 - 2 ^ k) : Nat) : Int), .int .i64 (64 : Nat), a, b], m⟩)
      conv at hs => rhs; simp [ir_undertowref01_Sextl0, go_sem, -Int.natCast_emod, -Int.natCast_pow, -Int.natCast_ediv, -Int.natCast_add, -Int.natCast_mul]
      rw [s_loop, hs, s_then_exit]
      exact ⟨_, _, _, rfl⟩
theorem refSext_ok (x : Nat) (n : Int) (hx : x < 18446744073709551616) : evI pg .val n_undertowref01_Sext [.int .u64 x, .int .i64 n] [] = some (.int .u64 (sx x n : Nat), []) := by
  have hz := refZext_ok x n hx
  rw [s_fn fn_undertowref01_Sext]
  by_cases h : n < 1
  · simp [ir_undertowref01_Sext, go_sem, h, callF, hz, sx]
  · by_cases h' : 64 < n
    · have h2 : 64 ≤ n := by omega
      simp [ir_undertowref01_Sext, go_sem, h, h', callF, hz, sx, h2]
    · obtain ⟨k, rfl⟩ : ∃ k : Nat, n = k := ⟨n.toNat, by omega⟩
      have hk : k ≤ 64 := by omega
      have h1 : 1 ≤ k := by omega
      have e0 : IntKind.i64.wrap ((k : Int) - 1) = ((k - 1 : Nat) : Int) := by rw [wrap_i64 (by omega) (by omega)]; omega
      have e00 : IntKind.u64.wrap (((k - 1 : Nat) : Int)) = ((k - 1 : Nat) : Int) := wrap_u64' (by omega)
      have hmn : min (k - 1) 64 = k - 1 := by omega
      have e3 : ((x : Int)).fdiv (2 ^ (k - 1)) = ((x / 2 ^ (k - 1) : Nat) : Int) := shr_nat x _
      have hl : x / 2 ^ (k - 1) < 18446744073709551616 := Nat.lt_of_le_of_lt (Nat.div_le_self _ _) hx
      have e4 : andI .u64 ((x / 2 ^ (k - 1) : Nat) : Int) 1 = if x.testBit (k - 1) then 1 else 0 := by
        have := and_u64 hl (show 1 < 18446744073709551616 by omega)
        rw [testBit_and] at this
        rw [show (1 : Int) = ((1 : Nat) : Int) from rfl, this]
        split <;> rfl
      cases hb : x.testBit (k - 1) with
      | false =>
        have hsx : sx x k = zx x k := by
          unfold sx; simp [hb]
        simp [ir_undertowref01_Sext, go_sem, h, h', callF, hz, hsx, e0, e00, hmn, e3, e4, hb, IntKind.bits, -Int.natCast_emod, -Int.natCast_pow, -Int.natCast_ediv, -Int.natCast_add, -Int.natCast_mul]
      | true =>
        have hzl : zx x k < 2 ^ k := by unfold zx; simpa using Nat.mod_lt _ (Nat.two_pow_pos k)
        obtain ⟨i', a', b', hloop⟩ := refSext_loop x k ⟨[], [], []⟩ (zx x k) k hzl (64 - k) k (.int .u64 0) (.bool false) .undef (by omega) (by omega) hk
        have hp64 : k = 64 → (2 : Nat) ^ k = 18446744073709551616 := fun h => by subst h; rfl
        have hsx : sx x k = zx x k + (18446744073709551616 - 2 ^ k) := by
          unfold sx
          by_cases h64 : k = 64
          · rw [if_pos (by omega), hp64 h64]; omega
          · rw [if_neg (by omega)]
            simp [hb]
        simp only [Nat.sub_self, Nat.add_zero] at hloop
        simp [ir_undertowref01_Sext, go_sem, h, h', callF, hz, hsx, e0, e00, hmn, e3, e4, hb, hloop, IntKind.bits, -Int.natCast_emod, -Int.natCast_pow, -Int.natCast_ediv, -Int.natCast_add, -Int.natCast_mul]

/-- A list of bytes as it stands. -/
def byV (l : List Nat) : List (List V) := l.map fun x : Nat => [.int .u8 (x : Int)]
theorem byV_len (l : List Nat) : (byV l).length = l.length := by simp [byV]
theorem byV_imm (l : List Nat) : immAll (byV l) = true := by simp [immAll, byV, V.imm]
theorem byV_sz (l : List Nat) : szAll 1 (byV l) = true := by simp [szAll, byV]
theorem byV_get (l : List Nat) (i : Nat) (h : i < l.length) : (byV l)[i]? = some [.int .u8 (l[i] : Int)] := by simp [byV, h]
theorem byV_el (l : List Nat) (i : Nat) (h : i < (byV l).length) : (byV l)[i] = [.int .u8 ((l[i]'(by simpa [byV] using h) : Nat) : Int)] := by simp [byV]
theorem byV_append (l l' : List Nat) : byV (l ++ l') = byV l ++ byV l' := by simp [byV]
/-- A word's first bytes. -/
def byl (x : Nat) (k : Nat) : List Nat := (List.range k).map fun i => x / 256 ^ i % 256
theorem byl_len (x k : Nat) : (byl x k).length = k := by simp [byl]
theorem byl_succ (x k : Nat) : byl x (k + 1) = byl x k ++ [x / 256 ^ k % 256] := by simp [byl, List.range_succ]
theorem byl_lt (x k : Nat) : ∀ b ∈ byl x k, b < 256 := by
  intro b hb
  simp only [byl, List.mem_map] at hb
  obtain ⟨i, _, rfl⟩ := hb
  exact Nat.mod_lt _ (by omega)
/-- How many bytes. -/
def clm (n : Int) : Nat := (min n 8).toNat
theorem clm_le (n : Int) : clm n ≤ 8 := by unfold clm; omega

/-! ### the same lists -/
/-- May a range be? -/
def isR (a n : Int) : Bool := decide (0 ≤ a ∧ a ≤ 1099511627776 ∧ 1 ≤ n ∧ n ≤ 8)
/-- Do ranges meet? -/
def ovl (a n b m : Int) : Bool := isR a n && isR b m && decide (a < b + m) && decide (b < a + n)
/-- Is an address a multiple of a size? -/
def algn (a n : Int) : Bool := decide ((n = 1 ∨ n = 2 ∨ n = 4 ∨ n = 8) ∧ 0 ≤ a ∧ a % n = 0)
/-- The number of bytes. -/
def ofN : List Nat → Nat
  | [] => 0
  | b :: l => b + 256 * ofN l
theorem ofN_lt : ∀ (l : List Nat), (∀ b ∈ l, b < 256) → ofN l < 256 ^ l.length
  | [], _ => by simp [ofN]
  | b :: l, h => by
    have h1 := ofN_lt l fun x hx => h x (by simp [hx])
    have h2 := h b (by simp)
    have hp := @Nat.pow_succ 256 l.length
    simp only [ofN, List.length_cons]
    omega
theorem ofN_append : ∀ (l l' : List Nat), ofN (l ++ l') = ofN l + 256 ^ l.length * ofN l'
  | [], l' => by simp [ofN]
  | b :: l, l' => by
    have hp := @Nat.pow_succ 256 l.length
    simp only [List.cons_append, ofN, ofN_append l l', List.length_cons, hp]
    rw [Nat.mul_add, Nat.add_assoc, ← Nat.mul_assoc, Nat.mul_comm 256 (256 ^ l.length)]
theorem ofN_byl (x : Nat) : ∀ k, ofN (byl x k) = x % 256 ^ k
  | 0 => by simp [byl, ofN, Nat.mod_one]
  | k + 1 => by
    rw [byl_succ, ofN_append, ofN_byl x k, byl_len, Nat.pow_succ, Nat.mod_mul]
    simp [ofN]
theorem pow256 {i : Nat} (h : i ≤ 8) : 256 ^ i ≤ 18446744073709551616 := Nat.pow_le_pow_right (n := 256) (by omega) h
theorem pow256' {i : Nat} (h : i ≤ 7) : 256 ^ i ≤ 72057594037927936 := Nat.pow_le_pow_right (n := 256) (by omega) h
end Go.Proofs.Ytffbhbjnkecieaa
