/- Layer 1: what its functions come to (no claim; lemmas). -/
import Derived.Test.YtgcpojicidaphaaVf
import Derived.Test.YtgcpojicidaphaaIr
set_option linter.unusedSimpArgs false
set_option linter.unusedVariables false
namespace Go.Proofs.Ytgcpojicidaphaa
open Go Go.Vm

/-- The low bits of a word. -/
def zx (x : Nat) (n : Int) : Nat := x % 2 ^ n.toNat
theorem zx_lt {x : Nat} {n : Int} (hx : x < 18446744073709551616) : zx x n < 18446744073709551616 := Nat.lt_of_le_of_lt (Nat.mod_le _ _) hx
theorem pow_lt {k : Nat} (h : k < 64) : 2 ^ k < 18446744073709551616 := by
  have := Nat.pow_lt_pow_right (a := 2) (by omega) h
  omega
theorem pow_le {k : Nat} (h : 64 ≤ k) : 18446744073709551616 ≤ 2 ^ k := Nat.pow_le_pow_right (n := 2) (by omega) h

theorem Zext_ok (x : Nat) (n : Int) (hx : x < 18446744073709551616) : evI pg .val n_word_Zext [.int .u64 x, .int .i64 n] [] = some (.int .u64 (zx x n : Nat), []) := by
  unfold zx
  rw [s_fn fn_word_Zext]
  by_cases h : n < 1
  · have e : n.toNat = 0 := by omega
    simp [ir_word_Zext, go_sem, h, e, Nat.mod_one]
  · by_cases h' : 64 ≤ n
    · have e : x % 2 ^ n.toNat = x := Nat.mod_eq_of_lt (Nat.lt_of_lt_of_le hx (pow_le (by omega)))
      simp [ir_word_Zext, go_sem, h, h', e]
    · obtain ⟨k, rfl⟩ : ∃ k : Nat, n = k := ⟨n.toNat, by omega⟩
      have hk : k < 64 := by omega
      have hp := pow_lt hk
      have h0 : 0 < 2 ^ k := Nat.two_pow_pos k
      have e1 : IntKind.u64.wrap (2 ^ k) = ((2 ^ k : Nat) : Int) := by rw [← wrap_u64' hp]; simp
      have e2 : IntKind.u64.wrap (((2 ^ k : Nat) : Int) - 1) = ((2 ^ k - 1 : Nat) : Int) := by rw [← wrap_u64' (by omega : 2 ^ k - 1 < _)]; congr 1; omega
      have e3 : andI .u64 (x : Int) ((2 ^ k - 1 : Nat) : Int) = ((x % 2 ^ k : Nat) : Int) := by rw [and_u64 hx (by omega), Nat.and_two_pow_sub_one_eq_mod]
      simp [ir_word_Zext, go_sem, h, h', min_nat, Nat.min_eq_left (Nat.le_of_lt hk), IntKind.bits, e1, e2, e3, -Int.natCast_pow, -Int.natCast_emod]

/-- The low bits with their sign. -/
def sx (x : Nat) (n : Int) : Nat := if n < 1 ∨ 64 ≤ n then zx x n else zx x n + if x.testBit (n.toNat - 1) then 18446744073709551616 - 2 ^ n.toNat else 0
theorem sx_pre (x k : Nat) (h0 : 1 ≤ k) (h : k < 64) : x * 2 ^ (64 - k) % 18446744073709551616 = x % 2 ^ k * 2 ^ (64 - k) := by
  have e : (18446744073709551616 : Nat) = 2 ^ k * 2 ^ (64 - k) := by rw [← Nat.pow_add, Nat.add_sub_cancel' (by omega)]
  rw [e, Nat.mul_mod_mul_right]
theorem half_pow (k : Nat) (h0 : 1 ≤ k) : 2 ^ k = 2 * 2 ^ (k - 1) := by
  obtain ⟨j, rfl⟩ : ∃ j, k = j + 1 := ⟨k - 1, by omega⟩
  simp [Nat.pow_succ]; omega
theorem Sext_ok (x : Nat) (n : Int) (hx : x < 18446744073709551616) : evI pg .val n_word_Sext [.int .u64 x, .int .i64 n] [] = some (.int .u64 (sx x n : Nat), []) := by
  have hz := Zext_ok x n hx
  rw [s_fn fn_word_Sext]
  by_cases h : n < 1
  · simp [ir_word_Sext, go_sem, h, callF, hz, sx]
  · by_cases h' : 64 ≤ n
    · simp [ir_word_Sext, go_sem, h, h', callF, hz, sx]
    · obtain ⟨k, rfl⟩ : ∃ k : Nat, n = k := ⟨n.toNat, by omega⟩
      have hk : k < 64 := by omega
      have h1 : 1 ≤ k := by omega
      have h64 : (64 : Int) - (k : Int) = ((64 - k : Nat) : Int) := by omega
      have e0 : IntKind.i64.wrap (((64 - k : Nat) : Int)) = ((64 - k : Nat) : Int) := wrap_i64 (by omega) (by omega)
      have e1 : IntKind.u64.wrap ((x : Int) * 2 ^ (64 - k)) = ((x % 2 ^ k * 2 ^ (64 - k) : Nat) : Int) := by
        rw [shl_nat, wrap_u64, sx_pre x k h1 hk]
      have hp : 2 ^ k * 2 ^ (64 - k) = 18446744073709551616 := by rw [← Nat.pow_add, Nat.add_sub_cancel' (by omega)]
      have hz1 : x % 2 ^ k < 2 ^ k := Nat.mod_lt _ (Nat.two_pow_pos k)
      have hlt : x % 2 ^ k * 2 ^ (64 - k) < 18446744073709551616 := by rw [← hp]; exact Nat.mul_lt_mul_of_pos_right hz1 (Nat.two_pow_pos _)
      have hp2 := half_pow k h1
      have hbit := mod_succ_bit x (k - 1)
      rw [Nat.sub_add_cancel h1] at hbit
      have hz2 : x % 2 ^ (k - 1) < 2 ^ (k - 1) := Nat.mod_lt _ (Nat.two_pow_pos _)
      have hph : 2 ^ (k - 1) * 2 ^ (64 - k) = 9223372036854775808 := by
        rw [← Nat.pow_add, show k - 1 + (64 - k) = 63 by omega]
      have hpl := pow_lt hk
      have hne : ((2 ^ (64 - k) : Nat) : Int) ≠ 0 := by have := Nat.two_pow_pos (64 - k); omega
      have hcast : (2 : Int) ^ (64 - k) = ((2 ^ (64 - k) : Nat) : Int) := by simp
      have e2 : IntKind.u64.wrap ((IntKind.i64.wrap ((x % 2 ^ k * 2 ^ (64 - k) : Nat) : Int)).fdiv (2 ^ (64 - k))) = ((sx x k : Nat) : Int) := by
        have hsx : sx x k = x % 2 ^ k + if x.testBit (k - 1) then 18446744073709551616 - 2 ^ k else 0 := by
          unfold sx zx
          rw [if_neg (by omega)]
          simp
        rw [hsx]
        cases hb : x.testBit (k - 1) with
        | false =>
          rw [hb] at hbit
          have hlow : x % 2 ^ k * 2 ^ (64 - k) < 9223372036854775808 := by
            rw [← hph]
            exact Nat.mul_lt_mul_of_pos_right (by rw [hbit]; simpa using hz2) (Nat.two_pow_pos _)
          rw [wrap_i64 (by omega) (by omega), hcast, Int.natCast_mul, Int.mul_fdiv_cancel _ hne]
          simp only [Bool.false_eq_true, if_false, Nat.add_zero]
          exact wrap_u64' (by omega)
        | true =>
          rw [hb] at hbit
          simp only [if_true] at hbit
          have hhigh : 9223372036854775808 ≤ x % 2 ^ k * 2 ^ (64 - k) := by
            rw [← hph]
            exact Nat.mul_le_mul_right _ (by omega)
          have ew : IntKind.i64.wrap ((x % 2 ^ k * 2 ^ (64 - k) : Nat) : Int) = ((x % 2 ^ k : Nat) : Int) * ((2 ^ (64 - k) : Nat) : Int) - ((2 ^ k : Nat) : Int) * ((2 ^ (64 - k) : Nat) : Int) := by
            rw [wrap_i64_eq, ← Int.natCast_mul, ← Int.natCast_mul, hp]
            rw [Int.emod_eq_of_lt (by omega) (by omega), if_pos (by omega)]
            rfl
          rw [ew, ← Int.sub_mul, hcast, Int.mul_fdiv_cancel _ hne]
          simp only [if_true]
          have e9 : IntKind.u64.wrap (((x % 2 ^ k : Nat) : Int) - ((2 ^ k : Nat) : Int)) = (((x % 2 ^ k : Nat) : Int) - ((2 ^ k : Nat) : Int)) % 18446744073709551616 := by
            simp only [IntKind.wrap, IntKind.bits, IntKind.signed]; simp
          rw [e9]
          omega
      simp [ir_word_Sext, go_sem, h, h', h64, e0, e1, e2, Nat.min_eq_left, IntKind.bits, -Int.natCast_emod, -Int.natCast_pow, -Int.natCast_ediv, -Int.natCast_add, -Int.natCast_mul]
/-! ### fields -/
def fld (w : Nat) (hi lo : Int) : Nat := if lo < 0 ∨ 31 < hi ∨ hi < lo then 0 else w / 2 ^ lo.toNat % 2 ^ (hi - lo + 1).toNat
theorem pow_lt32 {k : Nat} (h : k < 32) : 2 ^ k < 4294967296 := by
  have := Nat.pow_lt_pow_right (a := 2) (by omega) h
  omega
theorem Field_ok (w : Nat) (hi lo : Int) (hw : w < 4294967296) : evI pg .val n_word_Field [.int .u32 w, .int .i64 hi, .int .i64 lo] [] = some (.int .u32 (fld w hi lo : Nat), []) := by
  rw [s_fn fn_word_Field]
  unfold fld
  by_cases h1 : 31 < hi
  · simp [ir_word_Field, go_sem, h1]
  · by_cases h2 : hi < lo
    · simp [ir_word_Field, go_sem, h1, h2]
    · by_cases h3 : lo < 0
      · simp [ir_word_Field, go_sem, h1, h2, h3]
      · obtain ⟨l, rfl⟩ : ∃ k : Nat, lo = k := ⟨lo.toNat, by omega⟩
        obtain ⟨k, rfl⟩ : ∃ k : Nat, hi = k := ⟨hi.toNat, by omega⟩
        have e0 : IntKind.u64.wrap (w : Int) = (w : Int) := wrap_u64' (by omega)
        have e1 : ((w : Int)).fdiv (2 ^ l) = ((w / 2 ^ l : Nat) : Int) := shr_nat w _
        have e2 : IntKind.i64.wrap ((k : Int) - (l : Int)) = ((k - l : Nat) : Int) := by rw [wrap_i64 (by omega) (by omega)]; omega
        have e3 : IntKind.i64.wrap (((k - l : Nat) : Int) + 1) = ((k - l + 1 : Nat) : Int) := by rw [wrap_i64 (by omega) (by omega)]; rfl
        have hmn : min l 64 = l := by omega
        have hl : w / 2 ^ l < 4294967296 := Nat.lt_of_le_of_lt (Nat.div_le_self _ _) hw
        have hz := Zext_ok (w / 2 ^ l) ((k - l + 1 : Nat) : Int) (by omega)
        have hzz : zx (w / 2 ^ l) ((k - l + 1 : Nat) : Int) = w / 2 ^ l % 2 ^ (k - l + 1) := by unfold zx; simp
        have e5 : IntKind.u32.wrap ((w / 2 ^ l % 2 ^ (k - l + 1) : Nat) : Int) = ((w / 2 ^ l % 2 ^ (k - l + 1) : Nat) : Int) := wrap_u32' (Nat.lt_of_le_of_lt (Nat.mod_le _ _) hl)
        have h4 : ((k : Int) - l + 1).toNat = k - l + 1 := by omega
        rw [hzz] at hz
        simp [ir_word_Field, go_sem, h1, h2, h3, e0, e1, e2, e3, hmn, callF, hz, e5, h4, IntKind.bits, -Int.natCast_emod, -Int.natCast_pow, -Int.natCast_ediv, -Int.natCast_add, -Int.natCast_mul]
end Go.Proofs.Ytgcpojicidaphaa
