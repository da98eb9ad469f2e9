/- Of a word's bytes the number is its low bits, extending twice is as once, and overlapping is the same either way: the law WordBack returns true whatever it is handed. No condition. -/
import Derived.Test.YtblaimfdeiccpaaK01d
import Derived.Test.YtblaimfdeiccpaaK01c
import Derived.Test.YtblaimfdeiccpaaRows
set_option linter.unusedSimpArgs false
set_option linter.unusedVariables false
namespace Go.Proofs.Ytblaimfdeiccpaa.lawBack
open Go Go.Vm
theorem alive_ok : evI pg .val n_undertowlaw01_alive [] [] = some (.bool true, []) := closed irL_ok 100 (by kernel_rfl)
theorem sx_lt (x : Nat) (n : Int) (hx : x < 18446744073709551616) : sx x n < 18446744073709551616 := by
  have hz := zx_lt (n := n) hx
  unfold sx
  split
  · exact hz
  · rename_i h
    have hp := pow_lt (k := n.toNat) (by omega)
    have : zx x n < 2 ^ n.toNat := Nat.mod_lt _ (Nat.two_pow_pos _)
    split <;> omega
theorem zx_sx (x : Nat) (n : Int) (hx : x < 18446744073709551616) : zx (sx x n) n = zx x n := by
  unfold sx
  split
  · unfold zx; rw [Nat.mod_mod]
  · rename_i h
    obtain ⟨k, rfl⟩ : ∃ k : Nat, n = k := ⟨n.toNat, by omega⟩
    have hk : k < 64 := by omega
    have e : 18446744073709551616 - 2 ^ k = 2 ^ k * (2 ^ (64 - k) - 1) := by
      rw [Nat.mul_sub, ← Nat.pow_add, Nat.add_sub_cancel' (by omega)]; simp
    unfold zx
    simp only [Int.toNat_natCast]
    split
    · rw [e, Nat.add_mul_mod_self_left, Nat.mod_mod]
    · rw [Nat.add_zero, Nat.mod_mod]
theorem sx_sx (x : Nat) (n : Int) (hx : x < 18446744073709551616) : sx (sx x n) n = sx x n := by
  by_cases h : n < 1 ∨ 64 ≤ n
  · have e : ∀ y, sx y n = zx y n := fun y => by unfold sx; rw [if_pos h]
    rw [e, e]; unfold zx; rw [Nat.mod_mod]
  · obtain ⟨k, rfl⟩ : ∃ k : Nat, n = k := ⟨n.toNat, by omega⟩
    have e : ∀ y, sx y k = zx y k + if y.testBit (k - 1) then 18446744073709551616 - 2 ^ k else 0 := fun y => by unfold sx; rw [if_neg h]; simp
    have hz := zx_sx x k hx
    have hb : (sx x k).testBit (k - 1) = x.testBit (k - 1) := by
      have h1 : (sx x k % 2 ^ k).testBit (k - 1) = (sx x k).testBit (k - 1) := by
        rw [Nat.testBit_mod_two_pow]
        have : k - 1 < k := by omega
        simp [this]
      have h2 : (x % 2 ^ k).testBit (k - 1) = x.testBit (k - 1) := by
        rw [Nat.testBit_mod_two_pow]
        have : k - 1 < k := by omega
        simp [this]
      have h3 : sx x k % 2 ^ k = x % 2 ^ k := by simpa [zx] using hz
      rw [← h1, h3, h2]
    rw [e (sx x k), hz, hb, ← e x]
theorem ovl_sym (a n b m : Int) : ovl a n b m = ovl b m a n := by
  unfold ovl
  cases isR a n <;> cases isR b m <;> simp [Bool.and_comm]
theorem of_bytes (x : Nat) (n : Int) : ofN ((byl x (clm n)).take 8) = x % 2 ^ (8 * clm n) := by
  rw [List.take_of_length_le (by rw [byl_len]; exact clm_le n), ofN_byl, show (256 : Nat) = 2 ^ 8 from rfl, ← Nat.pow_mul]
theorem true_ (x : Nat) (n a b m : Int) (hx : x < 18446744073709551616) :
    evI pg .val n_undertowlaw01_WordBack [.int .u64 x, .int .i64 n, .int .i64 a, .int .i64 b, .int .i64 m] [] = some (.bool true, []) := by
  have ho := Of_ok (byl x (clm n)) (byl_lt x _) (by rw [byl_len]; have := clm_le n; omega)
  rw [of_bytes] at ho
  have hz := Zext_ok x (8 * (clm n : Int)) hx
  have hz' : zx x (8 * (clm n : Int)) = x % 2 ^ (8 * clm n) := by unfold zx; congr 2
  rw [hz'] at hz
  have s1 := Sext_ok x n hx
  have s2 := Sext_ok (sx x n) n (sx_lt x n hx)
  rw [sx_sx x n hx] at s2
  have s3 := Zext_ok (sx x n) n (sx_lt x n hx)
  rw [zx_sx x n hx] at s3
  have s4 := Zext_ok x n hx
  have o1 := Overlap_ok a n b m
  have o2 := Overlap_ok b m a n
  rw [ovl_sym] at o1
  rw [s_fn fn_undertowlaw01_WordBack]
  by_cases h8 : 8 < n
  · have ec : clm n = 8 := by unfold clm; omega
    rw [ec] at ho hz
    have ew : IntKind.i64.wrap 64 = 64 := rfl
    simp at hz ho
    simp [ir_undertowlaw01_WordBack, go_sem, alive_ok, Bytes_ok x n hx, ec, ho, hz, s1, s2, s3, s4, o1, o2, h8, ew]
  · by_cases h0 : n < 0
    · have ec : clm n = 0 := by unfold clm; omega
      rw [ec] at ho hz
      have ew : IntKind.i64.wrap 0 = 0 := rfl
      simp at hz ho
      simp [ir_undertowlaw01_WordBack, go_sem, alive_ok, Bytes_ok x n hx, ec, ho, hz, s1, s2, s3, s4, o1, o2, h8, h0, ew]
    · obtain ⟨k, rfl⟩ : ∃ k : Nat, n = k := ⟨n.toNat, by omega⟩
      have ec : clm k = k := by unfold clm; omega
      rw [ec] at ho hz
      have ew : IntKind.i64.wrap (8 * (k : Int)) = 8 * (k : Int) := wrap_i64 (by omega) (by omega)
      simp [ir_undertowlaw01_WordBack, go_sem, alive_ok, Bytes_ok x k hx, ec, ho, hz, s1, s2, s3, s4, o1, o2, h8, ew, -Int.natCast_emod, -Int.natCast_pow]
theorem law : ∀ vs, PArgs Try.prog 6 Try.f7.params.toList vs → ∃ k, evF pg k .val 7 vs [] = some (.bool true, []) := by
  intro vs h
  obtain ⟨v1, _, rfl, h1, v2, _, rfl, h2, v3, _, rfl, h3, v4, _, rfl, h4, v5, _, rfl, h5, rfl⟩ := h
  obtain ⟨x, rfl, hx'⟩ := arg_u64 Try.underlying22 h1
  obtain ⟨n, rfl, _⟩ := arg_i64 Try.underlying3 h2
  obtain ⟨a, rfl, _⟩ := arg_i64 Try.underlying3 h3
  obtain ⟨b, rfl, _⟩ := arg_i64 Try.underlying3 h4
  obtain ⟨m, rfl, _⟩ := arg_i64 Try.underlying3 h5
  exact (evI_iff (hx _ _)).1 (true_ x n a b m hx')
end Go.Proofs.Ytblaimfdeiccpaa.lawBack
