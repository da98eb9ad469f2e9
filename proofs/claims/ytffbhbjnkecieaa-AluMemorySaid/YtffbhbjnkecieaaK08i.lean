/- Layer 8: what bytes become at once (no claim; lemmas). -/
import Derived.Test.YtffbhbjnkecieaaK08h
set_option linter.unusedSimpArgs false
set_option linter.unusedVariables false
set_option linter.unusedSectionVars false
namespace Go.Proofs.Ytffbhbjnkecieaa
open Go Go.Vm

def atI (j x y u v : Nat) : Nat :=
  match j with
  | 0 => y
  | 1 => (x + y) % 18446744073709551616
  | 2 => x ^^^ y
  | 3 => x &&& y
  | 4 => x ||| y
  | 5 => if lts y x then y else x
  | 6 => if lts x y then y else x
  | 7 => if v < u then v else u
  | _ => if u < v then v else u
theorem back_u {x : Nat} (hx : x < 18446744073709551616) : IntKind.u64.wrap (IntKind.i64.wrap (x : Int)) = (x : Int) := by
  rw [wrap_u64_eq, wrap_i64_eq]; split <;> omega
section
variable {x y : Nat} (hx : x < 18446744073709551616) (hy : y < 18446744073709551616) (n : Int)
include hx hy
theorem f_mn : IntKind.u64.wrap (if IntKind.i64.wrap (y : Int) < IntKind.i64.wrap (x : Int) then IntKind.i64.wrap (y : Int) else IntKind.i64.wrap (x : Int)) = ((if lts y x then y else x : Nat) : Int) := by
  unfold lts
  by_cases c : IntKind.i64.wrap (y : Int) < IntKind.i64.wrap (x : Int)
  · simp only [c, if_true, decide_true]; exact back_u hy
  · simp only [c, if_false, decide_false, Bool.false_eq_true]; exact back_u hx
theorem f_mx : IntKind.u64.wrap (if IntKind.i64.wrap (x : Int) < IntKind.i64.wrap (y : Int) then IntKind.i64.wrap (y : Int) else IntKind.i64.wrap (x : Int)) = ((if lts x y then y else x : Nat) : Int) := by
  unfold lts
  by_cases c : IntKind.i64.wrap (x : Int) < IntKind.i64.wrap (y : Int)
  · simp only [c, if_true, decide_true]; exact back_u hy
  · simp only [c, if_false, decide_false, Bool.false_eq_true]; exact back_u hx
theorem f_if (u v p q : Nat) : (if u < v then (p : Int) else (q : Int)) = ((if u < v then p else q : Nat) : Int) := by split <;> rfl
theorem atomic_58 : evI pg .val n_alu_atomic [.int .i64 58, .int .u64 (x : Int), .int .u64 (y : Int), .int .i64 n] [] = some (.int .u64 (atI 0 x y (zx x n) (zx y n) : Nat), []) := by
  have z1 := Zext_ok x n hx
  have z2 := Zext_ok y n hy
  have hw : IntKind.i64.wrap (58 - 58) = 0 := by rfl
  have hw2 : IntKind.i64.wrap 0 = 0 := by rfl
  have ht : (0 : Int).tmod 9 = 0 := by rfl
  have m1 := f_mn hx hy
  have m2 := f_mx hx hy
  have m3 := f_if hx hy (zx y n) (zx x n) (zx y n) (zx x n)
  have m4 := f_if hx hy (zx x n) (zx y n) (zx y n) (zx x n)
  rw [s_fn fn_alu_atomic]
  simp [ir_alu_atomic, go_sem, atI, z1, z2, hw, hw2, ht, add_u, and_u64 hx hy, or_u64 hx hy, xor_u64 hx hy, m1, m2, m3, m4, -Int.natCast_emod, -Int.natCast_ediv, -Int.natCast_mul, -Int.natCast_pow, -Int.natCast_add]
theorem atomic_59 : evI pg .val n_alu_atomic [.int .i64 59, .int .u64 (x : Int), .int .u64 (y : Int), .int .i64 n] [] = some (.int .u64 (atI 1 x y (zx x n) (zx y n) : Nat), []) := by
  have z1 := Zext_ok x n hx
  have z2 := Zext_ok y n hy
  have hw : IntKind.i64.wrap (59 - 58) = 1 := by rfl
  have hw2 : IntKind.i64.wrap 1 = 1 := by rfl
  have ht : (1 : Int).tmod 9 = 1 := by rfl
  have m1 := f_mn hx hy
  have m2 := f_mx hx hy
  have m3 := f_if hx hy (zx y n) (zx x n) (zx y n) (zx x n)
  have m4 := f_if hx hy (zx x n) (zx y n) (zx y n) (zx x n)
  rw [s_fn fn_alu_atomic]
  simp [ir_alu_atomic, go_sem, atI, z1, z2, hw, hw2, ht, add_u, and_u64 hx hy, or_u64 hx hy, xor_u64 hx hy, m1, m2, m3, m4, -Int.natCast_emod, -Int.natCast_ediv, -Int.natCast_mul, -Int.natCast_pow, -Int.natCast_add]
theorem atomic_60 : evI pg .val n_alu_atomic [.int .i64 60, .int .u64 (x : Int), .int .u64 (y : Int), .int .i64 n] [] = some (.int .u64 (atI 2 x y (zx x n) (zx y n) : Nat), []) := by
  have z1 := Zext_ok x n hx
  have z2 := Zext_ok y n hy
  have hw : IntKind.i64.wrap (60 - 58) = 2 := by rfl
  have hw2 : IntKind.i64.wrap 2 = 2 := by rfl
  have ht : (2 : Int).tmod 9 = 2 := by rfl
  have m1 := f_mn hx hy
  have m2 := f_mx hx hy
  have m3 := f_if hx hy (zx y n) (zx x n) (zx y n) (zx x n)
  have m4 := f_if hx hy (zx x n) (zx y n) (zx y n) (zx x n)
  rw [s_fn fn_alu_atomic]
  simp [ir_alu_atomic, go_sem, atI, z1, z2, hw, hw2, ht, add_u, and_u64 hx hy, or_u64 hx hy, xor_u64 hx hy, m1, m2, m3, m4, -Int.natCast_emod, -Int.natCast_ediv, -Int.natCast_mul, -Int.natCast_pow, -Int.natCast_add]
theorem atomic_61 : evI pg .val n_alu_atomic [.int .i64 61, .int .u64 (x : Int), .int .u64 (y : Int), .int .i64 n] [] = some (.int .u64 (atI 3 x y (zx x n) (zx y n) : Nat), []) := by
  have z1 := Zext_ok x n hx
  have z2 := Zext_ok y n hy
  have hw : IntKind.i64.wrap (61 - 58) = 3 := by rfl
  have hw2 : IntKind.i64.wrap 3 = 3 := by rfl
  have ht : (3 : Int).tmod 9 = 3 := by rfl
  have m1 := f_mn hx hy
  have m2 := f_mx hx hy
  have m3 := f_if hx hy (zx y n) (zx x n) (zx y n) (zx x n)
  have m4 := f_if hx hy (zx x n) (zx y n) (zx y n) (zx x n)
  rw [s_fn fn_alu_atomic]
  simp [ir_alu_atomic, go_sem, atI, z1, z2, hw, hw2, ht, add_u, and_u64 hx hy, or_u64 hx hy, xor_u64 hx hy, m1, m2, m3, m4, -Int.natCast_emod, -Int.natCast_ediv, -Int.natCast_mul, -Int.natCast_pow, -Int.natCast_add]
theorem atomic_62 : evI pg .val n_alu_atomic [.int .i64 62, .int .u64 (x : Int), .int .u64 (y : Int), .int .i64 n] [] = some (.int .u64 (atI 4 x y (zx x n) (zx y n) : Nat), []) := by
  have z1 := Zext_ok x n hx
  have z2 := Zext_ok y n hy
  have hw : IntKind.i64.wrap (62 - 58) = 4 := by rfl
  have hw2 : IntKind.i64.wrap 4 = 4 := by rfl
  have ht : (4 : Int).tmod 9 = 4 := by rfl
  have m1 := f_mn hx hy
  have m2 := f_mx hx hy
  have m3 := f_if hx hy (zx y n) (zx x n) (zx y n) (zx x n)
  have m4 := f_if hx hy (zx x n) (zx y n) (zx y n) (zx x n)
  rw [s_fn fn_alu_atomic]
  simp [ir_alu_atomic, go_sem, atI, z1, z2, hw, hw2, ht, add_u, and_u64 hx hy, or_u64 hx hy, xor_u64 hx hy, m1, m2, m3, m4, -Int.natCast_emod, -Int.natCast_ediv, -Int.natCast_mul, -Int.natCast_pow, -Int.natCast_add]
theorem atomic_63 : evI pg .val n_alu_atomic [.int .i64 63, .int .u64 (x : Int), .int .u64 (y : Int), .int .i64 n] [] = some (.int .u64 (atI 5 x y (zx x n) (zx y n) : Nat), []) := by
  have z1 := Zext_ok x n hx
  have z2 := Zext_ok y n hy
  have hw : IntKind.i64.wrap (63 - 58) = 5 := by rfl
  have hw2 : IntKind.i64.wrap 5 = 5 := by rfl
  have ht : (5 : Int).tmod 9 = 5 := by rfl
  have m1 := f_mn hx hy
  have m2 := f_mx hx hy
  have m3 := f_if hx hy (zx y n) (zx x n) (zx y n) (zx x n)
  have m4 := f_if hx hy (zx x n) (zx y n) (zx y n) (zx x n)
  rw [s_fn fn_alu_atomic]
  simp [ir_alu_atomic, go_sem, atI, z1, z2, hw, hw2, ht, add_u, and_u64 hx hy, or_u64 hx hy, xor_u64 hx hy, m1, m2, m3, m4, -Int.natCast_emod, -Int.natCast_ediv, -Int.natCast_mul, -Int.natCast_pow, -Int.natCast_add]
theorem atomic_64 : evI pg .val n_alu_atomic [.int .i64 64, .int .u64 (x : Int), .int .u64 (y : Int), .int .i64 n] [] = some (.int .u64 (atI 6 x y (zx x n) (zx y n) : Nat), []) := by
  have z1 := Zext_ok x n hx
  have z2 := Zext_ok y n hy
  have hw : IntKind.i64.wrap (64 - 58) = 6 := by rfl
  have hw2 : IntKind.i64.wrap 6 = 6 := by rfl
  have ht : (6 : Int).tmod 9 = 6 := by rfl
  have m1 := f_mn hx hy
  have m2 := f_mx hx hy
  have m3 := f_if hx hy (zx y n) (zx x n) (zx y n) (zx x n)
  have m4 := f_if hx hy (zx x n) (zx y n) (zx y n) (zx x n)
  rw [s_fn fn_alu_atomic]
  simp [ir_alu_atomic, go_sem, atI, z1, z2, hw, hw2, ht, add_u, and_u64 hx hy, or_u64 hx hy, xor_u64 hx hy, m1, m2, m3, m4, -Int.natCast_emod, -Int.natCast_ediv, -Int.natCast_mul, -Int.natCast_pow, -Int.natCast_add]
theorem atomic_65 : evI pg .val n_alu_atomic [.int .i64 65, .int .u64 (x : Int), .int .u64 (y : Int), .int .i64 n] [] = some (.int .u64 (atI 7 x y (zx x n) (zx y n) : Nat), []) := by
  have z1 := Zext_ok x n hx
  have z2 := Zext_ok y n hy
  have hw : IntKind.i64.wrap (65 - 58) = 7 := by rfl
  have hw2 : IntKind.i64.wrap 7 = 7 := by rfl
  have ht : (7 : Int).tmod 9 = 7 := by rfl
  have m1 := f_mn hx hy
  have m2 := f_mx hx hy
  have m3 := f_if hx hy (zx y n) (zx x n) (zx y n) (zx x n)
  have m4 := f_if hx hy (zx x n) (zx y n) (zx y n) (zx x n)
  rw [s_fn fn_alu_atomic]
  simp [ir_alu_atomic, go_sem, atI, z1, z2, hw, hw2, ht, add_u, and_u64 hx hy, or_u64 hx hy, xor_u64 hx hy, m1, m2, m3, m4, -Int.natCast_emod, -Int.natCast_ediv, -Int.natCast_mul, -Int.natCast_pow, -Int.natCast_add]
theorem atomic_66 : evI pg .val n_alu_atomic [.int .i64 66, .int .u64 (x : Int), .int .u64 (y : Int), .int .i64 n] [] = some (.int .u64 (atI 8 x y (zx x n) (zx y n) : Nat), []) := by
  have z1 := Zext_ok x n hx
  have z2 := Zext_ok y n hy
  have hw : IntKind.i64.wrap (66 - 58) = 8 := by rfl
  have hw2 : IntKind.i64.wrap 8 = 8 := by rfl
  have ht : (8 : Int).tmod 9 = 8 := by rfl
  have m1 := f_mn hx hy
  have m2 := f_mx hx hy
  have m3 := f_if hx hy (zx y n) (zx x n) (zx y n) (zx x n)
  have m4 := f_if hx hy (zx x n) (zx y n) (zx y n) (zx x n)
  rw [s_fn fn_alu_atomic]
  simp [ir_alu_atomic, go_sem, atI, z1, z2, hw, hw2, ht, add_u, and_u64 hx hy, or_u64 hx hy, xor_u64 hx hy, m1, m2, m3, m4, -Int.natCast_emod, -Int.natCast_ediv, -Int.natCast_mul, -Int.natCast_pow, -Int.natCast_add]
theorem atomic_67 : evI pg .val n_alu_atomic [.int .i64 67, .int .u64 (x : Int), .int .u64 (y : Int), .int .i64 n] [] = some (.int .u64 (atI 0 x y (zx x n) (zx y n) : Nat), []) := by
  have z1 := Zext_ok x n hx
  have z2 := Zext_ok y n hy
  have hw : IntKind.i64.wrap (67 - 58) = 9 := by rfl
  have hw2 : IntKind.i64.wrap 9 = 9 := by rfl
  have ht : (9 : Int).tmod 9 = 0 := by rfl
  have m1 := f_mn hx hy
  have m2 := f_mx hx hy
  have m3 := f_if hx hy (zx y n) (zx x n) (zx y n) (zx x n)
  have m4 := f_if hx hy (zx x n) (zx y n) (zx y n) (zx x n)
  rw [s_fn fn_alu_atomic]
  simp [ir_alu_atomic, go_sem, atI, z1, z2, hw, hw2, ht, add_u, and_u64 hx hy, or_u64 hx hy, xor_u64 hx hy, m1, m2, m3, m4, -Int.natCast_emod, -Int.natCast_ediv, -Int.natCast_mul, -Int.natCast_pow, -Int.natCast_add]
theorem atomic_68 : evI pg .val n_alu_atomic [.int .i64 68, .int .u64 (x : Int), .int .u64 (y : Int), .int .i64 n] [] = some (.int .u64 (atI 1 x y (zx x n) (zx y n) : Nat), []) := by
  have z1 := Zext_ok x n hx
  have z2 := Zext_ok y n hy
  have hw : IntKind.i64.wrap (68 - 58) = 10 := by rfl
  have hw2 : IntKind.i64.wrap 10 = 10 := by rfl
  have ht : (10 : Int).tmod 9 = 1 := by rfl
  have m1 := f_mn hx hy
  have m2 := f_mx hx hy
  have m3 := f_if hx hy (zx y n) (zx x n) (zx y n) (zx x n)
  have m4 := f_if hx hy (zx x n) (zx y n) (zx y n) (zx x n)
  rw [s_fn fn_alu_atomic]
  simp [ir_alu_atomic, go_sem, atI, z1, z2, hw, hw2, ht, add_u, and_u64 hx hy, or_u64 hx hy, xor_u64 hx hy, m1, m2, m3, m4, -Int.natCast_emod, -Int.natCast_ediv, -Int.natCast_mul, -Int.natCast_pow, -Int.natCast_add]
theorem atomic_69 : evI pg .val n_alu_atomic [.int .i64 69, .int .u64 (x : Int), .int .u64 (y : Int), .int .i64 n] [] = some (.int .u64 (atI 2 x y (zx x n) (zx y n) : Nat), []) := by
  have z1 := Zext_ok x n hx
  have z2 := Zext_ok y n hy
  have hw : IntKind.i64.wrap (69 - 58) = 11 := by rfl
  have hw2 : IntKind.i64.wrap 11 = 11 := by rfl
  have ht : (11 : Int).tmod 9 = 2 := by rfl
  have m1 := f_mn hx hy
  have m2 := f_mx hx hy
  have m3 := f_if hx hy (zx y n) (zx x n) (zx y n) (zx x n)
  have m4 := f_if hx hy (zx x n) (zx y n) (zx y n) (zx x n)
  rw [s_fn fn_alu_atomic]
  simp [ir_alu_atomic, go_sem, atI, z1, z2, hw, hw2, ht, add_u, and_u64 hx hy, or_u64 hx hy, xor_u64 hx hy, m1, m2, m3, m4, -Int.natCast_emod, -Int.natCast_ediv, -Int.natCast_mul, -Int.natCast_pow, -Int.natCast_add]
theorem atomic_70 : evI pg .val n_alu_atomic [.int .i64 70, .int .u64 (x : Int), .int .u64 (y : Int), .int .i64 n] [] = some (.int .u64 (atI 3 x y (zx x n) (zx y n) : Nat), []) := by
  have z1 := Zext_ok x n hx
  have z2 := Zext_ok y n hy
  have hw : IntKind.i64.wrap (70 - 58) = 12 := by rfl
  have hw2 : IntKind.i64.wrap 12 = 12 := by rfl
  have ht : (12 : Int).tmod 9 = 3 := by rfl
  have m1 := f_mn hx hy
  have m2 := f_mx hx hy
  have m3 := f_if hx hy (zx y n) (zx x n) (zx y n) (zx x n)
  have m4 := f_if hx hy (zx x n) (zx y n) (zx y n) (zx x n)
  rw [s_fn fn_alu_atomic]
  simp [ir_alu_atomic, go_sem, atI, z1, z2, hw, hw2, ht, add_u, and_u64 hx hy, or_u64 hx hy, xor_u64 hx hy, m1, m2, m3, m4, -Int.natCast_emod, -Int.natCast_ediv, -Int.natCast_mul, -Int.natCast_pow, -Int.natCast_add]
theorem atomic_71 : evI pg .val n_alu_atomic [.int .i64 71, .int .u64 (x : Int), .int .u64 (y : Int), .int .i64 n] [] = some (.int .u64 (atI 4 x y (zx x n) (zx y n) : Nat), []) := by
  have z1 := Zext_ok x n hx
  have z2 := Zext_ok y n hy
  have hw : IntKind.i64.wrap (71 - 58) = 13 := by rfl
  have hw2 : IntKind.i64.wrap 13 = 13 := by rfl
  have ht : (13 : Int).tmod 9 = 4 := by rfl
  have m1 := f_mn hx hy
  have m2 := f_mx hx hy
  have m3 := f_if hx hy (zx y n) (zx x n) (zx y n) (zx x n)
  have m4 := f_if hx hy (zx x n) (zx y n) (zx y n) (zx x n)
  rw [s_fn fn_alu_atomic]
  simp [ir_alu_atomic, go_sem, atI, z1, z2, hw, hw2, ht, add_u, and_u64 hx hy, or_u64 hx hy, xor_u64 hx hy, m1, m2, m3, m4, -Int.natCast_emod, -Int.natCast_ediv, -Int.natCast_mul, -Int.natCast_pow, -Int.natCast_add]
theorem atomic_72 : evI pg .val n_alu_atomic [.int .i64 72, .int .u64 (x : Int), .int .u64 (y : Int), .int .i64 n] [] = some (.int .u64 (atI 5 x y (zx x n) (zx y n) : Nat), []) := by
  have z1 := Zext_ok x n hx
  have z2 := Zext_ok y n hy
  have hw : IntKind.i64.wrap (72 - 58) = 14 := by rfl
  have hw2 : IntKind.i64.wrap 14 = 14 := by rfl
  have ht : (14 : Int).tmod 9 = 5 := by rfl
  have m1 := f_mn hx hy
  have m2 := f_mx hx hy
  have m3 := f_if hx hy (zx y n) (zx x n) (zx y n) (zx x n)
  have m4 := f_if hx hy (zx x n) (zx y n) (zx y n) (zx x n)
  rw [s_fn fn_alu_atomic]
  simp [ir_alu_atomic, go_sem, atI, z1, z2, hw, hw2, ht, add_u, and_u64 hx hy, or_u64 hx hy, xor_u64 hx hy, m1, m2, m3, m4, -Int.natCast_emod, -Int.natCast_ediv, -Int.natCast_mul, -Int.natCast_pow, -Int.natCast_add]
theorem atomic_73 : evI pg .val n_alu_atomic [.int .i64 73, .int .u64 (x : Int), .int .u64 (y : Int), .int .i64 n] [] = some (.int .u64 (atI 6 x y (zx x n) (zx y n) : Nat), []) := by
  have z1 := Zext_ok x n hx
  have z2 := Zext_ok y n hy
  have hw : IntKind.i64.wrap (73 - 58) = 15 := by rfl
  have hw2 : IntKind.i64.wrap 15 = 15 := by rfl
  have ht : (15 : Int).tmod 9 = 6 := by rfl
  have m1 := f_mn hx hy
  have m2 := f_mx hx hy
  have m3 := f_if hx hy (zx y n) (zx x n) (zx y n) (zx x n)
  have m4 := f_if hx hy (zx x n) (zx y n) (zx y n) (zx x n)
  rw [s_fn fn_alu_atomic]
  simp [ir_alu_atomic, go_sem, atI, z1, z2, hw, hw2, ht, add_u, and_u64 hx hy, or_u64 hx hy, xor_u64 hx hy, m1, m2, m3, m4, -Int.natCast_emod, -Int.natCast_ediv, -Int.natCast_mul, -Int.natCast_pow, -Int.natCast_add]
theorem atomic_74 : evI pg .val n_alu_atomic [.int .i64 74, .int .u64 (x : Int), .int .u64 (y : Int), .int .i64 n] [] = some (.int .u64 (atI 7 x y (zx x n) (zx y n) : Nat), []) := by
  have z1 := Zext_ok x n hx
  have z2 := Zext_ok y n hy
  have hw : IntKind.i64.wrap (74 - 58) = 16 := by rfl
  have hw2 : IntKind.i64.wrap 16 = 16 := by rfl
  have ht : (16 : Int).tmod 9 = 7 := by rfl
  have m1 := f_mn hx hy
  have m2 := f_mx hx hy
  have m3 := f_if hx hy (zx y n) (zx x n) (zx y n) (zx x n)
  have m4 := f_if hx hy (zx x n) (zx y n) (zx y n) (zx x n)
  rw [s_fn fn_alu_atomic]
  simp [ir_alu_atomic, go_sem, atI, z1, z2, hw, hw2, ht, add_u, and_u64 hx hy, or_u64 hx hy, xor_u64 hx hy, m1, m2, m3, m4, -Int.natCast_emod, -Int.natCast_ediv, -Int.natCast_mul, -Int.natCast_pow, -Int.natCast_add]
theorem atomic_75 : evI pg .val n_alu_atomic [.int .i64 75, .int .u64 (x : Int), .int .u64 (y : Int), .int .i64 n] [] = some (.int .u64 (atI 8 x y (zx x n) (zx y n) : Nat), []) := by
  have z1 := Zext_ok x n hx
  have z2 := Zext_ok y n hy
  have hw : IntKind.i64.wrap (75 - 58) = 17 := by rfl
  have hw2 : IntKind.i64.wrap 17 = 17 := by rfl
  have ht : (17 : Int).tmod 9 = 8 := by rfl
  have m1 := f_mn hx hy
  have m2 := f_mx hx hy
  have m3 := f_if hx hy (zx y n) (zx x n) (zx y n) (zx x n)
  have m4 := f_if hx hy (zx x n) (zx y n) (zx y n) (zx x n)
  rw [s_fn fn_alu_atomic]
  simp [ir_alu_atomic, go_sem, atI, z1, z2, hw, hw2, ht, add_u, and_u64 hx hy, or_u64 hx hy, xor_u64 hx hy, m1, m2, m3, m4, -Int.natCast_emod, -Int.natCast_ediv, -Int.natCast_mul, -Int.natCast_pow, -Int.natCast_add]
end
theorem zx_zx (x : Nat) (n : Int) : zx (zx x n) n = zx x n := by unfold zx; exact Nat.mod_mod _ _
section
variable {a b : Nat} (ha : a < 18446744073709551616) (hb : b < 18446744073709551616)
include ha hb
def stI (k a b : Nat) : Nat := zx (atI ((k - 58) % 9) (sx a (8 * (sz k : Nat))) (sx b (8 * (sz k : Nat))) (zx (sx a (8 * (sz k : Nat))) (8 * (sz k : Nat))) (zx (sx b (8 * (sz k : Nat))) (8 * (sz k : Nat)))) (8 * (sz k : Nat))
theorem atI_lt (j x y u v : Nat) (hx : x < 18446744073709551616) (hy : y < 18446744073709551616) (hu : u < 18446744073709551616) (hv : v < 18446744073709551616) : atI j x y u v < 18446744073709551616 := by
  have h1 : x ^^^ y < 2 ^ 64 := Nat.xor_lt_two_pow hx hy
  have h2 : x &&& y < 2 ^ 64 := Nat.and_lt_two_pow _ hy
  have h3 : x ||| y < 2 ^ 64 := Nat.or_lt_two_pow hx hy
  unfold atI
  split <;> (first | omega | (split <;> omega))
theorem Stored_58 : evI pg .val n_alu_Stored [.int .i64 58, .int .u64 (a : Int), .int .u64 (b : Int)] [] = some (.int .u64 (stI 58 a b : Nat), []) := by
  have hS : evI pg .val n_ops_Sort [.int .i64 58] [] = some (.int .i64 12, []) := Sort_tab 58 (by decide)
  have hZ : evI pg .val n_ops_Size [.int .i64 58] [] = some (.int .i64 4, []) := Size_tab 58 (by decide)
  have hw : IntKind.i64.wrap (8 * 4) = 32 := by rfl
  have hw2 : IntKind.i64.wrap 32 = 32 := by rfl
  have e1 := Sext_ok a 32 ha
  have e2 := Sext_ok b 32 hb
  have l1 := sx_lt a 32 ha
  have l2 := sx_lt b 32 hb
  have e3 := atomic_58 l1 l2 32
  have e4 := Zext_ok _ 32 (atI_lt ha hb 0 _ _ _ _ l1 l2 (zx_lt (n := 32) l1) (zx_lt (n := 32) l2))
  have hst : stI 58 a b = zx (atI 0 (sx a 32) (sx b 32) (zx (sx a 32) 32) (zx (sx b 32) 32)) 32 := rfl
  rw [hst]
  rw [s_fn fn_alu_Stored]
  simp [ir_alu_Stored, go_sem, hS, hZ, hw, hw2, e1, e2, e3, e4]
theorem Stored_59 : evI pg .val n_alu_Stored [.int .i64 59, .int .u64 (a : Int), .int .u64 (b : Int)] [] = some (.int .u64 (stI 59 a b : Nat), []) := by
  have hS : evI pg .val n_ops_Sort [.int .i64 59] [] = some (.int .i64 12, []) := Sort_tab 59 (by decide)
  have hZ : evI pg .val n_ops_Size [.int .i64 59] [] = some (.int .i64 4, []) := Size_tab 59 (by decide)
  have hw : IntKind.i64.wrap (8 * 4) = 32 := by rfl
  have hw2 : IntKind.i64.wrap 32 = 32 := by rfl
  have e1 := Sext_ok a 32 ha
  have e2 := Sext_ok b 32 hb
  have l1 := sx_lt a 32 ha
  have l2 := sx_lt b 32 hb
  have e3 := atomic_59 l1 l2 32
  have e4 := Zext_ok _ 32 (atI_lt ha hb 1 _ _ _ _ l1 l2 (zx_lt (n := 32) l1) (zx_lt (n := 32) l2))
  have hst : stI 59 a b = zx (atI 1 (sx a 32) (sx b 32) (zx (sx a 32) 32) (zx (sx b 32) 32)) 32 := rfl
  rw [hst]
  rw [s_fn fn_alu_Stored]
  simp [ir_alu_Stored, go_sem, hS, hZ, hw, hw2, e1, e2, e3, e4]
theorem Stored_60 : evI pg .val n_alu_Stored [.int .i64 60, .int .u64 (a : Int), .int .u64 (b : Int)] [] = some (.int .u64 (stI 60 a b : Nat), []) := by
  have hS : evI pg .val n_ops_Sort [.int .i64 60] [] = some (.int .i64 12, []) := Sort_tab 60 (by decide)
  have hZ : evI pg .val n_ops_Size [.int .i64 60] [] = some (.int .i64 4, []) := Size_tab 60 (by decide)
  have hw : IntKind.i64.wrap (8 * 4) = 32 := by rfl
  have hw2 : IntKind.i64.wrap 32 = 32 := by rfl
  have e1 := Sext_ok a 32 ha
  have e2 := Sext_ok b 32 hb
  have l1 := sx_lt a 32 ha
  have l2 := sx_lt b 32 hb
  have e3 := atomic_60 l1 l2 32
  have e4 := Zext_ok _ 32 (atI_lt ha hb 2 _ _ _ _ l1 l2 (zx_lt (n := 32) l1) (zx_lt (n := 32) l2))
  have hst : stI 60 a b = zx (atI 2 (sx a 32) (sx b 32) (zx (sx a 32) 32) (zx (sx b 32) 32)) 32 := rfl
  rw [hst]
  rw [s_fn fn_alu_Stored]
  simp [ir_alu_Stored, go_sem, hS, hZ, hw, hw2, e1, e2, e3, e4]
theorem Stored_61 : evI pg .val n_alu_Stored [.int .i64 61, .int .u64 (a : Int), .int .u64 (b : Int)] [] = some (.int .u64 (stI 61 a b : Nat), []) := by
  have hS : evI pg .val n_ops_Sort [.int .i64 61] [] = some (.int .i64 12, []) := Sort_tab 61 (by decide)
  have hZ : evI pg .val n_ops_Size [.int .i64 61] [] = some (.int .i64 4, []) := Size_tab 61 (by decide)
  have hw : IntKind.i64.wrap (8 * 4) = 32 := by rfl
  have hw2 : IntKind.i64.wrap 32 = 32 := by rfl
  have e1 := Sext_ok a 32 ha
  have e2 := Sext_ok b 32 hb
  have l1 := sx_lt a 32 ha
  have l2 := sx_lt b 32 hb
  have e3 := atomic_61 l1 l2 32
  have e4 := Zext_ok _ 32 (atI_lt ha hb 3 _ _ _ _ l1 l2 (zx_lt (n := 32) l1) (zx_lt (n := 32) l2))
  have hst : stI 61 a b = zx (atI 3 (sx a 32) (sx b 32) (zx (sx a 32) 32) (zx (sx b 32) 32)) 32 := rfl
  rw [hst]
  rw [s_fn fn_alu_Stored]
  simp [ir_alu_Stored, go_sem, hS, hZ, hw, hw2, e1, e2, e3, e4]
theorem Stored_62 : evI pg .val n_alu_Stored [.int .i64 62, .int .u64 (a : Int), .int .u64 (b : Int)] [] = some (.int .u64 (stI 62 a b : Nat), []) := by
  have hS : evI pg .val n_ops_Sort [.int .i64 62] [] = some (.int .i64 12, []) := Sort_tab 62 (by decide)
  have hZ : evI pg .val n_ops_Size [.int .i64 62] [] = some (.int .i64 4, []) := Size_tab 62 (by decide)
  have hw : IntKind.i64.wrap (8 * 4) = 32 := by rfl
  have hw2 : IntKind.i64.wrap 32 = 32 := by rfl
  have e1 := Sext_ok a 32 ha
  have e2 := Sext_ok b 32 hb
  have l1 := sx_lt a 32 ha
  have l2 := sx_lt b 32 hb
  have e3 := atomic_62 l1 l2 32
  have e4 := Zext_ok _ 32 (atI_lt ha hb 4 _ _ _ _ l1 l2 (zx_lt (n := 32) l1) (zx_lt (n := 32) l2))
  have hst : stI 62 a b = zx (atI 4 (sx a 32) (sx b 32) (zx (sx a 32) 32) (zx (sx b 32) 32)) 32 := rfl
  rw [hst]
  rw [s_fn fn_alu_Stored]
  simp [ir_alu_Stored, go_sem, hS, hZ, hw, hw2, e1, e2, e3, e4]
theorem Stored_63 : evI pg .val n_alu_Stored [.int .i64 63, .int .u64 (a : Int), .int .u64 (b : Int)] [] = some (.int .u64 (stI 63 a b : Nat), []) := by
  have hS : evI pg .val n_ops_Sort [.int .i64 63] [] = some (.int .i64 12, []) := Sort_tab 63 (by decide)
  have hZ : evI pg .val n_ops_Size [.int .i64 63] [] = some (.int .i64 4, []) := Size_tab 63 (by decide)
  have hw : IntKind.i64.wrap (8 * 4) = 32 := by rfl
  have hw2 : IntKind.i64.wrap 32 = 32 := by rfl
  have e1 := Sext_ok a 32 ha
  have e2 := Sext_ok b 32 hb
  have l1 := sx_lt a 32 ha
  have l2 := sx_lt b 32 hb
  have e3 := atomic_63 l1 l2 32
  have e4 := Zext_ok _ 32 (atI_lt ha hb 5 _ _ _ _ l1 l2 (zx_lt (n := 32) l1) (zx_lt (n := 32) l2))
  have hst : stI 63 a b = zx (atI 5 (sx a 32) (sx b 32) (zx (sx a 32) 32) (zx (sx b 32) 32)) 32 := rfl
  rw [hst]
  rw [s_fn fn_alu_Stored]
  simp [ir_alu_Stored, go_sem, hS, hZ, hw, hw2, e1, e2, e3, e4]
theorem Stored_64 : evI pg .val n_alu_Stored [.int .i64 64, .int .u64 (a : Int), .int .u64 (b : Int)] [] = some (.int .u64 (stI 64 a b : Nat), []) := by
  have hS : evI pg .val n_ops_Sort [.int .i64 64] [] = some (.int .i64 12, []) := Sort_tab 64 (by decide)
  have hZ : evI pg .val n_ops_Size [.int .i64 64] [] = some (.int .i64 4, []) := Size_tab 64 (by decide)
  have hw : IntKind.i64.wrap (8 * 4) = 32 := by rfl
  have hw2 : IntKind.i64.wrap 32 = 32 := by rfl
  have e1 := Sext_ok a 32 ha
  have e2 := Sext_ok b 32 hb
  have l1 := sx_lt a 32 ha
  have l2 := sx_lt b 32 hb
  have e3 := atomic_64 l1 l2 32
  have e4 := Zext_ok _ 32 (atI_lt ha hb 6 _ _ _ _ l1 l2 (zx_lt (n := 32) l1) (zx_lt (n := 32) l2))
  have hst : stI 64 a b = zx (atI 6 (sx a 32) (sx b 32) (zx (sx a 32) 32) (zx (sx b 32) 32)) 32 := rfl
  rw [hst]
  rw [s_fn fn_alu_Stored]
  simp [ir_alu_Stored, go_sem, hS, hZ, hw, hw2, e1, e2, e3, e4]
theorem Stored_65 : evI pg .val n_alu_Stored [.int .i64 65, .int .u64 (a : Int), .int .u64 (b : Int)] [] = some (.int .u64 (stI 65 a b : Nat), []) := by
  have hS : evI pg .val n_ops_Sort [.int .i64 65] [] = some (.int .i64 12, []) := Sort_tab 65 (by decide)
  have hZ : evI pg .val n_ops_Size [.int .i64 65] [] = some (.int .i64 4, []) := Size_tab 65 (by decide)
  have hw : IntKind.i64.wrap (8 * 4) = 32 := by rfl
  have hw2 : IntKind.i64.wrap 32 = 32 := by rfl
  have e1 := Sext_ok a 32 ha
  have e2 := Sext_ok b 32 hb
  have l1 := sx_lt a 32 ha
  have l2 := sx_lt b 32 hb
  have e3 := atomic_65 l1 l2 32
  have e4 := Zext_ok _ 32 (atI_lt ha hb 7 _ _ _ _ l1 l2 (zx_lt (n := 32) l1) (zx_lt (n := 32) l2))
  have hst : stI 65 a b = zx (atI 7 (sx a 32) (sx b 32) (zx (sx a 32) 32) (zx (sx b 32) 32)) 32 := rfl
  rw [hst]
  rw [s_fn fn_alu_Stored]
  simp [ir_alu_Stored, go_sem, hS, hZ, hw, hw2, e1, e2, e3, e4]
theorem Stored_66 : evI pg .val n_alu_Stored [.int .i64 66, .int .u64 (a : Int), .int .u64 (b : Int)] [] = some (.int .u64 (stI 66 a b : Nat), []) := by
  have hS : evI pg .val n_ops_Sort [.int .i64 66] [] = some (.int .i64 12, []) := Sort_tab 66 (by decide)
  have hZ : evI pg .val n_ops_Size [.int .i64 66] [] = some (.int .i64 4, []) := Size_tab 66 (by decide)
  have hw : IntKind.i64.wrap (8 * 4) = 32 := by rfl
  have hw2 : IntKind.i64.wrap 32 = 32 := by rfl
  have e1 := Sext_ok a 32 ha
  have e2 := Sext_ok b 32 hb
  have l1 := sx_lt a 32 ha
  have l2 := sx_lt b 32 hb
  have e3 := atomic_66 l1 l2 32
  have e4 := Zext_ok _ 32 (atI_lt ha hb 8 _ _ _ _ l1 l2 (zx_lt (n := 32) l1) (zx_lt (n := 32) l2))
  have hst : stI 66 a b = zx (atI 8 (sx a 32) (sx b 32) (zx (sx a 32) 32) (zx (sx b 32) 32)) 32 := rfl
  rw [hst]
  rw [s_fn fn_alu_Stored]
  simp [ir_alu_Stored, go_sem, hS, hZ, hw, hw2, e1, e2, e3, e4]
theorem Stored_67 : evI pg .val n_alu_Stored [.int .i64 67, .int .u64 (a : Int), .int .u64 (b : Int)] [] = some (.int .u64 (stI 67 a b : Nat), []) := by
  have hS : evI pg .val n_ops_Sort [.int .i64 67] [] = some (.int .i64 12, []) := Sort_tab 67 (by decide)
  have hZ : evI pg .val n_ops_Size [.int .i64 67] [] = some (.int .i64 8, []) := Size_tab 67 (by decide)
  have hw : IntKind.i64.wrap (8 * 8) = 64 := by rfl
  have hw2 : IntKind.i64.wrap 64 = 64 := by rfl
  have e1 := Sext_ok a 64 ha
  have e2 := Sext_ok b 64 hb
  have l1 := sx_lt a 64 ha
  have l2 := sx_lt b 64 hb
  have e3 := atomic_67 l1 l2 64
  have e4 := Zext_ok _ 64 (atI_lt ha hb 0 _ _ _ _ l1 l2 (zx_lt (n := 64) l1) (zx_lt (n := 64) l2))
  have hst : stI 67 a b = zx (atI 0 (sx a 64) (sx b 64) (zx (sx a 64) 64) (zx (sx b 64) 64)) 64 := rfl
  rw [hst]
  rw [s_fn fn_alu_Stored]
  simp [ir_alu_Stored, go_sem, hS, hZ, hw, hw2, e1, e2, e3, e4]
theorem Stored_68 : evI pg .val n_alu_Stored [.int .i64 68, .int .u64 (a : Int), .int .u64 (b : Int)] [] = some (.int .u64 (stI 68 a b : Nat), []) := by
  have hS : evI pg .val n_ops_Sort [.int .i64 68] [] = some (.int .i64 12, []) := Sort_tab 68 (by decide)
  have hZ : evI pg .val n_ops_Size [.int .i64 68] [] = some (.int .i64 8, []) := Size_tab 68 (by decide)
  have hw : IntKind.i64.wrap (8 * 8) = 64 := by rfl
  have hw2 : IntKind.i64.wrap 64 = 64 := by rfl
  have e1 := Sext_ok a 64 ha
  have e2 := Sext_ok b 64 hb
  have l1 := sx_lt a 64 ha
  have l2 := sx_lt b 64 hb
  have e3 := atomic_68 l1 l2 64
  have e4 := Zext_ok _ 64 (atI_lt ha hb 1 _ _ _ _ l1 l2 (zx_lt (n := 64) l1) (zx_lt (n := 64) l2))
  have hst : stI 68 a b = zx (atI 1 (sx a 64) (sx b 64) (zx (sx a 64) 64) (zx (sx b 64) 64)) 64 := rfl
  rw [hst]
  rw [s_fn fn_alu_Stored]
  simp [ir_alu_Stored, go_sem, hS, hZ, hw, hw2, e1, e2, e3, e4]
theorem Stored_69 : evI pg .val n_alu_Stored [.int .i64 69, .int .u64 (a : Int), .int .u64 (b : Int)] [] = some (.int .u64 (stI 69 a b : Nat), []) := by
  have hS : evI pg .val n_ops_Sort [.int .i64 69] [] = some (.int .i64 12, []) := Sort_tab 69 (by decide)
  have hZ : evI pg .val n_ops_Size [.int .i64 69] [] = some (.int .i64 8, []) := Size_tab 69 (by decide)
  have hw : IntKind.i64.wrap (8 * 8) = 64 := by rfl
  have hw2 : IntKind.i64.wrap 64 = 64 := by rfl
  have e1 := Sext_ok a 64 ha
  have e2 := Sext_ok b 64 hb
  have l1 := sx_lt a 64 ha
  have l2 := sx_lt b 64 hb
  have e3 := atomic_69 l1 l2 64
  have e4 := Zext_ok _ 64 (atI_lt ha hb 2 _ _ _ _ l1 l2 (zx_lt (n := 64) l1) (zx_lt (n := 64) l2))
  have hst : stI 69 a b = zx (atI 2 (sx a 64) (sx b 64) (zx (sx a 64) 64) (zx (sx b 64) 64)) 64 := rfl
  rw [hst]
  rw [s_fn fn_alu_Stored]
  simp [ir_alu_Stored, go_sem, hS, hZ, hw, hw2, e1, e2, e3, e4]
theorem Stored_70 : evI pg .val n_alu_Stored [.int .i64 70, .int .u64 (a : Int), .int .u64 (b : Int)] [] = some (.int .u64 (stI 70 a b : Nat), []) := by
  have hS : evI pg .val n_ops_Sort [.int .i64 70] [] = some (.int .i64 12, []) := Sort_tab 70 (by decide)
  have hZ : evI pg .val n_ops_Size [.int .i64 70] [] = some (.int .i64 8, []) := Size_tab 70 (by decide)
  have hw : IntKind.i64.wrap (8 * 8) = 64 := by rfl
  have hw2 : IntKind.i64.wrap 64 = 64 := by rfl
  have e1 := Sext_ok a 64 ha
  have e2 := Sext_ok b 64 hb
  have l1 := sx_lt a 64 ha
  have l2 := sx_lt b 64 hb
  have e3 := atomic_70 l1 l2 64
  have e4 := Zext_ok _ 64 (atI_lt ha hb 3 _ _ _ _ l1 l2 (zx_lt (n := 64) l1) (zx_lt (n := 64) l2))
  have hst : stI 70 a b = zx (atI 3 (sx a 64) (sx b 64) (zx (sx a 64) 64) (zx (sx b 64) 64)) 64 := rfl
  rw [hst]
  rw [s_fn fn_alu_Stored]
  simp [ir_alu_Stored, go_sem, hS, hZ, hw, hw2, e1, e2, e3, e4]
theorem Stored_71 : evI pg .val n_alu_Stored [.int .i64 71, .int .u64 (a : Int), .int .u64 (b : Int)] [] = some (.int .u64 (stI 71 a b : Nat), []) := by
  have hS : evI pg .val n_ops_Sort [.int .i64 71] [] = some (.int .i64 12, []) := Sort_tab 71 (by decide)
  have hZ : evI pg .val n_ops_Size [.int .i64 71] [] = some (.int .i64 8, []) := Size_tab 71 (by decide)
  have hw : IntKind.i64.wrap (8 * 8) = 64 := by rfl
  have hw2 : IntKind.i64.wrap 64 = 64 := by rfl
  have e1 := Sext_ok a 64 ha
  have e2 := Sext_ok b 64 hb
  have l1 := sx_lt a 64 ha
  have l2 := sx_lt b 64 hb
  have e3 := atomic_71 l1 l2 64
  have e4 := Zext_ok _ 64 (atI_lt ha hb 4 _ _ _ _ l1 l2 (zx_lt (n := 64) l1) (zx_lt (n := 64) l2))
  have hst : stI 71 a b = zx (atI 4 (sx a 64) (sx b 64) (zx (sx a 64) 64) (zx (sx b 64) 64)) 64 := rfl
  rw [hst]
  rw [s_fn fn_alu_Stored]
  simp [ir_alu_Stored, go_sem, hS, hZ, hw, hw2, e1, e2, e3, e4]
theorem Stored_72 : evI pg .val n_alu_Stored [.int .i64 72, .int .u64 (a : Int), .int .u64 (b : Int)] [] = some (.int .u64 (stI 72 a b : Nat), []) := by
  have hS : evI pg .val n_ops_Sort [.int .i64 72] [] = some (.int .i64 12, []) := Sort_tab 72 (by decide)
  have hZ : evI pg .val n_ops_Size [.int .i64 72] [] = some (.int .i64 8, []) := Size_tab 72 (by decide)
  have hw : IntKind.i64.wrap (8 * 8) = 64 := by rfl
  have hw2 : IntKind.i64.wrap 64 = 64 := by rfl
  have e1 := Sext_ok a 64 ha
  have e2 := Sext_ok b 64 hb
  have l1 := sx_lt a 64 ha
  have l2 := sx_lt b 64 hb
  have e3 := atomic_72 l1 l2 64
  have e4 := Zext_ok _ 64 (atI_lt ha hb 5 _ _ _ _ l1 l2 (zx_lt (n := 64) l1) (zx_lt (n := 64) l2))
  have hst : stI 72 a b = zx (atI 5 (sx a 64) (sx b 64) (zx (sx a 64) 64) (zx (sx b 64) 64)) 64 := rfl
  rw [hst]
  rw [s_fn fn_alu_Stored]
  simp [ir_alu_Stored, go_sem, hS, hZ, hw, hw2, e1, e2, e3, e4]
theorem Stored_73 : evI pg .val n_alu_Stored [.int .i64 73, .int .u64 (a : Int), .int .u64 (b : Int)] [] = some (.int .u64 (stI 73 a b : Nat), []) := by
  have hS : evI pg .val n_ops_Sort [.int .i64 73] [] = some (.int .i64 12, []) := Sort_tab 73 (by decide)
  have hZ : evI pg .val n_ops_Size [.int .i64 73] [] = some (.int .i64 8, []) := Size_tab 73 (by decide)
  have hw : IntKind.i64.wrap (8 * 8) = 64 := by rfl
  have hw2 : IntKind.i64.wrap 64 = 64 := by rfl
  have e1 := Sext_ok a 64 ha
  have e2 := Sext_ok b 64 hb
  have l1 := sx_lt a 64 ha
  have l2 := sx_lt b 64 hb
  have e3 := atomic_73 l1 l2 64
  have e4 := Zext_ok _ 64 (atI_lt ha hb 6 _ _ _ _ l1 l2 (zx_lt (n := 64) l1) (zx_lt (n := 64) l2))
  have hst : stI 73 a b = zx (atI 6 (sx a 64) (sx b 64) (zx (sx a 64) 64) (zx (sx b 64) 64)) 64 := rfl
  rw [hst]
  rw [s_fn fn_alu_Stored]
  simp [ir_alu_Stored, go_sem, hS, hZ, hw, hw2, e1, e2, e3, e4]
theorem Stored_74 : evI pg .val n_alu_Stored [.int .i64 74, .int .u64 (a : Int), .int .u64 (b : Int)] [] = some (.int .u64 (stI 74 a b : Nat), []) := by
  have hS : evI pg .val n_ops_Sort [.int .i64 74] [] = some (.int .i64 12, []) := Sort_tab 74 (by decide)
  have hZ : evI pg .val n_ops_Size [.int .i64 74] [] = some (.int .i64 8, []) := Size_tab 74 (by decide)
  have hw : IntKind.i64.wrap (8 * 8) = 64 := by rfl
  have hw2 : IntKind.i64.wrap 64 = 64 := by rfl
  have e1 := Sext_ok a 64 ha
  have e2 := Sext_ok b 64 hb
  have l1 := sx_lt a 64 ha
  have l2 := sx_lt b 64 hb
  have e3 := atomic_74 l1 l2 64
  have e4 := Zext_ok _ 64 (atI_lt ha hb 7 _ _ _ _ l1 l2 (zx_lt (n := 64) l1) (zx_lt (n := 64) l2))
  have hst : stI 74 a b = zx (atI 7 (sx a 64) (sx b 64) (zx (sx a 64) 64) (zx (sx b 64) 64)) 64 := rfl
  rw [hst]
  rw [s_fn fn_alu_Stored]
  simp [ir_alu_Stored, go_sem, hS, hZ, hw, hw2, e1, e2, e3, e4]
theorem Stored_75 : evI pg .val n_alu_Stored [.int .i64 75, .int .u64 (a : Int), .int .u64 (b : Int)] [] = some (.int .u64 (stI 75 a b : Nat), []) := by
  have hS : evI pg .val n_ops_Sort [.int .i64 75] [] = some (.int .i64 12, []) := Sort_tab 75 (by decide)
  have hZ : evI pg .val n_ops_Size [.int .i64 75] [] = some (.int .i64 8, []) := Size_tab 75 (by decide)
  have hw : IntKind.i64.wrap (8 * 8) = 64 := by rfl
  have hw2 : IntKind.i64.wrap 64 = 64 := by rfl
  have e1 := Sext_ok a 64 ha
  have e2 := Sext_ok b 64 hb
  have l1 := sx_lt a 64 ha
  have l2 := sx_lt b 64 hb
  have e3 := atomic_75 l1 l2 64
  have e4 := Zext_ok _ 64 (atI_lt ha hb 8 _ _ _ _ l1 l2 (zx_lt (n := 64) l1) (zx_lt (n := 64) l2))
  have hst : stI 75 a b = zx (atI 8 (sx a 64) (sx b 64) (zx (sx a 64) 64) (zx (sx b 64) 64)) 64 := rfl
  rw [hst]
  rw [s_fn fn_alu_Stored]
  simp [ir_alu_Stored, go_sem, hS, hZ, hw, hw2, e1, e2, e3, e4]
theorem Stored_at (k : Nat) (h1 : 58 ≤ k) (h2 : k ≤ 75) : evI pg .val n_alu_Stored [.int .i64 (k : Int), .int .u64 (a : Int), .int .u64 (b : Int)] [] = some (.int .u64 (stI k a b : Nat), []) := by
  rcases (show k = 58 ∨ k = 59 ∨ k = 60 ∨ k = 61 ∨ k = 62 ∨ k = 63 ∨ k = 64 ∨ k = 65 ∨ k = 66 ∨ k = 67 ∨ k = 68 ∨ k = 69 ∨ k = 70 ∨ k = 71 ∨ k = 72 ∨ k = 73 ∨ k = 74 ∨ k = 75 by omega) with rfl | rfl | rfl | rfl | rfl | rfl | rfl | rfl | rfl | rfl | rfl | rfl | rfl | rfl | rfl | rfl | rfl | rfl
  · exact Stored_58 ha hb
  · exact Stored_59 ha hb
  · exact Stored_60 ha hb
  · exact Stored_61 ha hb
  · exact Stored_62 ha hb
  · exact Stored_63 ha hb
  · exact Stored_64 ha hb
  · exact Stored_65 ha hb
  · exact Stored_66 ha hb
  · exact Stored_67 ha hb
  · exact Stored_68 ha hb
  · exact Stored_69 ha hb
  · exact Stored_70 ha hb
  · exact Stored_71 ha hb
  · exact Stored_72 ha hb
  · exact Stored_73 ha hb
  · exact Stored_74 ha hb
  · exact Stored_75 ha hb
end
end Go.Proofs.Ytffbhbjnkecieaa
