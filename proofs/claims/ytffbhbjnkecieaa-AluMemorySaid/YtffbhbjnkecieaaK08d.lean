/- Layer 8: an operation of two registers (no claim; lemmas). -/
import Derived.Test.YtffbhbjnkecieaaK08c
set_option linter.unusedSimpArgs false
set_option linter.unusedVariables false
namespace Go.Proofs.Ytffbhbjnkecieaa
open Go Go.Vm

def prs (k a b : Nat) : Nat :=
  match k with
  | 35 => (a + b) % 18446744073709551616
  | 36 => (a + (18446744073709551616 - b)) % 18446744073709551616
  | 37 => a * 2 ^ (b % 64) % 18446744073709551616
  | 38 => b01 (lts a b)
  | 39 => b01 (decide (a < b))
  | 40 => a ^^^ b
  | 41 => a / 2 ^ (b % 64)
  | 42 => sra a (b % 64)
  | 43 => a ||| b
  | 44 => a &&& b
  | 45 => sx ((a + b) % 18446744073709551616) 32
  | 46 => sx ((a + (18446744073709551616 - b)) % 18446744073709551616) 32
  | 47 => sx (a * 2 ^ (b % 32) % 18446744073709551616) 32
  | 48 => sx (zx a 32 / 2 ^ (b % 32)) 32
  | 49 => sra (sx a 32) (b % 32)
  | _ => 0
theorem zx32 (a : Nat) : zx a 32 = a % 4294967296 := rfl
theorem sx32_lt {a : Nat} : sx a 32 < 18446744073709551616 := by
  unfold sx
  rw [if_neg (by omega), zx32, show (2 : Nat) ^ (32 : Int).toNat = 4294967296 from rfl]
  split <;> omega
theorem add_u {a b : Nat} : IntKind.u64.wrap ((a : Int) + (b : Int)) = (((a + b) % 18446744073709551616 : Nat) : Int) := by
  rw [← wrap_u64]; rfl
theorem wrap_u64_eq (n : Int) : IntKind.u64.wrap n = n % 18446744073709551616 := by simp only [IntKind.wrap, IntKind.bits, IntKind.signed]; simp
theorem sub_u {a b : Nat} (hb : b < 18446744073709551616) : IntKind.u64.wrap ((a : Int) - (b : Int)) = (((a + (18446744073709551616 - b)) % 18446744073709551616 : Nat) : Int) := by
  rw [wrap_u64_eq]; omega
theorem shl_u {a s : Nat} : IntKind.u64.wrap ((a : Int) * 2 ^ s) = ((a * 2 ^ s % 18446744073709551616 : Nat) : Int) := by
  rw [shl_nat, wrap_u64]
section
variable {a b : Nat} (ha : a < 18446744073709551616) (hb : b < 18446744073709551616)
include ha hb
theorem pair_ok (k : Nat) (h1 : 35 ≤ k) (h2 : k ≤ 49) : evI pg .val n_alu_pair [.int .i64 (k : Int), .int .u64 (a : Int), .int .u64 (b : Int)] [] = some (.int .u64 (prs k a b : Nat), []) := by
  have s1 := add_u (a := a) (b := b)
  have s2 := sub_u (a := a) hb
  have s3 := shl_u (a := a) (s := b % 64)
  have s4 := shl_u (a := a) (s := b % 32)
  have a1 := and63 hb
  have a2 := and31 hb
  have l1 := one_ok (lts a b)
  have l2 := one_ok (decide (a < b))
  unfold lts at l1
  have m1 : min (b % 64) 64 = b % 64 := by omega
  have m2 : min (b % 32) 64 = b % 32 := by omega
  have r1 := shr_nat a (b % 64)
  have x1 := sra_ok ha (show b % 64 < 64 by omega)
  have x2 := sra_ok (sx32_lt (a := a)) (show b % 32 < 64 by omega)
  have z1 := Zext_ok a 32 ha
  have z2 := shr_nat (zx a 32) (b % 32)
  have hzl : zx a 32 / 2 ^ (b % 32) < 18446744073709551616 := Nat.lt_of_le_of_lt (Nat.div_le_self _ _) (zx_lt ha)
  have n1 := narrow_ok ((a + b) % 18446744073709551616) (by omega)
  have n2 := narrow_ok ((a + (18446744073709551616 - b)) % 18446744073709551616) (by omega)
  have n3 := narrow_ok (a * 2 ^ (b % 32) % 18446744073709551616) (by omega)
  have n4 := narrow_ok (zx a 32 / 2 ^ (b % 32)) hzl
  have n5 := narrow_ok a ha
  have g1 := and_u64 ha hb
  have g2 := or_u64 ha hb
  have g3 := xor_u64 ha hb
  rw [s_fn fn_alu_pair]
  rcases (show k = 35 ∨ k = 36 ∨ k = 37 ∨ k = 38 ∨ k = 39 ∨ k = 40 ∨ k = 41 ∨ k = 42 ∨ k = 43 ∨ k = 44 ∨ k = 45 ∨ k = 46 ∨ k = 47 ∨ k = 48 ∨ k = 49 by omega) with rfl | rfl | rfl | rfl | rfl | rfl | rfl | rfl | rfl | rfl | rfl | rfl | rfl | rfl | rfl <;>
    simp [ir_alu_pair, go_sem, prs, lts, IntKind.bits, s1, s2, s3, s4, a1, a2, l1, l2, m1, m2, r1, x1, x2, z1, z2, n1, n2, n3, n4, n5, g1, g2, g3, -Int.natCast_emod, -Int.natCast_ediv, -Int.natCast_mul, -Int.natCast_pow, -Int.natCast_add]
end
end Go.Proofs.Ytffbhbjnkecieaa
