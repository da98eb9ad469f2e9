/- Layer 8: what an instruction's register becomes (no claim; lemmas). -/
import Derived.Test.YtffbhbjnkecieaaK08d
set_option linter.unusedSimpArgs false
set_option linter.unusedVariables false
namespace Go.Proofs.Ytffbhbjnkecieaa
open Go Go.Vm

theorem sx_lt (x : Nat) (n : Int) (hx : x < 18446744073709551616) : sx x n < 18446744073709551616 := by
  have hz := zx_lt (n := n) hx
  unfold sx
  split
  · exact hz
  · rename_i h
    have hp := pow_lt (k := n.toNat) (by omega)
    have : zx x n < 2 ^ n.toNat := Nat.mod_lt _ (Nat.two_pow_pos _)
    split <;> omega
theorem zx_sx (x : Nat) (n : Int) (hx : x < 18446744073709551616) : zx (sx x n) n = zx x n := by
  unfold sx
  split
  · unfold zx; rw [Nat.mod_mod]
  · rename_i h
    obtain ⟨k, rfl⟩ : ∃ k : Nat, n = k := ⟨n.toNat, by omega⟩
    have hk : k < 64 := by omega
    have e : 18446744073709551616 - 2 ^ k = 2 ^ k * (2 ^ (64 - k) - 1) := by
      rw [Nat.mul_sub, ← Nat.pow_add, Nat.add_sub_cancel' (by omega)]; simp
    unfold zx
    simp only [Int.toNat_natCast]
    split
    · rw [e, Nat.add_mul_mod_self_left, Nat.mod_mod]
    · rw [Nat.add_zero, Nat.mod_mod]

theorem bit31 (a : Nat) : a.testBit 31 = decide (a / 2147483648 % 2 = 1) := Nat.testBit_eq_decide_div_mod_eq
theorem sx32 (a : Nat) : sx a 32 = a % 4294967296 + if a / 2147483648 % 2 = 1 then 18446744069414584320 else 0 := by
  unfold sx
  rw [if_neg (by omega), zx32, show ((32 : Int).toNat - 1) = 31 from rfl, bit31]
  simp
theorem sraw (a s : Nat) (hs : s < 32) : sx (a % 4294967296 / 2 ^ s + a % 4294967296 / 2147483648 * (2 ^ 32 - 2 ^ (32 - s))) 32 = sra (sx a 32) s := by
  unfold sra
  rw [sx32, sx32]
  have : s = 0 ∨ s = 1 ∨ s = 2 ∨ s = 3 ∨ s = 4 ∨ s = 5 ∨ s = 6 ∨ s = 7 ∨ s = 8 ∨ s = 9 ∨ s = 10 ∨ s = 11 ∨ s = 12 ∨ s = 13 ∨ s = 14 ∨ s = 15 ∨ s = 16 ∨ s = 17 ∨ s = 18 ∨ s = 19 ∨ s = 20 ∨ s = 21 ∨ s = 22 ∨ s = 23 ∨ s = 24 ∨ s = 25 ∨ s = 26 ∨ s = 27 ∨ s = 28 ∨ s = 29 ∨ s = 30 ∨ s = 31 := by omega
  have hf : a % 4294967296 / 2147483648 = 0 ∨ a % 4294967296 / 2147483648 = 1 := by omega
  have hb : a / 2147483648 % 2 = a % 4294967296 / 2147483648 := by omega
  rw [hb]
  have hx : a % 4294967296 < 4294967296 := by omega
  clear hb
  generalize a % 4294967296 = x at *
  rcases hf with hf | hf <;> rw [hf] <;> rcases this with rfl | rfl | rfl | rfl | rfl | rfl | rfl | rfl | rfl | rfl | rfl | rfl | rfl | rfl | rfl | rfl | rfl | rfl | rfl | rfl | rfl | rfl | rfl | rfl | rfl | rfl | rfl | rfl | rfl | rfl | rfl | rfl <;>
    simp only [Nat.reducePow, Nat.reduceSub, Nat.zero_mul, Nat.zero_ne_one, if_false, Nat.add_zero, Nat.one_mul, if_true] <;> (split <;> omega)
structure Ins8 where
  (op rd rs1 rs2 imm : Int) (aq rl : Bool) (pr su : Int)
def insV (i : Ins8) : List V := [.int .i64 i.op, .int .i64 i.rd, .int .i64 i.rs1, .int .i64 i.rs2, .int .i64 i.imm, .bool i.aq, .bool i.rl, .int .i64 i.pr, .int .i64 i.su]
def pairOf (k : Nat) : Nat := [35, 38, 39, 40, 43, 44, 37, 41, 42, 45, 47, 48, 49].getD (k - 22) 0
/-- What a register becomes. -/
def resS (k imm pc a b : Nat) : Nat :=
  if k = 1 then imm else if k = 2 then (pc + imm) % 18446744073709551616 else if k = 3 ∨ k = 4 then (pc + 4) % 18446744073709551616
  else if 22 ≤ k ∧ k ≤ 34 then prs (pairOf k) a imm else if 35 ≤ k ∧ k ≤ 49 then prs k a b else 0
end Go.Proofs.Ytffbhbjnkecieaa
