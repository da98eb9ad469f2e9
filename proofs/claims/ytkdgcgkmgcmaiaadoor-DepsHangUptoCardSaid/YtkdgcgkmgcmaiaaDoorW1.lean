/- Layer 1: what its functions come to (no claim; lemmas). -/
import Derived.Test.YtkdgcgkmgcmaiaaDoorVf
import Derived.Test.YtkdgcgkmgcmaiaaDoorIr
set_option linter.unusedSimpArgs false
set_option linter.unusedVariables false
namespace Go.Proofs.YtkdgcgkmgcmaiaaDoor
open Go Go.Vm

/-- The low bits of a word. -/
def zx (x : Nat) (n : Int) : Nat := x % 2 ^ n.toNat
theorem zx_lt {x : Nat} {n : Int} (hx : x < 18446744073709551616) : zx x n < 18446744073709551616 := Nat.lt_of_le_of_lt (Nat.mod_le _ _) hx
theorem pow_lt {k : Nat} (h : k < 64) : 2 ^ k < 18446744073709551616 := by
  have := Nat.pow_lt_pow_right (a := 2) (by omega) h
  omega
theorem pow_le {k : Nat} (h : 64 ≤ k) : 18446744073709551616 ≤ 2 ^ k := Nat.pow_le_pow_right (n := 2) (by omega) h

/-- The low bits with their sign. -/
def sx (x : Nat) (n : Int) : Nat := if n < 1 ∨ 64 ≤ n then zx x n else zx x n + if x.testBit (n.toNat - 1) then 18446744073709551616 - 2 ^ n.toNat else 0
theorem sx_pre (x k : Nat) (h0 : 1 ≤ k) (h : k < 64) : x * 2 ^ (64 - k) % 18446744073709551616 = x % 2 ^ k * 2 ^ (64 - k) := by
  have e : (18446744073709551616 : Nat) = 2 ^ k * 2 ^ (64 - k) := by rw [← Nat.pow_add, Nat.add_sub_cancel' (by omega)]
  rw [e, Nat.mul_mod_mul_right]
theorem half_pow (k : Nat) (h0 : 1 ≤ k) : 2 ^ k = 2 * 2 ^ (k - 1) := by
  obtain ⟨j, rfl⟩ : ∃ j, k = j + 1 := ⟨k - 1, by omega⟩
  simp [Nat.pow_succ]; omega
/-! ### fields -/
def fld (w : Nat) (hi lo : Int) : Nat := if lo < 0 ∨ 31 < hi ∨ hi < lo then 0 else w / 2 ^ lo.toNat % 2 ^ (hi - lo + 1).toNat
theorem pow_lt32 {k : Nat} (h : k < 32) : 2 ^ k < 4294967296 := by
  have := Nat.pow_lt_pow_right (a := 2) (by omega) h
  omega
/-- A list of bytes as it stands. -/
def byV (l : List Nat) : List (List V) := l.map fun x : Nat => [.int .u8 (x : Int)]
theorem byV_len (l : List Nat) : (byV l).length = l.length := by simp [byV]
theorem byV_imm (l : List Nat) : immAll (byV l) = true := by simp [immAll, byV, V.imm]
theorem byV_sz (l : List Nat) : szAll 1 (byV l) = true := by simp [szAll, byV]
theorem byV_get (l : List Nat) (i : Nat) (h : i < l.length) : (byV l)[i]? = some [.int .u8 (l[i] : Int)] := by simp [byV, h]
theorem byV_el (l : List Nat) (i : Nat) (h : i < (byV l).length) : (byV l)[i] = [.int .u8 ((l[i]'(by simpa [byV] using h) : Nat) : Int)] := by simp [byV]
theorem byV_append (l l' : List Nat) : byV (l ++ l') = byV l ++ byV l' := by simp [byV]
/-- A word's first bytes. -/
def byl (x : Nat) (k : Nat) : List Nat := (List.range k).map fun i => x / 256 ^ i % 256
theorem byl_len (x k : Nat) : (byl x k).length = k := by simp [byl]
theorem byl_succ (x k : Nat) : byl x (k + 1) = byl x k ++ [x / 256 ^ k % 256] := by simp [byl, List.range_succ]
theorem byl_lt (x k : Nat) : ∀ b ∈ byl x k, b < 256 := by
  intro b hb
  simp only [byl, List.mem_map] at hb
  obtain ⟨i, _, rfl⟩ := hb
  exact Nat.mod_lt _ (by omega)
/-- How many bytes. -/
def clm (n : Int) : Nat := (min n 8).toNat
theorem clm_le (n : Int) : clm n ≤ 8 := by unfold clm; omega

/-! ### the same lists -/
/-- May a range be? -/
def isR (a n : Int) : Bool := decide (0 ≤ a ∧ a ≤ 1099511627776 ∧ 1 ≤ n ∧ n ≤ 8)
/-- Do ranges meet? -/
def ovl (a n b m : Int) : Bool := isR a n && isR b m && decide (a < b + m) && decide (b < a + n)
/-- Is an address a multiple of a size? -/
def algn (a n : Int) : Bool := decide ((n = 1 ∨ n = 2 ∨ n = 4 ∨ n = 8) ∧ 0 ≤ a ∧ a % n = 0)
/-- The number of bytes. -/
def ofN : List Nat → Nat
  | [] => 0
  | b :: l => b + 256 * ofN l
theorem ofN_lt : ∀ (l : List Nat), (∀ b ∈ l, b < 256) → ofN l < 256 ^ l.length
  | [], _ => by simp [ofN]
  | b :: l, h => by
    have h1 := ofN_lt l fun x hx => h x (by simp [hx])
    have h2 := h b (by simp)
    have hp := @Nat.pow_succ 256 l.length
    simp only [ofN, List.length_cons]
    omega
theorem ofN_append : ∀ (l l' : List Nat), ofN (l ++ l') = ofN l + 256 ^ l.length * ofN l'
  | [], l' => by simp [ofN]
  | b :: l, l' => by
    have hp := @Nat.pow_succ 256 l.length
    simp only [List.cons_append, ofN, ofN_append l l', List.length_cons, hp]
    rw [Nat.mul_add, Nat.add_assoc, ← Nat.mul_assoc, Nat.mul_comm 256 (256 ^ l.length)]
theorem ofN_byl (x : Nat) : ∀ k, ofN (byl x k) = x % 256 ^ k
  | 0 => by simp [byl, ofN, Nat.mod_one]
  | k + 1 => by
    rw [byl_succ, ofN_append, ofN_byl x k, byl_len, Nat.pow_succ, Nat.mod_mul]
    simp [ofN]
theorem pow256 {i : Nat} (h : i ≤ 8) : 256 ^ i ≤ 18446744073709551616 := Nat.pow_le_pow_right (n := 256) (by omega) h
theorem pow256' {i : Nat} (h : i ≤ 7) : 256 ^ i ≤ 72057594037927936 := Nat.pow_le_pow_right (n := 256) (by omega) h
end Go.Proofs.YtkdgcgkmgcmaiaaDoor
