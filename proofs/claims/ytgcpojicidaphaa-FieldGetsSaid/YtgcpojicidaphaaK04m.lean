/- Numbers made of bits; formats' tables (no claim; lemmas). -/
import Derived.Test.YtgcpojicidaphaaVf
set_option linter.unusedSimpArgs false
set_option linter.unusedVariables false
namespace Go.Proofs.Ytgcpojicidaphaa
open Go Go.Vm

/-- The number whose bits are told. -/
def mk : Nat → (Nat → Bool) → Nat
  | 0, _ => 0
  | n + 1, f => mk n f + if f n then 2 ^ n else 0
theorem mk_lt : ∀ (n : Nat) (f : Nat → Bool), mk n f < 2 ^ n
  | 0, _ => by simp [mk]
  | n + 1, f => by
    have h := mk_lt n f
    have hp := @Nat.pow_succ 2 n
    simp only [mk]
    split <;> omega
theorem mk_congr : ∀ (n : Nat) {f g : Nat → Bool}, (∀ i, i < n → f i = g i) → mk n f = mk n g
  | 0, _, _, _ => rfl
  | n + 1, f, g, h => by
    simp only [mk]
    rw [mk_congr n fun i hi => h i (by omega), h n (by omega)]
theorem mk_bit : ∀ (n : Nat) (f : Nat → Bool) (j : Nat), (mk n f).testBit j = (decide (j < n) && f j)
  | 0, f, j => by simp [mk]
  | n + 1, f, j => by
    have h := mk_lt n f
    simp only [mk]
    by_cases hj : j < n
    · have : j < n + 1 := by omega
      rw [show (decide (j < n + 1) && f j) = (decide (j < n) && f j) by simp [hj, this], ← mk_bit n f j]
      cases f n with
      | false => simp
      | true =>
        simp only [if_true]
        rw [Nat.add_comm, Nat.testBit_two_pow_add_gt hj]
    · by_cases he : j = n
      · subst he
        have hz : (mk j f).testBit j = false := Nat.testBit_lt_two_pow h
        cases f j with
        | false => simp [hz]
        | true =>
          simp only [if_true, Bool.and_true]
          rw [Nat.add_comm, Nat.testBit_two_pow_add_eq, hz]
          simp
      · have h1 : mk n f + (if f n then 2 ^ n else 0) < 2 ^ j := by
          have hp := @Nat.pow_succ 2 n
          have hq : 2 ^ (n + 1) ≤ 2 ^ j := Nat.pow_le_pow_right (by omega) (by omega)
          split <;> omega
        rw [Nat.testBit_lt_two_pow h1]
        have : ¬ j < n + 1 := by omega
        simp [this]
theorem eq_mk {x n : Nat} {f : Nat → Bool} (hx : x < 2 ^ n) (h : ∀ j, j < n → x.testBit j = f j) : x = mk n f := by
  apply Nat.eq_of_testBit_eq
  intro j
  rw [mk_bit]
  by_cases hj : j < n
  · simp [hj, h j hj]
  · rw [Nat.testBit_lt_two_pow (Nat.lt_of_lt_of_le hx (Nat.pow_le_pow_right (by omega) (by omega)))]
    simp [hj]
theorem mk_add : ∀ (n p : Nat) (f : Nat → Bool), p < n → f p = false → mk n (fun a => f a || a == p) = mk n f + 2 ^ p
  | 0, p, f, h, _ => by omega
  | n + 1, p, f, h, hf => by
    simp only [mk]
    by_cases he : p = n
    · subst he
      have e : mk p (fun a => f a || a == p) = mk p f := mk_congr p fun i hi => by
        have : (i == p) = false := by simp; omega
        simp [this]
      rw [e]
      simp [hf]
    · rw [mk_add n p f (by omega) hf]
      have : (n == p) = false := by simp; omega
      simp only [this, Bool.or_false]
      omega

/-! ### formats -/
/-- Where a word's bit stands in an immediate. -/
def plO (k i : Nat) : Option Nat :=
  match k with
  | 1 => if 20 ≤ i ∧ i ≤ 31 then some (i - 20) else none
  | 2 => if 25 ≤ i ∧ i ≤ 31 then some (i - 20) else if 7 ≤ i ∧ i ≤ 11 then some (i - 7) else none
  | 3 => if i = 31 then some 12 else if i = 7 then some 11 else if 25 ≤ i ∧ i ≤ 30 then some (i - 20) else if 8 ≤ i ∧ i ≤ 11 then some (i - 7) else none
  | 4 => if 12 ≤ i ∧ i ≤ 31 then some i else none
  | 5 => if i = 31 then some 20 else if 12 ≤ i ∧ i ≤ 19 then some i else if i = 20 then some 11 else if 21 ≤ i ∧ i ≤ 30 then some (i - 20) else none
  | _ => none
/-- Where an immediate's bit stands in a word. -/
def srO (k a : Nat) : Option Nat := (List.range 32).find? fun i => plO k i == some a
def bitsO : Nat → Nat
  | 1 | 2 => 12
  | 3 => 13
  | 4 => 32
  | _ => 21
def lowO : Nat → Nat
  | 3 | 5 => 1
  | 4 => 12
  | _ => 0
/-- Runs: from, to, where. -/
def runsO : Nat → List (Nat × Nat × Nat)
  | 1 => [(31, 20, 0)]
  | 2 => [(31, 25, 5), (11, 7, 0)]
  | 3 => [(31, 31, 12), (7, 7, 11), (30, 25, 5), (11, 8, 1)]
  | 4 => [(31, 12, 12)]
  | 5 => [(31, 31, 20), (19, 12, 12), (20, 20, 11), (30, 21, 1)]
  | _ => []
/-- Facts of the tables. -/
def tabs (k : Nat) : Bool :=
  ((runsO k).all fun (h, l, a) => decide (l ≤ h ∧ h ≤ 31 ∧ a ≤ 31 ∧ a + (h - l) ≤ 31)) &&
  ((List.range 32).all fun i => match plO k i with
    | some a => decide (a < bitsO k ∧ lowO k ≤ a) && srO k a == some i && (runsO k).any fun (h, l, t) => decide (l ≤ i ∧ i ≤ h ∧ a = i - l + t)
    | none => (runsO k).all fun (h, l, t) => decide (i < l ∨ h < i)) &&
  ((List.range 32).all fun i => (runsO k).all fun (h, l, t) => !decide (l ≤ i ∧ i ≤ h) || plO k i == some (i - l + t)) &&
  ((List.range 32).all fun a => match srO k a with
    | some i => plO k i == some a
    | none => decide (a < lowO k ∨ bitsO k ≤ a)) &&
  ((List.range 32).all fun a => !decide (lowO k ≤ a ∧ a < bitsO k) || (srO k a).isSome) &&
  plO k 31 == some (bitsO k - 1) && decide (lowO k < bitsO k ∧ bitsO k ≤ 32)
theorem tabs_ok : tabs 1 = true ∧ tabs 2 = true ∧ tabs 3 = true ∧ tabs 4 = true ∧ tabs 5 = true := by decide +kernel
end Go.Proofs.Ytgcpojicidaphaa
