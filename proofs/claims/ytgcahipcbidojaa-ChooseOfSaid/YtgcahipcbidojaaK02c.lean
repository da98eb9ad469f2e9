/- Floats and whole numbers (no claim; plain lemmas). -/
import Derived.Test.YtgcahipcbidojaaK02a
set_option linter.unusedSimpArgs false
set_option linter.unusedVariables false
namespace Go.Proofs.Ytgcahipcbidojaa
open Go Go.Vm

/-- The word of a whole number. -/
def wn (n : Nat) : Nat := if n = 0 then 0 else if n = 9007199254740992 then 4845873199050653696 else (n.log2 + 1022) * 4503599627370496 + n * 2 ^ (52 - n.log2)
theorem log_bounds {n : Nat} (h : n ≠ 0) : 2 ^ n.log2 ≤ n ∧ n < 2 ^ (n.log2 + 1) := ⟨Nat.log2_self_le h, Nat.lt_log2_self⟩
theorem log_le {n : Nat} (h : n ≠ 0) (h' : n < 9007199254740992) : n.log2 ≤ 52 := by
  have := (Nat.log2_lt h (k := 53)).2 (by omega)
  omega
theorem wn_mid {n : Nat} (h : n ≠ 0) (h' : n < 9007199254740992) : 4503599627370496 ≤ n * 2 ^ (52 - n.log2) ∧ n * 2 ^ (52 - n.log2) < 9007199254740992 := by
  have hb := log_bounds h
  have hl := log_le h h'
  have hp := Nat.two_pow_pos (52 - n.log2)
  constructor
  · have := Nat.mul_le_mul_right (2 ^ (52 - n.log2)) hb.1
    rw [← Nat.pow_add, show n.log2 + (52 - n.log2) = 52 by omega] at this
    exact this
  · have := Nat.mul_lt_mul_of_pos_right hb.2 hp
    rw [← Nat.pow_add, show n.log2 + 1 + (52 - n.log2) = 53 by omega] at this
    exact this
theorem even_zero (N : Nat) : Ieee.Toward.even.cut false N 0 = N := by
  unfold Ieee.Toward.cut
  simp [Nat.mod_one]
theorem nearest_big : Ieee.double.nearest false 9007199254740992 0 = 4845873199050653696 := by
  have hl : Nat.log2 9007199254740992 = 53 := Nat.log2_two_pow (n := 53)
  unfold Ieee.Format.nearest
  rw [if_neg (by omega)]
  have e2 : Ieee.double.binade = 4503599627370496 := by decide
  have e3 : Ieee.double.infRung = 9218868437227405312 := by decide
  have e4 : Ieee.double.leastPlace = -1074 := by decide
  have e5 : Ieee.double.fractionBits = 52 := rfl
  simp only [e2, e3, e4, e5, hl]
  have el : max ((0 : Int) + ((53 : Nat) : Int) - ((52 : Nat) : Int)) (-1074) = 1 := by omega
  rw [el]
  have t1 : ((0 : Int) - 1).toNat = 0 := by omega
  have t2 : ((1 : Int) - 0).toNat = 1 := by omega
  have t3 : ((1 : Int) - -1074).toNat = 1075 := by omega
  rw [t1, t2, t3, Nat.shiftLeft_zero]
  have hc : Ieee.Toward.even.cut false 9007199254740992 1 = 4503599627370496 := by
    unfold Ieee.Toward.cut
    rw [hl]
    decide
  rw [hc]
  show min _ _ = _
  omega
theorem nearest_eq (n : Nat) (h : n ≤ 9007199254740992) : Ieee.double.nearest false n 0 = wn n := by
  unfold wn
  by_cases h0 : n = 0
  · subst h0
    rw [if_pos rfl]
    unfold Ieee.Format.nearest
    rw [if_pos rfl]
    unfold Ieee.Format.word
    rw [if_neg (by simp)]
  rw [if_neg h0]
  by_cases h1 : n = 9007199254740992
  · subst h1
    rw [if_pos rfl]
    exact nearest_big
  rw [if_neg h1]
  have hlt : n < 9007199254740992 := by omega
  have hl := log_le h0 hlt
  have hm := wn_mid h0 hlt
  unfold Ieee.Format.nearest
  rw [if_neg h0]
  have e2 : Ieee.double.binade = 4503599627370496 := by decide
  have e3 : Ieee.double.infRung = 9218868437227405312 := by decide
  have e4 : Ieee.double.leastPlace = -1074 := by decide
  have e5 : Ieee.double.fractionBits = 52 := rfl
  simp only [e2, e3, e4, e5]
  have el : max ((0 : Int) + (n.log2 : Int) - (52 : Nat)) (-1074) = (n.log2 : Int) - 52 := by omega
  rw [el]
  have t1 : ((0 : Int) - ((n.log2 : Int) - 52)).toNat = 52 - n.log2 := by omega
  have t2 : ((n.log2 : Int) - 52 - 0).toNat = 0 := by omega
  have t3 : ((n.log2 : Int) - 52 - -1074).toNat = n.log2 + 1022 := by omega
  rw [t1, t2, t3, Nat.shiftLeft_eq, even_zero]
  have hw : ∀ x, Ieee.double.word false x = x := fun _ => rfl
  rw [hw]
  revert hm
  generalize n * 2 ^ (52 - n.log2) = K
  intro hm
  rw [Nat.min_eq_left (by omega)]
theorem cut_down {N d : Nat} : Ieee.Toward.down.cut false N d = N / 2 ^ d := by
  unfold Ieee.Toward.cut
  simp only [Bool.false_and, Bool.toNat_false, Nat.add_zero, Nat.one_shiftLeft]
  by_cases h : d ≤ N.log2 + 2
  · rw [Nat.min_eq_left h]
  · rw [Nat.min_eq_right (by omega)]
    by_cases h0 : N = 0
    · subst h0; simp
    have hb := (log_bounds h0).2
    have h1 : 2 ^ (N.log2 + 1) ≤ 2 ^ (N.log2 + 2) := Nat.pow_le_pow_right (by omega) (by omega)
    have h2 : 2 ^ (N.log2 + 1) ≤ 2 ^ d := Nat.pow_le_pow_right (by omega) (by omega)
    rw [Nat.div_eq_of_lt (by omega), Nat.div_eq_of_lt (by omega)]
theorem cut_zero {N d : Nat} : Ieee.Toward.zero.cut false N d = N / 2 ^ d := by
  rw [← cut_down]
  unfold Ieee.Toward.cut
  simp
/-- What a word's whole part is. -/
def qn (b : Nat) : Nat := if b = 4845873199050653696 then 9007199254740992 else mg b / 2 ^ (1074 - ex b)
theorem small_ex {b : Nat} (h : b < 4845873199050653696) : ex b ≤ 1074 := by
  unfold ex
  split
  · omega
  · omega
theorem rg_small {b : Nat} (h : b ≤ 4845873199050653696) : rg b = b ∧ ng b = false ∧ rg b < inf := by
  have h1 : rg b = b := by unfold rg; omega
  refine ⟨h1, ?_, ?_⟩
  · unfold ng
    have : b / 9223372036854775808 = 0 := by omega
    rw [this]; rfl
  · rw [h1]
    have : inf = 9218868437227405312 := rfl
    omega
theorem integral_eq (way : Ieee.Toward) (hw : ∀ N d, way.cut false N d = N / 2 ^ d) (b : Nat) (h : b ≤ 4845873199050653696) : (Ieee.double.read b).integral way = .number false (qn b) 0 := by
  obtain ⟨r1, r2, r3⟩ := rg_small h
  rw [read_fin b r3, r1, r2]
  unfold Ieee.Datum.integral
  simp only [hw]
  unfold qn
  by_cases h0 : b = 4845873199050653696
  · subst h0
    rw [if_pos rfl]
    have t0 : ex 4845873199050653696 = 1075 := by decide
    have t00 : mg 4845873199050653696 = 4503599627370496 := by decide
    rw [t0, t00]
    have t1 : (-1074 + ((1075 : Nat) : Int)).toNat = 1 := by omega
    have t2 : (-(-1074 + ((1075 : Nat) : Int))).toNat = 0 := by omega
    rw [t1, t2]
    rfl
  · rw [if_neg h0]
    have hs := small_ex (b := b) (by omega)
    have t1 : (-1074 + (ex b : Int)).toNat = 0 := by omega
    have t2 : (-(-1074 + (ex b : Int))).toNat = 1074 - ex b := by omega
    rw [t1, t2, Nat.shiftLeft_zero]
theorem qn_le (b : Nat) (h : b ≤ 4845873199050653696) : qn b ≤ 9007199254740992 := by
  unfold qn
  split
  · omega
  · have : mg b < 9007199254740992 := by
      unfold mg
      split <;> omega
    have := Nat.div_le_self (mg b) (2 ^ (1074 - ex b))
    omega
end Go.Proofs.Ytgcahipcbidojaa
