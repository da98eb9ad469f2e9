/- Layer 2: when a word is a whole number (no claim; plain lemmas). -/
import Derived.Test.YtgcahipcbidojaaK02c
set_option linter.unusedSimpArgs false
set_option linter.unusedVariables false
namespace Go.Proofs.Ytgcahipcbidojaa
open Go Go.Vm

theorem wn_le (n : Nat) (h : n ≤ 9007199254740992) : wn n ≤ 4845873199050653696 := by
  unfold wn
  by_cases h0 : n = 0
  · rw [if_pos h0]; omega
  rw [if_neg h0]
  by_cases h1 : n = 9007199254740992
  · rw [if_pos h1]; omega
  rw [if_neg h1]
  have hm := wn_mid h0 (by omega)
  have hl := log_le h0 (by omega)
  revert hm
  generalize n * 2 ^ (52 - n.log2) = K
  intro hm
  omega
/-- A whole number's word has just it. -/
theorem qn_wn (n : Nat) (h : n ≤ 9007199254740992) : qn (wn n) = n := by
  unfold wn
  by_cases h0 : n = 0
  · subst h0
    rw [if_pos rfl]
    unfold qn
    rw [if_neg (by omega)]
    have : mg 0 = 0 := by decide
    rw [this, Nat.zero_div]
  rw [if_neg h0]
  by_cases h1 : n = 9007199254740992
  · rw [if_pos h1]
    unfold qn
    rw [if_pos rfl, h1]
  rw [if_neg h1]
  have hm := wn_mid h0 (by omega)
  have hl := log_le h0 (by omega)
  have hd : n * 2 ^ (52 - n.log2) / 2 ^ (52 - n.log2) = n := Nat.mul_div_cancel _ (Nat.two_pow_pos _)
  revert hm hd
  generalize n * 2 ^ (52 - n.log2) = K
  intro hm hd
  have e1 : mg ((n.log2 + 1022) * 4503599627370496 + K) = K := by
    unfold mg
    rw [if_neg (by omega)]
    omega
  have e2 : ex ((n.log2 + 1022) * 4503599627370496 + K) = n.log2 + 1022 := by
    unfold ex
    rw [if_neg (by omega)]
    omega
  unfold qn
  rw [if_neg (by omega), e1, e2, show 1074 - (n.log2 + 1022) = 52 - n.log2 by omega]
  exact hd
end Go.Proofs.Ytgcahipcbidojaa
