/- Layer 2: the document's look for whole numbers (no claim; plain lemmas). -/
import Derived.Test.YtgcahipcbidojaaK02d
set_option linter.unusedSimpArgs false
set_option linter.unusedVariables false
namespace Go.Proofs.Ytgcahipcbidojaa
open Go Go.Vm

/-- Is a word a step's? -/
def wholeB (b : Nat) : Prop := b ≤ 4845873199050653696 ∧ b = wn (qn b)
theorem whole_zero : wholeB 0 ∧ qn 0 = 0 := by
  have h := qn_wn 0 (by omega)
  have hw : wn 0 = 0 := rfl
  rw [hw] at h
  exact ⟨⟨by omega, by rw [h]; rfl⟩, h⟩
theorem whole_small {b : Nat} (h0 : b ≠ 0) (h : b / 4503599627370496 < 1023) : ¬ wholeB b := by
  rintro ⟨h1, h2⟩
  have hm : mg b < 9007199254740992 := by unfold mg; split <;> omega
  have he : ex b ≤ 1021 := by unfold ex; split <;> omega
  have hq : qn b = 0 := by
    unfold qn
    rw [if_neg (by omega)]
    apply Nat.div_eq_of_lt
    have : 2 ^ 53 ≤ 2 ^ (1074 - ex b) := Nat.pow_le_pow_right (by omega) (by omega)
    omega
  rw [hq] at h2
  exact h0 h2
theorem whole_big {b : Nat} (h : 4845873199050653696 < b) : ¬ wholeB b := fun hh => by have := hh.1; omega
theorem whole_top : wholeB 4845873199050653696 ∧ qn 4845873199050653696 = 9007199254740992 := by
  have h : qn 4845873199050653696 = 9007199254740992 := by unfold qn; rw [if_pos rfl]
  refine ⟨⟨by omega, ?_⟩, h⟩
  rw [h]
  unfold wn
  rw [if_neg (by omega), if_pos rfl]
theorem whole_mid {b k : Nat} (h1 : 1023 ≤ b / 4503599627370496) (h2 : b / 4503599627370496 ≤ 1075) (hk : k = 1075 - b / 4503599627370496) :
    qn b = (b % 4503599627370496 + 4503599627370496) / 2 ^ k ∧ (wholeB b ↔ (b % 4503599627370496 + 4503599627370496) / 2 ^ k * 2 ^ k = b % 4503599627370496 + 4503599627370496) := by
  obtain ⟨M, hM⟩ : ∃ M, M = b % 4503599627370496 + 4503599627370496 := ⟨_, rfl⟩
  have hMl : 4503599627370496 ≤ M ∧ M < 9007199254740992 := by omega
  have e1 : mg b = M := by unfold mg; rw [if_neg (by omega)]; omega
  have e2 : ex b = b / 4503599627370496 - 1 := by unfold ex; rw [if_neg (by omega)]
  have hq : qn b = M / 2 ^ k := by
    unfold qn
    rw [if_neg (by omega), e1, e2, hk]
    congr 2
    omega
  rw [← hM]
  refine ⟨hq, ?_⟩
  unfold wholeB
  rw [hq]
  have hk52 : k ≤ 52 := by omega
  have hp := Nat.two_pow_pos k
  have p52 : 2 ^ (52 - k) * 2 ^ k = 4503599627370496 := by rw [← Nat.pow_add, Nat.sub_add_cancel hk52]
  have p53 : 2 ^ (53 - k) * 2 ^ k = 9007199254740992 := by rw [← Nat.pow_add, Nat.sub_add_cancel (by omega)]
  have q1 : 2 ^ (52 - k) ≤ M / 2 ^ k := by
    rw [Nat.le_div_iff_mul_le hp, p52]
    exact hMl.1
  have q2 : M / 2 ^ k < 2 ^ (53 - k) := by
    rw [Nat.div_lt_iff_lt_mul hp, p53]
    exact hMl.2
  have q0 : M / 2 ^ k ≠ 0 := by have := Nat.two_pow_pos (52 - k); omega
  have hlog : (M / 2 ^ k).log2 = 52 - k := by
    have a := (Nat.log2_lt q0 (k := 53 - k)).2 q2
    have b := (Nat.le_log2 q0 (k := 52 - k)).2 q1
    omega
  have hn53 : M / 2 ^ k ≠ 9007199254740992 := by
    have : 2 ^ (53 - k) ≤ 2 ^ 53 := Nat.pow_le_pow_right (by omega) (by omega)
    omega
  have hw : wn (M / 2 ^ k) = (52 - k + 1022) * 4503599627370496 + M / 2 ^ k * 2 ^ k := by
    unfold wn
    rw [if_neg q0, if_neg hn53, hlog]
    congr 3
    omega
  rw [hw]
  generalize M / 2 ^ k * 2 ^ k = K
  constructor
  · rintro ⟨_, h⟩
    omega
  · intro h
    constructor
    · omega
    · omega
end Go.Proofs.Ytgcahipcbidojaa
