/- Layer 2: what the laws need (no claim; lemmas). -/
import Derived.Test.YtnmljkhpmcgdoaaK02i
import Derived.Test.YtnmljkhpmcgdoaaRows
set_option linter.unusedSimpArgs false
set_option linter.unusedVariables false
namespace Go.Proofs.Ytnmljkhpmcgdoaa
open Go Go.Vm

theorem step_wn (n : Nat) (h : n ≤ 9007199254740992) : wholeB (wn n) ∧ stepN (wn n) = n := by
  have hw : wholeB (wn n) := ⟨wn_le n h, by rw [qn_wn n h]⟩
  refine ⟨hw, ?_⟩
  unfold stepN
  rw [if_pos hw, qn_wn n h]
theorem vr_wn (n : Nat) (h : n ≤ 9007199254740992) : vr (wn n) = n * 2 ^ 1074 := by
  unfold wn
  by_cases h0 : n = 0
  · subst h0
    rw [if_pos rfl, vr_zero]
    generalize 2 ^ 1074 = X
    omega
  rw [if_neg h0]
  by_cases h1 : n = 9007199254740992
  · subst h1
    rw [if_pos rfl]
    unfold vr
    have t0 : ex 4845873199050653696 = 1075 := by decide
    have t00 : mg 4845873199050653696 = 4503599627370496 := by decide
    rw [t00]
    revert t0
    generalize ex 4845873199050653696 = p
    generalize hq : 1074 = q
    intro t0
    have h : p = q + 1 := by omega
    subst h
    rw [Nat.pow_succ]
    generalize 2 ^ q = X
    omega
  rw [if_neg h1]
  have hm := wn_mid h0 (by omega)
  have hl := log_le h0 (by omega)
  have hp : 2 ^ (52 - n.log2) * 2 ^ (n.log2 + 1022) = 2 ^ 1074 := by rw [← Nat.pow_add, show 52 - n.log2 + (n.log2 + 1022) = 1074 by omega]
  have hk : n * 2 ^ (52 - n.log2) * 2 ^ (n.log2 + 1022) = n * 2 ^ 1074 := by rw [Nat.mul_assoc, hp]
  revert hm hk
  generalize n * 2 ^ (52 - n.log2) = K
  intro hm hk
  have e1 : mg ((n.log2 + 1022) * 4503599627370496 + K) = K := by
    unfold mg
    rw [if_neg (by omega)]
    omega
  have e2 : ex ((n.log2 + 1022) * 4503599627370496 + K) = n.log2 + 1022 := by
    unfold ex
    rw [if_neg (by omega)]
    omega
  unfold vr
  rw [e1, e2, hk]
theorem wn_lt_iff (i k : Nat) (hi : i ≤ 9007199254740992) (hk : k ≤ 9007199254740992) : wn i < wn k ↔ i < k := by
  rw [← vr_lt_iff, vr_wn i hi, vr_wn k hk]
  exact Nat.mul_lt_mul_right (Nat.two_pow_pos 1074)
theorem rk_wn (n : Nat) (h : n ≤ 9007199254740992) : rk (wn n) = wn n + 9223372036854775808 := by
  have hl := wn_le n h
  have hi : inf = 9218868437227405312 := rfl
  unfold rk
  rw [if_neg (by have : rg (wn n) ≤ wn n := Nat.mod_le _ _; omega), if_neg (by omega)]
theorem rk_le (a : Nat) : rk a ≤ 18446744073709551615 := by
  unfold rk
  split
  · omega
  · have hi : inf = 9218868437227405312 := rfl
    split
    · omega
    · omega
theorem rk_ge (a : Nat) (ha : a < 18446744073709551616) : 4503599627370495 ≤ rk a := by
  unfold rk
  have hi : inf = 9218868437227405312 := rfl
  split
  · omega
  · rename_i h
    unfold rg at h
    split
    · omega
    · omega
theorem rk_first : rk 18442240474082181120 = 4503599627370495 := by decide
theorem rk_later : rk 9218868437227405312 = 18442240474082181120 := by decide
theorem rk_never : rk 9221120237041090561 = 18446744073709551615 := by decide
theorem wf_f {b : Nat} (h : (Lit.float .f64 b).wf = true) : b < 18446744073709551616 := by
  simpa [Lit.wf, FloatKind.format] using h
theorem alive02s : evI pg .val n_undertowlaw02_alive [] [] = some (.bool true, []) := closed irL_ok 300 (by kernel_rfl)
theorem None_never : evI pg .val n_undertowref02_None [.flt 9221120237041090561] [] = some (.bool true, []) := closed irL_ok 50 (by kernel_rfl)
theorem Rank_first : evI pg .val n_undertowref02_Rank [.flt 18442240474082181120] [] = some (.int .u64 4503599627370495, []) := closed irL_ok 50 (by kernel_rfl)
theorem Rank_later : evI pg .val n_undertowref02_Rank [.flt 9218868437227405312] [] = some (.int .u64 18442240474082181120, []) := closed irL_ok 50 (by kernel_rfl)
end Go.Proofs.Ytnmljkhpmcgdoaa
