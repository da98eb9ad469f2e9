/- Layer 2: the document's step of a moment (no claim; lemmas). -/
import Derived.Test.YtnmljkhpmcgdoaaK02h
set_option linter.unusedSimpArgs false
set_option linter.unusedVariables false
namespace Go.Proofs.Ytnmljkhpmcgdoaa
open Go Go.Vm

theorem refStep_ok (b : Nat) (hb : b < 18446744073709551616) : evI pg .val n_undertowref02_Step [.flt b] [] = some (.tup [.int .i64 (stepN b : Int), .bool (decide (wholeB b))], []) := by
  rw [s_fn fn_undertowref02_Step]
  unfold stepN
  by_cases c0 : b = 0
  · subst c0
    obtain ⟨w, q⟩ := whole_zero
    simp [ir_undertowref02_Step, go_sem, w, q]
  have e52 : ((b : Int)).fdiv 4503599627370496 = ((b / 4503599627370496 : Nat) : Int) := shr_nat b 52
  have e63 : ((b : Int)).fdiv 9223372036854775808 = ((b / 9223372036854775808 : Nat) : Int) := shr_nat b 63
  obtain ⟨E, hE⟩ : ∃ E, E = b / 4503599627370496 := ⟨_, rfl⟩
  have hEl : E < 4096 := by omega
  rw [← hE] at e52
  have w1 : IntKind.i64.wrap (E : Int) = (E : Int) := wrap_i64 (by omega) (by omega)
  have w2 : IntKind.i64.wrap ((E : Int) - 1023) = (E : Int) - 1023 := wrap_i64 (by omega) (by omega)
  obtain ⟨S, hS⟩ : ∃ S, S = b / 9223372036854775808 := ⟨_, rfl⟩
  rw [← hS] at e63
  by_cases c1 : S = 1
  · have w : ¬ wholeB b := whole_big (by omega)
    simp [ir_undertowref02_Step, go_sem, c0, e52, e63, w1, w2, c1, w]
  have c1' : ¬ (S : Int) = 1 := by omega
  by_cases c2 : E < 1023
  · have w : ¬ wholeB b := whole_small c0 (by omega)
    have c2' : (E : Int) - 1023 < 0 := by omega
    simp [ir_undertowref02_Step, go_sem, c0, e52, e63, w1, w2, c1, c1', c2', w]
  have c2' : ¬ (E : Int) - 1023 < 0 := by omega
  by_cases c3 : 1076 < E
  · have w : ¬ wholeB b := whole_big (by omega)
    have c3' : 53 < (E : Int) - 1023 := by omega
    simp [ir_undertowref02_Step, go_sem, c0, e52, e63, w1, w2, c1, c1', c2', c3', w]
  have c3' : ¬ 53 < (E : Int) - 1023 := by omega
  have am : andI .u64 (b : Int) 4503599627370495 = ((b % 4503599627370496 : Nat) : Int) := by
    have h := and_u64 hb (show 4503599627370495 < 18446744073709551616 by omega)
    have h2 : b &&& 4503599627370495 = b % 4503599627370496 := Nat.and_two_pow_sub_one_eq_mod b 52
    rw [h2] at h
    exact h
  obtain ⟨M, hM⟩ : ∃ M, M = b % 4503599627370496 + 4503599627370496 := ⟨_, rfl⟩
  have wm : IntKind.u64.wrap (((b % 4503599627370496 : Nat) : Int) + 4503599627370496) = (M : Int) := by
    rw [hM]
    exact wrap_u64' (a := b % 4503599627370496 + 4503599627370496) (by omega)
  by_cases c4 : E ≤ 1075
  · have c4' : (E : Int) - 1023 ≤ 52 := by omega
    obtain ⟨hq, hw⟩ := whole_mid (b := b) (k := 1075 - E) (by omega) (by omega) (by rw [hE])
    rw [← hM] at hq hw
    have k1 : IntKind.i64.wrap (52 - ((E : Int) - 1023)) = ((1075 - E : Nat) : Int) := by rw [wrap_i64 (by omega) (by omega)]; omega
    have k2 : IntKind.u64.wrap ((1075 - E : Nat) : Int) = ((1075 - E : Nat) : Int) := wrap_u64' (by omega)
    have m1 : min (1075 - E) 64 = 1075 - E := by omega
    have s1 : ((M : Int)).fdiv (2 ^ (1075 - E)) = ((M / 2 ^ (1075 - E) : Nat) : Int) := shr_nat _ _
    have hle : M / 2 ^ (1075 - E) * 2 ^ (1075 - E) ≤ M := Nat.div_mul_le_self _ _
    have s2 : IntKind.u64.wrap (((M / 2 ^ (1075 - E) : Nat) : Int) * 2 ^ (1075 - E)) = ((M / 2 ^ (1075 - E) * 2 ^ (1075 - E) : Nat) : Int) := by rw [shl_nat, wrap_u64' (by omega)]
    have hd : M / 2 ^ (1075 - E) ≤ M := Nat.div_le_self _ _
    have s3 : IntKind.i64.wrap ((M / 2 ^ (1075 - E) : Nat) : Int) = ((M / 2 ^ (1075 - E) : Nat) : Int) := wrap_i64 (by omega) (by omega)
    by_cases c5 : M / 2 ^ (1075 - E) * 2 ^ (1075 - E) = M
    · have w : wholeB b := hw.2 c5
      have c5' : ((M / 2 ^ (1075 - E) * 2 ^ (1075 - E) : Nat) : Int) = (M : Int) := by rw [c5]
      simp [ir_undertowref02_Step, go_sem, c0, e52, e63, w1, w2, c1, c1', c2', c3', c4', am, wm, k1, k2, m1, s1, s2, s3, c5, hq, w, IntKind.bits, -Int.natCast_emod, -Int.natCast_pow, -Int.natCast_ediv, -Int.natCast_add, -Int.natCast_mul]
    · have w : ¬ wholeB b := fun hh => c5 (hw.1 hh)
      have c5' : ¬ ((M / 2 ^ (1075 - E) * 2 ^ (1075 - E) : Nat) : Int) = (M : Int) := fun hh => c5 (Int.ofNat.inj hh)
      simp [ir_undertowref02_Step, go_sem, c0, e52, e63, w1, w2, c1, c1', c2', c3', c4', am, wm, k1, k2, m1, s1, s2, s3, c5, c5', hq, w, IntKind.bits, -Int.natCast_emod, -Int.natCast_pow, -Int.natCast_ediv, -Int.natCast_add, -Int.natCast_mul]
  · have c4' : ¬ (E : Int) - 1023 ≤ 52 := by omega
    by_cases c6 : M = 4503599627370496
    · have hbt : b = 4845873199050653696 := by omega
      obtain ⟨w, q⟩ := whole_top
      rw [← hbt] at w q
      simp [ir_undertowref02_Step, go_sem, c0, e52, e63, w1, w2, c1, c1', c2', c3', c4', am, wm, c6, w, q, -Int.natCast_emod]
    · have w : ¬ wholeB b := whole_big (by omega)
      have c6' : ¬ (M : Int) = 4503599627370496 := by omega
      simp [ir_undertowref02_Step, go_sem, c0, e52, e63, w1, w2, c1, c1', c2', c3', c4', am, wm, c6, c6', w, -Int.natCast_emod]
end Go.Proofs.Ytnmljkhpmcgdoaa
