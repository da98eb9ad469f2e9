/- Layer 2: moments' steps (no claim; lemmas). -/
import Derived.Test.YtgcahipcbidojaaK02f
set_option linter.unusedSimpArgs false
set_option linter.unusedVariables false
namespace Go.Proofs.Ytgcahipcbidojaa
open Go Go.Vm

theorem ng_eq {a : Nat} (ha : a < 18446744073709551616) : ng a = decide (9223372036854775808 ≤ a) := by
  unfold ng
  rw [Bool.eq_iff_iff]
  simp only [beq_iff_eq, decide_eq_true_eq]
  omega
theorem rg_lt (a : Nat) : rg a < 9223372036854775808 := Nat.mod_lt _ (by omega)
theorem rg_rg (a : Nat) : rg (rg a) = rg a := by unfold rg; omega
theorem sv_rg (a : Nat) : sv (rg a) = (rg a : Int) := by
  have h := rg_lt a
  unfold sv
  rw [ng_eq (by omega), decide_eq_false (by omega), if_neg (by simp), rg_rg]
theorem Abs_ok (a : Nat) (ha : a < 18446744073709551616) : evI pg .val n_math_Abs [.flt a] [] = some (.flt (rg a), []) := by
  have e : andNotI .u64 (a : Int) 9223372036854775808 = (rg a : Int) := by
    have h : a &&& 9223372036854775807 = rg a := Nat.and_two_pow_sub_one_eq_mod a 63
    show IntKind.u64.wrap ((BitVec.ofInt 64 (a : Int) &&& ~~~ (BitVec.ofInt 64 ((9223372036854775808 : Nat) : Int))).toNat : Nat) = _
    rw [BitVec.toNat_and, BitVec.toNat_not, toNat64 ha, toNat64 (by omega)]
    rw [show 2 ^ 64 - 1 - 9223372036854775808 = 9223372036854775807 from rfl, h]
    exact wrap_u64' (by unfold rg; omega)
  rw [s_fn fn_math_Abs]
  simp [ir_math_Abs, go_sem, e]
def maxF : Nat := 9218868437227405311
theorem maxF_eq : maxF = 9218868437227405311 := rfl
theorem maxF_rg : rg maxF = maxF := by
  have h := maxF_eq
  unfold rg
  omega
theorem maxF_sv : sv maxF = (maxF : Int) := by
  have := sv_rg maxF
  rw [maxF_rg] at this
  exact this
theorem order_max (a : Nat) (hn : ¬ inf < rg a) : Ieee.double.order (rg a) maxF = some (compare (rg a : Int) (maxF : Int)) := by
  have hi : inf = 9218868437227405312 := rfl
  have h := maxF_eq
  rw [order_eq, if_neg (by rw [rg_rg, maxF_rg]; omega), sv_rg, maxF_sv]
theorem IsInf_ok (a : Nat) (ha : a < 18446744073709551616) (hn : ¬ inf < rg a) : evI pg .val n_math_IsInf [.flt a, .int .i64 0] [] = some (.bool (decide (rg a = inf)), []) := by
  have hi : inf = 9218868437227405312 := rfl
  have hm := maxF_eq
  have h := Abs_ok a ha
  have o := order_max a hn
  rw [s_fn fn_math_IsInf]
  by_cases c : rg a = inf
  · have g := (cmp_gt (rg a : Int) (maxF : Int)).2 (by omega)
    rw [g] at o
    rw [maxF_eq] at o
    rw [decide_eq_true c]
    simp [ir_math_IsInf, go_sem, h, o]
  · have hlt : compare (rg a : Int) (maxF : Int) ≠ .gt := fun hh => by have := (cmp_gt _ _).1 hh; omega
    obtain ⟨r, hr⟩ : ∃ r, compare (rg a : Int) (maxF : Int) = r := ⟨_, rfl⟩
    rw [hr] at hlt o
    rw [maxF_eq] at o
    rw [decide_eq_false c]
    have g := beq_eq_false_iff_ne.2 hlt
    simp [ir_math_IsInf, go_sem, h, o, g]
theorem Floor_ok (b : Nat) (h : b ≤ 4845873199050653696) : evI pg .val n_math_Floor [.flt b] [] = some (.flt (wn (qn b)), []) := by
  have e : integral .down b = some (.flt (wn (qn b))) := by
    have h1 := integral_eq .down (fun _ _ => cut_down) b h
    obtain ⟨r1, r2, r3⟩ := rg_small h
    have h2 := read_fin b r3
    unfold integral
    show (match Ieee.double.read b with | .nan .. => none | d => some (V.flt (Ieee.double.write (d.integral .down)))) = _
    rw [h2] at h1 ⊢
    show some (V.flt (Ieee.double.write ((Ieee.Datum.number _ _ _).integral .down))) = _
    rw [h1]
    show some (V.flt (Ieee.double.nearest false (qn b) 0)) = _
    rw [nearest_eq _ (qn_le b h)]
  rw [s_fn fn_math_Floor]
  simp [ir_math_Floor, go_sem, e]
end Go.Proofs.Ytgcahipcbidojaa
