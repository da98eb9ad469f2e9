/- Layer 2: moments' steps, the program's and the document's (no claim; lemmas). -/
import Derived.Test.YtnmljkhpmcgdoaaK02g
set_option linter.unusedSimpArgs false
set_option linter.unusedVariables false
namespace Go.Proofs.Ytnmljkhpmcgdoaa
open Go Go.Vm

noncomputable instance (b : Nat) : Decidable (wholeB b) := by unfold wholeB; infer_instance
def limF : Nat := 4845873199050653696
theorem limF_eq : limF = 4845873199050653696 := rfl
theorem sv_pos {b : Nat} (h : b < 9223372036854775808) : sv b = (b : Int) := by
  have := sv_rg b
  have e : rg b = b := by unfold rg; omega
  rw [e] at this
  exact this
/-- A moment's step: is there one, and which. -/
noncomputable def stepN (b : Nat) : Nat := if wholeB b then qn b else 0
theorem Step_ok (b : Nat) (hb : b < 18446744073709551616) : evI pg .val n_moment_Step [.flt b] [] = some (.tup [.int .i64 (stepN b : Int), .bool (decide (wholeB b))], []) := by
  have hi : inf = 9218868437227405312 := rfl
  have hl := limF_eq
  have n1 := IsNaN_ok b
  rw [s_fn fn_moment_Step]
  unfold stepN
  by_cases c1 : inf < rg b
  · have w : ¬ wholeB b := fun hh => by have h1 := hh.1; have h2 : rg b ≤ b := Nat.mod_le _ _; omega
    rw [decide_eq_true c1] at n1
    simp [ir_moment_Step, go_sem, n1, w]
  rw [decide_eq_false c1] at n1
  have n2 := IsInf_ok b hb c1
  by_cases c2 : rg b = inf
  · have w : ¬ wholeB b := fun hh => by have h1 := hh.1; have h2 : rg b ≤ b := Nat.mod_le _ _; omega
    rw [decide_eq_true c2] at n2
    simp [ir_moment_Step, go_sem, n1, n2, w]
  rw [decide_eq_false c2] at n2
  have n3 := Signbit_ok b hb
  rw [ng_eq hb] at n3
  by_cases c3 : 9223372036854775808 ≤ b
  · have w : ¬ wholeB b := whole_big (by omega)
    rw [decide_eq_true c3] at n3
    simp [ir_moment_Step, go_sem, n1, n2, n3, w]
  rw [decide_eq_false c3] at n3
  have s1 : sv b = (b : Int) := sv_pos (by omega)
  have s2 : sv limF = (limF : Int) := sv_pos (by omega)
  have r2 : rg limF = limF := by unfold rg; omega
  have o : Ieee.double.order b limF = some (compare (b : Int) (limF : Int)) := by rw [order_eq, if_neg (by rw [r2]; omega), s1, s2]
  by_cases c4 : limF < b
  · have w : ¬ wholeB b := whole_big (by omega)
    have g := (cmp_gt (b : Int) (limF : Int)).2 (by omega)
    rw [g, limF_eq] at o
    simp [ir_moment_Step, go_sem, n1, n2, n3, o, w]
  have hle : b ≤ 4845873199050653696 := by omega
  have n5 := Floor_ok b hle
  have hne : compare (b : Int) (limF : Int) ≠ .gt := fun hh => by have := (cmp_gt _ _).1 hh; omega
  obtain ⟨r, hr⟩ : ∃ r, compare (b : Int) (limF : Int) = r := ⟨_, rfl⟩
  rw [hr] at hne o
  rw [limF_eq] at o
  have hne' := beq_eq_false_iff_ne.2 hne
  have hwl := wn_le (qn b) (qn_le b hle)
  have s3 : sv (wn (qn b)) = (wn (qn b) : Int) := sv_pos (by omega)
  have r3 : rg (wn (qn b)) = wn (qn b) := by unfold rg; omega
  have o2 : Ieee.double.order b (wn (qn b)) = some (compare (b : Int) (wn (qn b) : Int)) := by rw [order_eq, if_neg (by rw [r3]; omega), s1, s3]
  by_cases c5 : b = wn (qn b)
  · have w : wholeB b := ⟨hle, c5⟩
    have g := (cmp_eq (b : Int) (wn (qn b) : Int)).2 (by omega)
    rw [g] at o2
    have ti : (FloatKind.f64.decode b).toInt .zero = some ((qn b : Nat) : Int) := by
      show (Ieee.double.read b).toInt .zero = _
      unfold Ieee.Datum.toInt
      rw [integral_eq .zero (fun _ _ => cut_zero) b hle]
      show some (Ieee.signed false (qn b) 0) = _
      unfold Ieee.signed
      simp
    have hq := qn_le b hle
    have e : IntKind.i64.wrap ((qn b : Nat) : Int) = ((qn b : Nat) : Int) := wrap_i64 (by omega) (by omega)
    have mi : IntKind.i64.min = -9223372036854775808 := by decide
    have q1 : (-9223372036854775808 : Int) ≤ (qn b : Int) := by omega
    have q2 : (qn b : Int) ≤ 9223372036854775807 := by omega
    simp [ir_moment_Step, go_sem, n1, n2, n3, n5, o, o2, hne', w, ti, e, mi, q1, q2]
  · have w : ¬ wholeB b := fun hh => c5 hh.2
    have g := beq_eq_false_iff_ne.2 (show ¬ compare (b : Int) (wn (qn b) : Int) = .eq from fun hh => by have := (cmp_eq _ _).1 hh; omega)
    simp [ir_moment_Step, go_sem, n1, n2, n3, n5, o, o2, hne', w, bne, g]
end Go.Proofs.Ytnmljkhpmcgdoaa
