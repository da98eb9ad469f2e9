/- Layer 2: steps' moments and moments' steps (no claim; lemmas). -/
import Derived.Test.YtnmljkhpmcgdoaaK02b
import Derived.Test.YtnmljkhpmcgdoaaK02e
set_option linter.unusedSimpArgs false
set_option linter.unusedVariables false
namespace Go.Proofs.Ytnmljkhpmcgdoaa
open Go Go.Vm

theorem i2f_nat (n : Nat) (h : n ≤ 9007199254740992) : FloatKind.f64.nearest (n : Int) = wn n := by
  rw [← nearest_eq n h]
  show Ieee.double.nearest (decide ((n : Int) < 0)) (n : Int).natAbs 0 = _
  rw [decide_eq_false (by omega), Int.natAbs_natCast]
theorem Never_ok : evI pg .val n_moment_Never [] [] = some (.flt 9221120237041090561, []) := closed irL_ok 50 (by kernel_rfl)
theorem First_ok : evI pg .val n_moment_First [] [] = some (.flt 18442240474082181120, []) := closed irL_ok 50 (by kernel_rfl)
theorem Later_ok : evI pg .val n_moment_Later [] [] = some (.flt 9218868437227405312, []) := closed irL_ok 50 (by kernel_rfl)
theorem Of_ok (n : Nat) (h : n ≤ 9007199254740992) : evI pg .val n_moment_Of [.int .i64 (n : Int)] [] = some (.tup [.flt (wn n), .bool true], []) := by
  have e := i2f_nat n h
  have h1 : ¬ (9007199254740992 : Int) < (n : Int) := by omega
  have h2 : ¬ 9007199254740992 < n := by omega
  rw [s_fn fn_moment_Of]
  simp [ir_moment_Of, go_sem, e, h1, h2]
theorem Of_bad (n : Int) (h : n < 0 ∨ 9007199254740992 < n) : evI pg .val n_moment_Of [.int .i64 n] [] = some (.tup [.flt 9221120237041090561, .bool false], []) := by
  have hn := Never_ok
  rw [s_fn fn_moment_Of]
  by_cases h1 : n < 0
  · simp [ir_moment_Of, go_sem, hn, h1]
  · have h2 : 9007199254740992 < n := by omega
    simp [ir_moment_Of, go_sem, hn, h1, h2]
end Go.Proofs.Ytnmljkhpmcgdoaa
