/- Layer 2: steps' moments and moments' steps (no claim; lemmas). -/
import Derived.Test.YtgcahipcbidojaaK02b
import Derived.Test.YtgcahipcbidojaaK02e
set_option linter.unusedSimpArgs false
set_option linter.unusedVariables false
namespace Go.Proofs.Ytgcahipcbidojaa
open Go Go.Vm

theorem i2f_nat (n : Nat) (h : n ≤ 9007199254740992) : FloatKind.f64.nearest (n : Int) = wn n := by
  rw [← nearest_eq n h]
  show Ieee.double.nearest (decide ((n : Int) < 0)) (n : Int).natAbs 0 = _
  rw [decide_eq_false (by omega), Int.natAbs_natCast]
end Go.Proofs.Ytgcahipcbidojaa
