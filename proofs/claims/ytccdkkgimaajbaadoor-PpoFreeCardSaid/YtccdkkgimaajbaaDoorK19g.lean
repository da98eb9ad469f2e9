/- Layer 19: a relation is joined to a relation (no claim; lemmas). -/
import Derived.Test.YtccdkkgimaajbaaDoorK19f
set_option linter.unusedSimpArgs false
set_option linter.unusedVariables false
namespace Go.Proofs.YtccdkkgimaajbaaDoor
open Go Go.Vm

/-- Rows, as far as they are joined. -/
def J (W U : Nat → Nat) (i : Nat) : Nat → Nat := fun b => if b < i then W b ||| U b else W b
theorem J_lt {n : Nat} {W U : Nat → Nat} (hW : ∀ a, a < n → W a < 2 ^ n) (hU : ∀ a, a < n → U a < 2 ^ n) (i : Nat) : ∀ a, a < n → J W U i a < 2 ^ n := by
  intro a ha
  unfold J
  split
  · exact Nat.or_lt_two_pow (hW a ha) (hU a ha)
  · exact hW a ha
theorem two_kw {n x : Nat} (h : x < 2 ^ n) : x < 2 ^ (64 * kw n) := Nat.lt_of_lt_of_le h (Nat.pow_le_pow_right (by omega) (kw_ge n))
theorem RelAt.join {H : List Vm.Obj} {p : Nat} {v : V} {n T : Nat} {I : Nat → Nat} {W U : Nat → Nat} {i : Nat} (h : RelAt H p v n T I (J W U i)) (hi : i < n) (hU : ∀ a, a < n → U a < 2 ^ n) :
    RelAt (H.set (I i) (.arr (wR (wl (kw n) (J W U i i ||| U i))))) p v n T I (J W U (i + 1)) := by
  have h1 := h.set hi (J W U i i ||| U i) (Nat.or_lt_two_pow (h.lt i hi) (hU i hi))
  have e : ∀ b, (if b = i then J W U i i ||| U i else J W U i b) = J W U (i + 1) b := by
    intro b
    unfold J
    by_cases c : b = i
    · subst c
      rw [if_pos rfl, if_neg (by omega), if_pos (by omega)]
    · rw [if_neg c]
      have : (b < i) ↔ (b < i + 1) := by omega
      simp [this]
  have e' : (fun b => if b = i then J W U i i ||| U i else J W U i b) = J W U (i + 1) := funext e
  rw [e'] at h1
  exact h1
section
variable {p : Nat} {v : V} {n T : Nat} {I : Nat → Nat} {W U : Nat → Nat}
theorem Len_nil : evI pg .val n_rel_Rel_Len [.nilp] [] = some (.int .i64 0, []) := closed irL_ok 10 (by kernel_rfl)
end
end Go.Proofs.YtccdkkgimaajbaaDoor
