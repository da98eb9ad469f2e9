/- Floats' order by their words (no claim; lemmas). -/
import Derived.Test.YtgcahipcbidojaaVf
import Derived.Test.YtgcahipcbidojaaIr
set_option linter.unusedSimpArgs false
set_option linter.unusedVariables false
namespace Go.Proofs.Ytgcahipcbidojaa
open Go Go.Vm

def rg (a : Nat) : Nat := a % 9223372036854775808
def ng (a : Nat) : Bool := a / 9223372036854775808 % 2 == 1
/-- How big a rung is. -/
def mg (r : Nat) : Nat := if r < 4503599627370496 then r else 4503599627370496 + r % 4503599627370496
def ex (r : Nat) : Nat := if r < 4503599627370496 then 0 else r / 4503599627370496 - 1
def vr (r : Nat) : Nat := mg r * 2 ^ ex r
theorem vr_lt {r r' : Nat} (h : r < r') : vr r < vr r' := by
  unfold vr mg ex
  by_cases c : r < 4503599627370496
  · rw [if_pos c, if_pos c]
    by_cases c' : r' < 4503599627370496
    · rw [if_pos c', if_pos c']; omega
    · rw [if_neg c', if_neg c']
      have := Nat.two_pow_pos (r' / 4503599627370496 - 1)
      have h2 : (4503599627370496 + r' % 4503599627370496) * 1 ≤ (4503599627370496 + r' % 4503599627370496) * 2 ^ (r' / 4503599627370496 - 1) := Nat.mul_le_mul_left _ this
      omega
  · have c' : ¬ r' < 4503599627370496 := by omega
    rw [if_neg c, if_neg c, if_neg c', if_neg c']
    have hm := Nat.mod_lt r (show 0 < 4503599627370496 by omega)
    by_cases hq : r / 4503599627370496 = r' / 4503599627370496
    · rw [hq]
      exact Nat.mul_lt_mul_of_pos_right (by omega) (Nat.two_pow_pos _)
    · have hlt : r / 4503599627370496 < r' / 4503599627370496 := by omega
      obtain ⟨q, hq1⟩ : ∃ q, r / 4503599627370496 = q + 1 := ⟨r / 4503599627370496 - 1, by omega⟩
      obtain ⟨q', hq2⟩ : ∃ q', r' / 4503599627370496 = q' + 1 := ⟨r' / 4503599627370496 - 1, by omega⟩
      rw [hq1, hq2, Nat.add_sub_cancel, Nat.add_sub_cancel]
      have h1 : (4503599627370496 + r % 4503599627370496) * 2 ^ q < (2 * 4503599627370496) * 2 ^ q := Nat.mul_lt_mul_of_pos_right (by omega) (Nat.two_pow_pos _)
      have h2 : 2 ^ (q + 1) ≤ 2 ^ q' := Nat.pow_le_pow_right (by omega) (by omega)
      have h3 : 4503599627370496 * 2 ^ (q + 1) ≤ (4503599627370496 + r' % 4503599627370496) * 2 ^ q' := Nat.mul_le_mul (by omega) h2
      have h4 : (2 * 4503599627370496) * 2 ^ q = 4503599627370496 * 2 ^ (q + 1) := by rw [Nat.pow_succ]; omega
      omega
theorem vr_lt_iff (r r' : Nat) : vr r < vr r' ↔ r < r' := by
  constructor
  · intro h
    rcases Nat.lt_trichotomy r r' with c | c | c
    · exact c
    · subst c; omega
    · have := vr_lt c; omega
  · exact vr_lt
theorem vr_zero : vr 0 = 0 := by decide
def inf : Nat := 9218868437227405312
def sv (a : Nat) : Int := if ng a then -(rg a : Int) else (rg a : Int)
theorem read_fin (a : Nat) (h : rg a < inf) : Ieee.double.read a = .number (ng a) (mg (rg a)) (-1074 + (ex (rg a) : Int)) := by
  unfold Ieee.Format.read
  have e1 : Ieee.double.signWeight = 9223372036854775808 := by decide
  have e2 : Ieee.double.binade = 4503599627370496 := by decide
  have e3 : Ieee.double.infRung = 9218868437227405312 := by decide
  have e4 : Ieee.double.leastPlace = -1074 := by decide
  simp only [e1, e2, e3, e4]
  unfold inf rg at h
  unfold ng rg mg ex
  by_cases c : a % 9223372036854775808 < 4503599627370496
  · rw [if_pos c, if_pos c, if_pos c]
    rfl
  · rw [if_neg c, if_pos h, if_neg c, if_neg c]
theorem read_inf (a : Nat) (h : rg a = inf) : Ieee.double.read a = .infinity (ng a) := by
  unfold Ieee.Format.read
  have e1 : Ieee.double.signWeight = 9223372036854775808 := by decide
  have e2 : Ieee.double.binade = 4503599627370496 := by decide
  have e3 : Ieee.double.infRung = 9218868437227405312 := by decide
  simp only [e1, e2, e3]
  unfold inf rg at h
  unfold ng
  rw [if_neg (by omega), if_neg (by omega), if_pos h]
theorem read_nan (a : Nat) (h : inf < rg a) : Ieee.double.read a = .nan (ng a) (rg a - inf) := by
  unfold Ieee.Format.read
  have e1 : Ieee.double.signWeight = 9223372036854775808 := by decide
  have e2 : Ieee.double.binade = 4503599627370496 := by decide
  have e3 : Ieee.double.infRung = 9218868437227405312 := by decide
  simp only [e1, e2, e3]
  unfold inf rg at *
  unfold ng
  rw [if_neg (by omega), if_neg (by omega), if_neg (by omega)]
theorem compare_of {x y x' y' : Int} (h1 : x < y ↔ x' < y') (h2 : y < x ↔ y' < x') : compare x y = compare x' y' := by
  have h3 : x = y ↔ x' = y' := by omega
  show compareOfLessAndEq x y = compareOfLessAndEq x' y'
  unfold compareOfLessAndEq
  simp only [h1, h3]
theorem order_eq (a b : Nat) : Ieee.double.order a b = if inf < rg a ∨ inf < rg b then none else some (compare (sv a) (sv b)) := by
  unfold Ieee.Format.order
  by_cases ca : inf < rg a
  · rw [if_pos (.inl ca), read_nan a ca]
    cases Ieee.double.read b <;> rfl
  · by_cases cb : inf < rg b
    · rw [if_pos (.inr cb), read_nan b cb]
      cases Ieee.double.read a <;> rfl
    · rw [if_neg (by omega)]
      by_cases da : rg a = inf
      · rw [read_inf a da]
        by_cases db : rg b = inf
        · rw [read_inf b db]
          unfold sv
          rw [da, db]
          cases ng a <;> cases ng b <;> decide
        · have hb : rg b < inf := by omega
          rw [read_fin b hb]
          show some (if ng a = true then Ordering.lt else .gt) = some (compare (sv a) (sv b))
          congr 1
          have hi : inf = 9218868437227405312 := rfl
          have hsb : -(rg b : Int) ≤ sv b ∧ sv b ≤ (rg b : Int) := by unfold sv; split <;> omega
          symm
          cases hn : ng a with
          | true =>
            have : sv a = -(inf : Int) := by unfold sv; rw [hn, da]; rfl
            show compareOfLessAndEq _ _ = _
            unfold compareOfLessAndEq
            rw [if_pos (by omega)]
            rfl
          | false =>
            have : sv a = (inf : Int) := by unfold sv; rw [hn, da]; rfl
            show compareOfLessAndEq _ _ = _
            unfold compareOfLessAndEq
            rw [if_neg (by omega), if_neg (by omega)]
            rfl
      · have ha : rg a < inf := by omega
        rw [read_fin a ha]
        by_cases db : rg b = inf
        · rw [read_inf b db]
          show some (if ng b = true then Ordering.gt else .lt) = some (compare (sv a) (sv b))
          congr 1
          have hi : inf = 9218868437227405312 := rfl
          have hsa : -(rg a : Int) ≤ sv a ∧ sv a ≤ (rg a : Int) := by unfold sv; split <;> omega
          symm
          cases hn : ng b with
          | true =>
            have : sv b = -(inf : Int) := by unfold sv; rw [hn, db]; rfl
            show compareOfLessAndEq _ _ = _
            unfold compareOfLessAndEq
            rw [if_neg (by omega), if_neg (by omega)]
            rfl
          | false =>
            have : sv b = (inf : Int) := by unfold sv; rw [hn, db]; rfl
            show compareOfLessAndEq _ _ = _
            unfold compareOfLessAndEq
            rw [if_pos (by omega)]
            rfl
        · have hb : rg b < inf := by omega
          rw [read_fin b hb]
          show some (compare (Ieee.signed (ng a) (mg (rg a)) (-1074 + (ex (rg a) : Int) - min (-1074 + (ex (rg a) : Int)) (-1074 + (ex (rg b) : Int))).toNat) (Ieee.signed (ng b) (mg (rg b)) (-1074 + (ex (rg b) : Int) - min (-1074 + (ex (rg a) : Int)) (-1074 + (ex (rg b) : Int))).toNat)) = some (compare (sv a) (sv b))
          congr 1
          have t1 : (-1074 + (ex (rg a) : Int) - min (-1074 + (ex (rg a) : Int)) (-1074 + (ex (rg b) : Int))).toNat = ex (rg a) - min (ex (rg a)) (ex (rg b)) := by omega
          have t2 : (-1074 + (ex (rg b) : Int) - min (-1074 + (ex (rg a) : Int)) (-1074 + (ex (rg b) : Int))).toNat = ex (rg b) - min (ex (rg a)) (ex (rg b)) := by omega
          rw [t1, t2]
          have k1 := vr_lt_iff (rg a) (rg b)
          have k2 := vr_lt_iff (rg b) (rg a)
          have k3 := vr_lt_iff 0 (rg a)
          have k4 := vr_lt_iff 0 (rg b)
          rw [vr_zero] at k3 k4
          have hk : ∀ r e k, k ≤ e → mg r * 2 ^ e = mg r <<< (e - k) * 2 ^ k := by
            intro r e k h
            rw [Nat.shiftLeft_eq, Nat.mul_assoc, ← Nat.pow_add, Nat.sub_add_cancel h]
          have v1 : vr (rg a) = mg (rg a) <<< (ex (rg a) - min (ex (rg a)) (ex (rg b))) * 2 ^ min (ex (rg a)) (ex (rg b)) := hk _ _ _ (Nat.min_le_left _ _)
          have v2 : vr (rg b) = mg (rg b) <<< (ex (rg b) - min (ex (rg a)) (ex (rg b))) * 2 ^ min (ex (rg a)) (ex (rg b)) := hk _ _ _ (Nat.min_le_right _ _)
          have hp := Nat.two_pow_pos (min (ex (rg a)) (ex (rg b)))
          rw [v1] at k1 k2 k3
          rw [v2] at k1 k2 k4
          unfold Ieee.signed sv
          revert k1 k2 k3 k4
          generalize mg (rg a) <<< (ex (rg a) - min (ex (rg a)) (ex (rg b))) = M
          generalize mg (rg b) <<< (ex (rg b) - min (ex (rg a)) (ex (rg b))) = N
          rw [Nat.mul_lt_mul_right hp, Nat.mul_lt_mul_right hp]
          have z : ∀ X, 0 < X * 2 ^ min (ex (rg a)) (ex (rg b)) ↔ 0 < X := by
            intro X
            constructor
            · intro h; exact Nat.pos_of_mul_pos_right h
            · intro h; exact Nat.mul_pos h hp
          rw [z, z]
          intro k1 k2 k3 k4
          apply compare_of <;> cases ng a <;> cases ng b <;> simp only [Bool.false_eq_true, if_false, if_true] <;> omega
end Go.Proofs.Ytgcahipcbidojaa
