/- Floats that are whole numbers, exactly (no claim; plain lemmas). -/
import Derived.Test.YtgcahipcbidojaaK02g
set_option linter.unusedSimpArgs false
set_option linter.unusedVariables false
namespace Go.Proofs.Ytgcahipcbidojaa
open Go Go.Vm

theorem vr_inj {a b : Nat} (h : vr a = vr b) : a = b := by
  rcases Nat.lt_trichotomy a b with c | c | c
  · have := vr_lt c; omega
  · exact c
  · have := vr_lt c; omega
theorem inf_eq : inf = 9218868437227405312 := rfl
theorem fin_rg {a : Nat} (h : a < inf) : rg a = a ∧ ng a = false := by
  have hi := inf_eq
  refine ⟨by unfold rg; omega, ?_⟩
  rw [ng_eq (by omega), decide_eq_false (by omega)]
theorem read_w (a : Nat) (h : a < inf) : Ieee.double.read a = .number false (mg a) (-1074 + (ex a : Int)) := by
  obtain ⟨h1, h2⟩ := fin_rg h
  have := read_fin a (by rw [h1]; exact h)
  rwa [h1, h2] at this
theorem ord_w {a b : Nat} (ha : a < inf) (hb : b < inf) : Ieee.double.order a b = some (compare (a : Int) (b : Int)) := by
  obtain ⟨h1, h2⟩ := fin_rg ha
  obtain ⟨h3, h4⟩ := fin_rg hb
  rw [order_eq, if_neg (by omega)]
  unfold sv
  rw [h1, h2, h3, h4]
  rfl
theorem mg_lt (a : Nat) : mg a < 9007199254740992 := by
  unfold mg
  split
  · omega
  · have := Nat.mod_lt a (show 0 < 4503599627370496 by omega); omega
theorem me_eq (a : Nat) : ex a * 4503599627370496 + mg a = a := by
  unfold mg ex
  split
  · omega
  · omega
theorem cut_exact (m d : Nat) (hm : 1 ≤ m) : Ieee.Toward.even.cut false (m * 2 ^ d) d = m := by
  have hp := Nat.two_pow_pos d
  have hd : d ≤ (m * 2 ^ d).log2 := (Nat.le_log2 (by have := Nat.mul_pos hm hp; omega)).2 (Nat.le_mul_of_pos_left _ hm)
  unfold Ieee.Toward.cut
  simp only [Nat.min_eq_left (show d ≤ (m * 2 ^ d).log2 + 2 by omega), Nat.one_shiftLeft, Nat.mul_mod_left, Nat.mul_div_cancel m hp]
  have h1 : ¬ (2 ^ d < 2 * 0) := by omega
  have h2 : (2 ^ d == 2 * 0) = false := by rw [beq_eq_false_iff_ne]; omega
  rw [decide_eq_false h1, h2]
  rfl
theorem pow_lt_iff {a b : Nat} : 2 ^ a < 2 ^ b ↔ a < b := Nat.pow_lt_pow_iff_right (by omega)
/-- What is a word's is written as that word. -/
theorem nearest_exact (N k w : Nat) (hw : w < inf) (h : N * 2 ^ k = vr w) : Ieee.double.nearest false N (-1074 + (k : Int)) = w := by
  have hi := inf_eq
  by_cases h0 : N = 0
  · subst h0
    have : vr w = vr 0 := by rw [← h, vr_zero, Nat.zero_mul]
    rw [vr_inj this]
    unfold Ieee.Format.nearest
    rw [if_pos rfl]
    rfl
  have hlb := log_bounds h0
  have hme := me_eq w
  have hml := mg_lt w
  have hm1 : 1 ≤ mg w := by
    rcases Nat.eq_zero_or_pos (mg w) with c | c
    · have : vr w = 0 := by unfold vr; rw [c, Nat.zero_mul]
      rw [this] at h
      have := Nat.mul_eq_zero.1 h
      have := Nat.two_pow_pos k
      omega
    · exact c
  have b1 : 2 ^ (N.log2 + k) ≤ mg w * 2 ^ ex w := by
    rw [Nat.pow_add]; exact Nat.le_trans (Nat.mul_le_mul_right _ hlb.1) (Nat.le_of_eq h)
  have b2 : mg w * 2 ^ ex w < 2 ^ (N.log2 + 1 + k) := by
    rw [Nat.pow_add]; exact Nat.lt_of_le_of_lt (Nat.le_of_eq h.symm) (Nat.mul_lt_mul_of_pos_right hlb.2 (Nat.two_pow_pos _))
  have el : max (-1074 + (k : Int) + (N.log2 : Int) - ((52 : Nat) : Int)) (-1074) = -1074 + (ex w : Int) := by
    by_cases c : w < 4503599627370496
    · have e1 : ex w = 0 := by unfold ex; rw [if_pos c]
      have e2 : mg w = w := by unfold mg; rw [if_pos c]
      rw [e1, e2, Nat.pow_zero, Nat.mul_one] at b1
      have : 2 ^ (N.log2 + k) < 2 ^ 52 := by omega
      have := pow_lt_iff.1 this
      omega
    · have e2 : 4503599627370496 ≤ mg w := by unfold mg; rw [if_neg c]; omega
      have c1 : 2 ^ (N.log2 + k) < 2 ^ (53 + ex w) := by
        rw [Nat.pow_add 2 53]
        exact Nat.lt_of_le_of_lt b1 (Nat.mul_lt_mul_of_pos_right hml (Nat.two_pow_pos _))
      have c2 : 2 ^ (52 + ex w) < 2 ^ (N.log2 + 1 + k) := by
        rw [Nat.pow_add 2 52]
        exact Nat.lt_of_le_of_lt (Nat.mul_le_mul_right _ e2) b2
      have := pow_lt_iff.1 c1
      have := pow_lt_iff.1 c2
      omega
  unfold Ieee.Format.nearest
  rw [if_neg h0]
  have e2 : Ieee.double.binade = 4503599627370496 := by decide
  have e3 : Ieee.double.infRung = 9218868437227405312 := by decide
  have e4 : Ieee.double.leastPlace = -1074 := by decide
  have e5 : Ieee.double.fractionBits = 52 := rfl
  simp only [e2, e3, e4, e5]
  rw [el]
  have t1 : (-1074 + (k : Int) - (-1074 + (ex w : Int))).toNat = k - ex w := by omega
  have t2 : (-1074 + (ex w : Int) - (-1074 + (k : Int))).toNat = ex w - k := by omega
  have t3 : (-1074 + (ex w : Int) - -1074).toNat = ex w := by omega
  rw [t1, t2, t3, Nat.shiftLeft_eq]
  have hk : Ieee.Toward.even.cut false (N * 2 ^ (k - ex w)) (ex w - k) = mg w := by
    by_cases c : ex w ≤ k
    · rw [show ex w - k = 0 by omega, even_zero]
      have : N * 2 ^ (k - ex w) * 2 ^ ex w = mg w * 2 ^ ex w := by
        rw [Nat.mul_assoc, ← Nat.pow_add, Nat.sub_add_cancel c]; exact h
      exact Nat.mul_right_cancel (Nat.two_pow_pos _) this
    · rw [show k - ex w = 0 by omega, Nat.pow_zero, Nat.mul_one]
      have : N = mg w * 2 ^ (ex w - k) := by
        apply Nat.mul_right_cancel (Nat.two_pow_pos k)
        rw [Nat.mul_assoc, ← Nat.pow_add, Nat.sub_add_cancel (by omega)]
        exact h
      rw [this]
      exact cut_exact _ _ hm1
  rw [hk, hme]
  have hwd : ∀ x, Ieee.double.word false x = x := fun _ => rfl
  rw [hwd, Nat.min_eq_left (by omega)]
/-- There is a word of it. -/
theorem repr_w (q x : Nat) (hq : q < 9007199254740992) (hx : 52 ≤ x) (hx2 : x ≤ 2045) : ∃ w, w < inf ∧ vr w = q * 2 ^ x := by
  have hi := inf_eq
  by_cases h0 : q = 0
  · exact ⟨0, by omega, by rw [h0, vr_zero, Nat.zero_mul]⟩
  have hm := wn_mid h0 hq
  have hl := log_le h0 hq
  obtain ⟨s, hs⟩ : ∃ s, s = 52 - q.log2 := ⟨_, rfl⟩
  rw [← hs] at hm
  have hs52 : s ≤ 52 := by omega
  have hv : q * 2 ^ s * 2 ^ (x - s) = q * 2 ^ x := by rw [Nat.mul_assoc, ← Nat.pow_add, show s + (x - s) = x by omega]
  revert hm hv
  generalize q * 2 ^ s = K
  intro hm hv
  refine ⟨(x - s + 1) * 4503599627370496 + (K - 4503599627370496), by omega, ?_⟩
  have e1 : mg ((x - s + 1) * 4503599627370496 + (K - 4503599627370496)) = K := by
    unfold mg
    rw [if_neg (by omega)]
    omega
  have e2 : ex ((x - s + 1) * 4503599627370496 + (K - 4503599627370496)) = x - s := by
    unfold ex
    rw [if_neg (by omega)]
    omega
  unfold vr
  rw [e1, e2]
  exact hv
theorem mul_one_w (w : Nat) (hw : w < inf) (h : 52 ≤ ex w) : Ieee.double.mul 4607182418800017408 w = some w := by
  have hi := inf_eq
  unfold Ieee.Format.mul
  rw [read_w w hw, read_w 4607182418800017408 (by omega)]
  have e1 : mg 4607182418800017408 = 4503599627370496 := by decide
  have e2 : ex 4607182418800017408 = 1022 := by decide
  rw [e1, e2]
  show some (Ieee.double.nearest false (4503599627370496 * mg w) (-1074 + ((1022 : Nat) : Int) + (-1074 + (ex w : Int)))) = _
  rw [show (-1074 + ((1022 : Nat) : Int) + (-1074 + (ex w : Int))) = -1074 + ((ex w - 52 : Nat) : Int) by omega]
  rw [nearest_exact _ _ w hw]
  unfold vr
  obtain ⟨k, hk⟩ : ∃ k, ex w = k + 52 := ⟨ex w - 52, by omega⟩
  rw [hk, Nat.add_sub_cancel, Nat.pow_add, Nat.mul_comm 4503599627370496, Nat.mul_assoc, Nat.mul_comm (2 ^ k)]
theorem sub_w (r z : Nat) (hr : r < inf) (hz : z < inf) (hx : 52 ≤ ex z) (h1 : ex z ≤ ex r) (h2 : mg z ≤ mg r * 2 ^ (ex r - ex z)) (h3 : mg r * 2 ^ (ex r - ex z) - mg z < 9007199254740992) :
    ∃ w, w < inf ∧ vr w + vr z = vr r ∧ Ieee.double.sub r z = some w := by
  have hi := inf_eq
  have hxz : ex z ≤ 2045 := by
    unfold ex
    split <;> omega
  obtain ⟨w, hw, hv⟩ := repr_w _ (ex z) h3 hx hxz
  have er : mg r * 2 ^ (ex r - ex z) * 2 ^ ex z = vr r := by
    unfold vr
    rw [Nat.mul_assoc, ← Nat.pow_add, Nat.sub_add_cancel h1]
  refine ⟨w, hw, ?_, ?_⟩
  · rw [hv, ← er]
    unfold vr
    rw [← Nat.add_mul, Nat.sub_add_cancel h2]
  · unfold Ieee.Format.sub
    rw [read_w r hr, read_w z hz]
    revert h2 hv
    have hs : mg r <<< (-1074 + (ex r : Int) - (-1074 + (ex z : Int))).toNat = mg r * 2 ^ (ex r - ex z) := by
      rw [Nat.shiftLeft_eq, show (-1074 + (ex r : Int) - (-1074 + (ex z : Int))).toNat = ex r - ex z by omega]
    have hb : min (-1074 + (ex r : Int)) (-1074 + (ex z : Int)) = -1074 + (ex z : Int) := by omega
    have hz0 : (-1074 + (ex z : Int) - (-1074 + (ex z : Int))).toNat = 0 := by omega
    show _ → _ → Option.map Ieee.double.write (some (Ieee.Datum.number (if (Ieee.signed false (mg r) (-1074 + (ex r : Int) - min (-1074 + (ex r : Int)) (-1074 + (ex z : Int))).toNat + Ieee.signed true (mg z) (-1074 + (ex z : Int) - min (-1074 + (ex r : Int)) (-1074 + (ex z : Int))).toNat) = 0 then (false && true) else decide ((Ieee.signed false (mg r) (-1074 + (ex r : Int) - min (-1074 + (ex r : Int)) (-1074 + (ex z : Int))).toNat + Ieee.signed true (mg z) (-1074 + (ex z : Int) - min (-1074 + (ex r : Int)) (-1074 + (ex z : Int))).toNat) < 0)) (Ieee.signed false (mg r) (-1074 + (ex r : Int) - min (-1074 + (ex r : Int)) (-1074 + (ex z : Int))).toNat + Ieee.signed true (mg z) (-1074 + (ex z : Int) - min (-1074 + (ex r : Int)) (-1074 + (ex z : Int))).toNat).natAbs (min (-1074 + (ex r : Int)) (-1074 + (ex z : Int))))) = some w
    rw [hb, hz0]
    unfold Ieee.signed
    rw [hs, Nat.shiftLeft_zero]
    generalize mg r * 2 ^ (ex r - ex z) = M
    intro h2 hv
    simp only [Bool.false_eq_true, if_false, if_true]
    have et : (M : Int) + -(mg z : Int) = ((M - mg z : Nat) : Int) := by omega
    rw [et]
    have en : (if (((M - mg z : Nat) : Int)) = 0 then (false && true) else decide (((M - mg z : Nat) : Int) < 0)) = false := by
      split
      · rfl
      · exact decide_eq_false (by omega)
    rw [en, Int.natAbs_natCast]
    show some (Ieee.double.nearest false (M - mg z) (-1074 + (ex z : Int))) = some w
    rw [nearest_exact _ _ w hw hv.symm]
/-! ### whole parts -/
theorem integral_w (way : Ieee.Toward) (hway : ∀ N d, way.cut false N d = N / 2 ^ d) (b : Nat) (h : b < inf) : (Ieee.double.read b).integral way = .number false (vr b / 2 ^ 1074) 0 := by
  rw [read_w b h]
  unfold Ieee.Datum.integral
  simp only [hway]
  congr 1
  unfold vr
  by_cases c : 1074 ≤ ex b
  · rw [show (-(-1074 + (ex b : Int))).toNat = 0 by omega, show (-1074 + (ex b : Int)).toNat = ex b - 1074 by omega, Nat.shiftLeft_eq, Nat.pow_zero, Nat.div_one]
    obtain ⟨k, hk⟩ : ∃ k, ex b = k + 1074 := ⟨ex b - 1074, by omega⟩
    rw [hk, Nat.add_sub_cancel, Nat.pow_add, ← Nat.mul_assoc, Nat.mul_div_cancel _ (Nat.two_pow_pos 1074)]
  · rw [show (-1074 + (ex b : Int)).toNat = 0 by omega, show (-(-1074 + (ex b : Int))).toNat = 1074 - ex b by omega, Nat.shiftLeft_zero]
    obtain ⟨k, hk⟩ : ∃ k, 1074 = k + ex b := ⟨1074 - ex b, by omega⟩
    rw [hk, Nat.add_sub_cancel, Nat.pow_add, Nat.mul_div_mul_right _ _ (Nat.two_pow_pos _)]
theorem floor_w (b : Nat) (h : b < inf) : ∃ w, w < inf ∧ vr w = vr b / 2 ^ 1074 * 2 ^ 1074 ∧ integral .down b = some (.flt w) := by
  have hi := inf_eq
  have hex : ∃ w, w < inf ∧ vr w = vr b / 2 ^ 1074 * 2 ^ 1074 := by
    by_cases c : 1074 ≤ ex b
    · refine ⟨b, h, ?_⟩
      unfold vr
      obtain ⟨k, hk⟩ : ∃ k, ex b = k + 1074 := ⟨ex b - 1074, by omega⟩
      rw [hk, Nat.pow_add, ← Nat.mul_assoc, Nat.mul_div_cancel _ (Nat.two_pow_pos 1074)]
    · refine repr_w _ 1074 ?_ (by omega) (by omega)
      have hm := mg_lt b
      unfold vr
      obtain ⟨k, hk⟩ : ∃ k, 1074 = k + ex b := ⟨1074 - ex b, by omega⟩
      rw [hk, Nat.pow_add, Nat.mul_div_mul_right _ _ (Nat.two_pow_pos _)]
      exact Nat.lt_of_le_of_lt (Nat.div_le_self _ _) hm
  obtain ⟨w, hw, hv⟩ := hex
  refine ⟨w, hw, hv, ?_⟩
  have h1 := integral_w .down (fun _ _ => cut_down) b h
  have key : ∀ d, FloatKind.f64.decode b = d → (∀ s t, d ≠ .nan s t) → integral .down b = some (.flt (FloatKind.f64.encode (d.integral .down))) := by
    intro d hd hn
    unfold integral
    rw [hd]
    cases d with
    | nan s t => exact absurd rfl (hn s t)
    | _ => rfl
  rw [key (Ieee.double.read b) rfl (by rw [read_w b h]; intro s t hc; cases hc), h1]
  show some (V.flt (Ieee.double.nearest false (vr b / 2 ^ 1074) 0)) = _
  rw [show (0 : Int) = -1074 + ((1074 : Nat) : Int) by omega, nearest_exact _ _ w hw hv.symm]
theorem toInt_w (b R : Nat) (h : b < inf) (hv : vr b = R * 2 ^ 1074) : (FloatKind.f64.decode b).toInt .zero = some (R : Int) := by
  show (Ieee.double.read b).toInt .zero = _
  unfold Ieee.Datum.toInt
  rw [integral_w .zero (fun _ _ => cut_zero) b h, hv, Nat.mul_div_cancel _ (Nat.two_pow_pos 1074)]
  show some (Ieee.signed false R 0) = _
  unfold Ieee.signed
  simp
theorem wn_w (n : Nat) (h : n < 9007199254740992) : wn n < inf ∧ vr (wn n) = n * 2 ^ 1074 := by
  obtain ⟨w, hw, hv⟩ := repr_w n 1074 h (by omega) (by omega)
  have h1 := nearest_exact n 1074 w hw hv.symm
  rw [show -1074 + ((1074 : Nat) : Int) = (0 : Int) by omega, nearest_eq n (by omega)] at h1
  rw [h1]
  exact ⟨hw, hv⟩
end Go.Proofs.Ytgcahipcbidojaa
