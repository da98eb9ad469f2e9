/- Layer 3: which one a number chooses, by the program and by the document (no claim; lemmas). -/
import Derived.Test.YtgcahipcbidojaaK03n
import Derived.Test.YtgcahipcbidojaaK03c
set_option linter.unusedSimpArgs false
set_option linter.unusedVariables false
namespace Go.Proofs.Ytgcahipcbidojaa
open Go Go.Vm

theorem vr_shift {y : Nat} (h : Nrm y) (d : Nat) (hd : y / 4503599627370496 + d ≤ 2046) : Nrm (y + d * 4503599627370496) ∧ vr (y + d * 4503599627370496) = vr y * 2 ^ d ∧ ex (y + d * 4503599627370496) = ex y + d ∧ mg (y + d * 4503599627370496) = mg y := by
  have h1 := h.lo
  have hi := inf_eq
  have hW : Nrm (y + d * 4503599627370496) := ⟨by omega, by omega⟩
  have e1 := h.ex_
  have e2 := hW.ex_
  have m1 := h.mg_
  have m2 := hW.mg_
  have ee : ex (y + d * 4503599627370496) = ex y + d := by omega
  have em : mg (y + d * 4503599627370496) = mg y := by omega
  refine ⟨hW, ?_, ee, em⟩
  unfold vr
  rw [ee, em, Nat.pow_add, Nat.mul_assoc]
theorem mod_loop (xw y n X : Nat) (hX : 0 < X) (hy : Nrm y) (hv : vr y = n * X) (hn : 1 ≤ n) (r R : Nat) (hr : r < inf) (hR : vr r = R * X) (c : V) :
    ∃ w, w < inf ∧ vr w = (R % n) * X ∧ evCI pg (.loop ir_math_modl0) ⟨[.flt xw, .flt y, .undef, .flt (y % 4503599627370496 + 1022 * 4503599627370496), .int .i64 ((y / 4503599627370496 : Nat) - 1022 : Int), .flt r, .undef, .undef, .undef, c, .undef, .undef, .undef], ⟨[], [], []⟩⟩ =
      some (.exit 0, ⟨[.flt xw, .flt y, .undef, .flt (y % 4503599627370496 + 1022 * 4503599627370496), .int .i64 ((y / 4503599627370496 : Nat) - 1022 : Int), .flt w, .undef, .undef, .undef, .undef, .bool false, .undef, .undef], ⟨[], [], []⟩⟩) := by
  obtain ⟨B, hB⟩ : ∃ B, B = C.loop ir_math_modl0 := ⟨_, rfl⟩
  have hyl := hy.lo
  have hyh := hy.hi
  have hi := inf_eq
  by_cases h : y ≤ r
  · have hrn : Nrm r := ⟨by omega, hr⟩
    have og : (Ieee.double.order r y == some .gt || Ieee.double.order r y == some .eq) = true := by
      rw [gt_w hr hyh, eq_w hr hyh]
      by_cases e : r = y
      · simp [e]
      · rw [decide_eq_true (show y < r by omega)]; rfl
    have hb := hrn.bounds
    have hyb := hy.bounds
    have hF := Frexp_ok hrn
    have mr := Nat.mod_lt r (show 0 < 4503599627370496 by omega)
    have my := Nat.mod_lt y (show 0 < 4503599627370496 by omega)
    have ol := lt_w (a := r % 4503599627370496 + 1022 * 4503599627370496) (b := y % 4503599627370496 + 1022 * 4503599627370496) (by omega) (by omega)
    have hrx := hrn.ex_
    have hyx := hy.ex_
    have hrm := hrn.mg_
    have hym := hy.mg_
    -- what is taken off
    have step : ∀ d, y / 4503599627370496 + d = r / 4503599627370496 - (if r % 4503599627370496 < y % 4503599627370496 then 1 else 0) → y / 4503599627370496 + d ≤ r / 4503599627370496 →
        ∃ w, w < inf ∧ w < r ∧ vr w = (R - n * 2 ^ d) * X ∧ n * 2 ^ d ≤ R ∧ Ieee.double.sub r (y + d * 4503599627370496) = some w := by
      intro d hd hd2
      obtain ⟨hz, zv, zx, zm⟩ := vr_shift hy d (by omega)
      have hq : ex (y + d * 4503599627370496) ≤ ex r ∧ mg (y + d * 4503599627370496) ≤ mg r * 2 ^ (ex r - ex (y + d * 4503599627370496)) ∧ mg r * 2 ^ (ex r - ex (y + d * 4503599627370496)) - mg (y + d * 4503599627370496) < 9007199254740992 := by
        rw [zx, zm]
        by_cases c : r % 4503599627370496 < y % 4503599627370496
        · rw [if_pos c] at hd
          have e1 : ex r - (ex y + d) = 1 := by omega
          rw [e1]
          omega
        · rw [if_neg c] at hd
          have e1 : ex r - (ex y + d) = 0 := by omega
          rw [e1]
          omega
      obtain ⟨w, hw, hwv, hws⟩ := sub_w r (y + d * 4503599627370496) hr hz.hi (by rw [zx]; omega) hq.1 hq.2.1 hq.2.2
      rw [zv, hv, hR, Nat.mul_right_comm] at hwv
      have hle : n * 2 ^ d ≤ R := Nat.le_of_mul_le_mul_right (show n * 2 ^ d * X ≤ R * X by omega) hX
      refine ⟨w, hw, ?_, ?_, hle, hws⟩
      · have hpos : 0 < n * 2 ^ d * X := Nat.mul_pos (Nat.mul_pos hn (Nat.two_pow_pos _)) hX
        apply (vr_lt_iff w r).1
        rw [hR]; omega
      · rw [Nat.sub_mul]; omega
    have ei : IntKind.i64.wrap ((r / 4503599627370496 : Nat) - 1022 - 1 : Int) = ((r / 4503599627370496 : Nat) - 1023 : Int) := by rw [wrap_i64 (by omega) (by omega)]; omega
    by_cases c' : r % 4503599627370496 < y % 4503599627370496
    · rw [decide_eq_true (by omega)] at ol
      obtain ⟨d, hd⟩ : ∃ d, y / 4503599627370496 + d = r / 4503599627370496 - 1 := ⟨r / 4503599627370496 - 1 - y / 4503599627370496, by omega⟩
      obtain ⟨w, hw, hwr, hwv, hle, hws⟩ := step d (by rw [if_pos c']; exact hd) (by omega)
      obtain ⟨w', q1, q2, ih⟩ := mod_loop xw y n X hX hy hv hn w (R - n * 2 ^ d) hw hwv .undef
      refine ⟨w', q1, by rw [q2, Nat.sub_mul_mod hle], ?_⟩
      have ed : IntKind.i64.wrap (((r / 4503599627370496 : Nat) - 1023 : Int) - ((y / 4503599627370496 : Nat) - 1022 : Int)) = (d : Int) := by rw [wrap_i64 (by omega) (by omega)]; omega
      have hL := Ldexp_ok hy d (by omega)
      rw [← hB] at ih
      rw [← hB, s_loop_at hB]
      simp [ir_math_modl0, go_sem, og, hF, ol, ei, ed, hL, hws, ih, -Nat.reduceMul, -Int.natCast_add, -Int.natCast_mul, -Int.natCast_ediv]
    · rw [decide_eq_false (by omega)] at ol
      obtain ⟨d, hd⟩ : ∃ d, y / 4503599627370496 + d = r / 4503599627370496 := ⟨r / 4503599627370496 - y / 4503599627370496, by omega⟩
      obtain ⟨w, hw, hwr, hwv, hle, hws⟩ := step d (by rw [if_neg c']; omega) (by omega)
      obtain ⟨w', q1, q2, ih⟩ := mod_loop xw y n X hX hy hv hn w (R - n * 2 ^ d) hw hwv .undef
      refine ⟨w', q1, by rw [q2, Nat.sub_mul_mod hle], ?_⟩
      have ed : IntKind.i64.wrap (((r / 4503599627370496 : Nat) - 1022 : Int) - ((y / 4503599627370496 : Nat) - 1022 : Int)) = (d : Int) := by rw [wrap_i64 (by omega) (by omega)]; omega
      have hL := Ldexp_ok hy d (by omega)
      rw [← hB] at ih
      rw [← hB, s_loop_at hB]
      simp [ir_math_modl0, go_sem, og, hF, ol, ei, ed, hL, hws, ih, -Nat.reduceMul, -Int.natCast_add, -Int.natCast_mul, -Int.natCast_ediv]
  · have og : (Ieee.double.order r y == some .gt || Ieee.double.order r y == some .eq) = false := by
      rw [gt_w hr hyh, eq_w hr hyh, decide_eq_false (by omega), decide_eq_false (by omega)]
      rfl
    have hlt : R < n := by
      have := vr_lt (show r < y by omega)
      rw [hR, hv] at this
      exact Nat.lt_of_mul_lt_mul_right this
    refine ⟨r, hr, by rw [Nat.mod_eq_of_lt hlt]; exact hR, ?_⟩
    rw [← hB, s_loop_at hB]
    simp [ir_math_modl0, go_sem, og, -Nat.reduceMul, -Int.natCast_add, -Int.natCast_mul, -Int.natCast_ediv]
termination_by r
theorem Mod_ok (x y n X : Nat) (hX : 0 < X) (hy : Nrm y) (hv : vr y = n * X) (hn : 1 ≤ n) (R : Nat) (hx : x < inf) (hR : vr x = R * X) :
    ∃ w, w < inf ∧ vr w = (R % n) * X ∧ evI pg .val n_math_Mod [.flt x, .flt y] [] = some (.flt w, []) := by
  obtain ⟨w, h1, h2, h3⟩ := mod_loop x y n X hX hy hv hn x R hx hR (.bool false)
  have hi := inf_eq
  have hyl := hy.lo
  have hF := Frexp_ok hy
  have o0 := eq_w hy.hi (show 0 < inf by omega)
  rw [decide_eq_false (by omega)] at o0
  have o1 := lt_w hx (show 0 < inf by omega)
  rw [decide_eq_false (by omega)] at o1
  have i1 := inf_w hx
  have i2 := nan_w hx
  have i3 := nan_w hy.hi
  have ia := abs_w hy.hi
  have key : evI pg .val n_math_mod [.flt x, .flt y] [] = some (.flt w, []) := by
    rw [s_fn fn_math_mod]
    simp [ir_math_mod, go_sem, o0, o1, i1, i2, i3, ia, hF, h3, -Nat.reduceMul, -Int.natCast_add, -Int.natCast_mul, -Int.natCast_ediv]
  refine ⟨w, h1, h2, ?_⟩
  rw [s_fn fn_math_Mod]
  simp [ir_math_Mod, go_sem, key]
theorem FloorW_ok (b : Nat) (h : b < inf) : ∃ w, w < inf ∧ vr w = vr b / 2 ^ 1074 * 2 ^ 1074 ∧ evI pg .val n_math_Floor [.flt b] [] = some (.flt w, []) := by
  obtain ⟨w, h1, h2, h3⟩ := floor_w b h
  refine ⟨w, h1, h2, ?_⟩
  rw [s_fn fn_math_Floor]
  simp [ir_math_Floor, go_sem, h3]
end Go.Proofs.Ytgcahipcbidojaa
