/- Layer 22: is a candidate great; its view (no claim; lemmas). -/
import Derived.Test.YtccdkkgimaajbaaDoorK22q
set_option linter.unusedSimpArgs false
set_option linter.unusedVariables false
namespace Go.Proofs.YtccdkkgimaajbaaDoor
open Go Go.Vm

section
variable {v x0 : V} {lv : Nat → V} {x4 : V} {R : Nat → List Rt} {co : List V} (c : Cn v x0 lv x4 R co)
include c
theorem Great_l0 (i : Nat) (hi : i ≤ 3) :
    evCI pg (.loop ir_undertowref20_Greatl0) ⟨[.undef, .lp 0 0, .undef, .int .i64 (i : Int), .undef, .undef, .undef, .undef, .undef, .undef], ⟨[[x0, lv 0, lv 1, lv 2, x4]], [], []⟩⟩ =
      some (if (List.range' i (3 - i)).any (fun h => decide (60 < (R h).length)) = true then (.ret, ⟨[.undef, .undef, .bool true, .undef, .undef, .undef, .undef, .undef, .undef, .undef], ⟨[[]], [], []⟩⟩)
        else (.exit 0, ⟨[.undef, .lp 0 0, .undef, .int .i64 3, .undef, .undef, .bool false, .undef, .undef, .undef], ⟨[[x0, lv 0, lv 1, lv 2, x4]], [], []⟩⟩)) := by
  obtain ⟨B, hB⟩ : ∃ B, B = Vm.C.loop ir_undertowref20_Greatl0 := ⟨_, rfl⟩
  by_cases h : i < 3
  · have e3 := succ_i64 h (by omega)
    have ih := Great_l0 (i + 1) (by omega)
    obtain ⟨l1, l2, l3⟩ := c.li i h
    have hrl : (rows (lv i)).length = (R i).length := by rw [l1.rows, rwR_len]
    have his := l1.is
    have hd : List.range' i (3 - i) = i :: List.range' (i + 1) (3 - (i + 1)) := by
      have : 3 - i = (3 - (i + 1)) + 1 := by omega
      rw [this, List.range'_succ]
    rw [hd, List.any_cons]
    rw [← hB] at ih
    rw [← hB, s_loop_at hB]
    by_cases q : 60 < (R i).length
    · have q' : (60 : Int) < ((R i).length : Int) := by omega
      rw [decide_eq_true q, Bool.true_or, if_pos rfl]
      rcases lt3 h with rfl | rfl | rfl <;> simp [ir_undertowref20_Greatl0, go_sem, his, hrl, q, q']
    · have q' : ¬ (60 : Int) < ((R i).length : Int) := by omega
      have q2 : ((R i).length : Int) ≤ 60 := by omega
      rw [decide_eq_false q, Bool.false_or, ← ih]
      rcases lt3 h with rfl | rfl | rfl <;> simp at e3 <;> simp [ir_undertowref20_Greatl0, go_sem, his, hrl, q, q', q2, e3]
  · obtain rfl : i = 3 := by omega
    rw [← hB, s_loop_at hB]
    simp [ir_undertowref20_Greatl0, go_sem]
termination_by 3 - i
theorem Great_l1 (i : Nat) (hi : i ≤ co.length) :
    ∃ b, evCI pg (.loop ir_undertowref20_Greatl1) ⟨[.undef, .lp 0 0, .undef, .undef, .int .i64 (i : Int), .undef, .undef, .undef, .undef, .undef], ⟨[[x0, lv 0, lv 1, lv 2, x4]], [], []⟩⟩ =
      some (if b = true then (.ret, ⟨[.undef, .undef, .bool true, .undef, .undef, .undef, .undef, .undef, .undef, .undef], ⟨[[]], [], []⟩⟩)
        else (.exit 2, ⟨[.undef, .lp 0 0, .undef, .undef, .int .i64 (co.length : Int), .undef, .undef, .undef, .bool false, .undef], ⟨[[x0, lv 0, lv 1, lv 2, x4]], [], []⟩⟩)) := by
  obtain ⟨B, hB⟩ : ∃ B, B = Vm.C.loop ir_undertowref20_Greatl1 := ⟨_, rfl⟩
  have hml : maxLen ≤ 9223372036854775807 := by decide
  have hcl := c.cl
  have h4 := c.co4
  have hrl : (rows x4).length = co.length := by rw [h4.rows, slR_len]
  have h4i := h4.is
  by_cases h : i < co.length
  · have e3 := succ_i64 h (by omega)
    obtain ⟨b, ih⟩ := Great_l1 (i + 1) (by omega)
    have e1 := fun m => h4.ia (sz := 1) m .i64 (i := i) (by rw [slR_len]; exact h) (slR_sz _ _ (List.getElem_mem _))
    simp only [slR_el] at e1
    have hs := c.cs co[i] (List.getElem_mem _)
    rw [← hB] at ih
    generalize co[i] = y at *
    by_cases q : 100 < (rows y).length
    · have q' : (100 : Int) < ((rows y).length : Int) := by omega
      refine ⟨true, ?_⟩
      rw [← hB, s_loop_at hB, if_pos rfl]
      simp [ir_undertowref20_Greatl1, go_sem, h, h4i, hrl, e1, hs, q, q']
    · have q' : ¬ (100 : Int) < ((rows y).length : Int) := by omega
      have q2 : ((rows y).length : Int) ≤ 100 := by omega
      refine ⟨b, ?_⟩
      rw [← hB, s_loop_at hB, ← ih]
      simp [ir_undertowref20_Greatl1, go_sem, h, h4i, hrl, e1, hs, e3, q, q', q2, -Int.natCast_add]
  · obtain rfl : i = co.length := by omega
    refine ⟨false, ?_⟩
    rw [← hB, s_loop_at hB, if_neg (by simp)]
    simp [ir_undertowref20_Greatl1, go_sem, h4i, hrl]
termination_by co.length - i
theorem Great_ok : ∃ g, evI pg .val n_undertowref20_Great [v] [] = some (.bool g, []) ∧ (g = false → ∀ h, h < 3 → (R h).length ≤ 60) := by
  have l0 := Great_l0 c 0 (by omega)
  obtain ⟨b, l1⟩ := Great_l1 c 0 (by omega)
  rw [Int.natCast_zero] at l0 l1
  have i0 := c.i0
  have i4 := c.co4.is
  have j0 := (c.li 0 (by omega)).1.is
  have j1 := (c.li 1 (by omega)).1.is
  have j2 := (c.li 2 (by omega)).1.is
  rw [c.eq]
  by_cases q0 : 200 < (rows x0).length
  · have q0' : (200 : Int) < ((rows x0).length : Int) := by omega
    refine ⟨true, ?_, fun h => by cases h⟩
    rw [s_fn fn_undertowref20_Great]
    simp [ir_undertowref20_Great, go_sem, i0, i4, j0, j1, j2, q0, q0']
  · have q0' : ¬ (200 : Int) < ((rows x0).length : Int) := by omega
    have q02 : ((rows x0).length : Int) ≤ 200 := by omega
    by_cases q1 : 300 < (rows x4).length
    · have q1' : (300 : Int) < ((rows x4).length : Int) := by omega
      refine ⟨true, ?_, fun h => by cases h⟩
      rw [s_fn fn_undertowref20_Great]
      simp [ir_undertowref20_Great, go_sem, i0, i4, j0, j1, j2, q0, q0', q02, q1, q1']
    · have q1' : ¬ (300 : Int) < ((rows x4).length : Int) := by omega
      have q12 : ((rows x4).length : Int) ≤ 300 := by omega
      by_cases q2 : (List.range' 0 (3 - 0)).any (fun h => decide (60 < (R h).length)) = true
      · rw [if_pos q2] at l0
        refine ⟨true, ?_, fun h => by cases h⟩
        rw [s_fn fn_undertowref20_Great]
        simp [ir_undertowref20_Great, go_sem, i0, i4, j0, j1, j2, q0, q0', q02, q1, q1', q12, l0]
      · rw [if_neg q2] at l0
        cases b with
        | true =>
          rw [if_pos rfl] at l1
          refine ⟨true, ?_, fun h => by cases h⟩
          rw [s_fn fn_undertowref20_Great]
          simp [ir_undertowref20_Great, go_sem, i0, i4, j0, j1, j2, q0, q0', q02, q1, q1', q12, l0, l1]
        | false =>
          rw [if_neg (by simp)] at l1
          refine ⟨false, ?_, fun _ h hh => ?_⟩
          · rw [s_fn fn_undertowref20_Great]
            simp [ir_undertowref20_Great, go_sem, i0, i4, j0, j1, j2, q0, q0', q02, q1, q1', q12, l0, l1]
          · apply Nat.le_of_not_lt
            intro hc
            apply q2
            rw [List.any_eq_true]
            exact ⟨h, by rw [List.mem_range']; exact ⟨h, by omega, by omega⟩, by simp only [decide_eq_true_eq]; exact hc⟩
end
def insR (R : Nat → List Rt) (h : Nat) : List In := (R h).map Rt.ins
def fA (R : Nat → List Rt) (h : Nat) : Nat → Nat := aW (hA (insR R h)) (R h).length
def fD (R : Nat → List Rt) (h : Nat) : Nat → Nat := aW (hD (insR R h)) (R h).length
def fC (R : Nat → List Rt) (h : Nat) : Nat → Nat := aW (cAt (insR R h)) (R h).length
theorem pick3 {P : Nat → V → Prop} (h : ∀ k, k < 3 → ∃ v, P k v) : ∃ f : Nat → V, ∀ k, k < 3 → P k (f k) := by
  obtain ⟨a, ha⟩ := h 0 (by omega)
  obtain ⟨b, hb⟩ := h 1 (by omega)
  obtain ⟨c, hc⟩ := h 2 (by omega)
  refine ⟨fun k => if k = 0 then a else if k = 1 then b else c, fun k hk => ?_⟩
  rcases lt3 hk with rfl | rfl | rfl
  · exact ha
  · exact hb
  · exact hc
/-- A candidate's view. -/
theorem view_ok {lv : Nat → V} {R : Nat → List Rt} (w : Cd lv R) {x0 x4 : V} (i0 : isS x0 = true) (i4 : isS x4 = true) (ht : (R 0).length + (R 1).length + (R 2).length ≤ 512) :
    ∃ av dv cv, evI pg .val n_ppo_look [.agg [x0, lv 0, lv 1, lv 2, x4]] [] = some (.tup [.ip false (vwC (ils (evR (evs R))) lv av dv cv) 0, .bool true], []) ∧ Vw (ils (evR (evs R))) lv av dv cv (evs R) R (fA R) (fD R) (fC R) := by
  have hlen : ∀ h, (insR R h).length = (R h).length := fun h => by simp [insR]
  obtain ⟨av, ha⟩ := pick3 (P := fun h rv => evI pg .val n_deps_Address [lv h] [] = some (.ip false [rv] 0, []) ∧ RelV rv (R h).length (fA R h)) (fun h hh => by
    obtain ⟨l1, l2, _⟩ := w.li h hh
    have := Address_okG (l := insR R h) l1 rfl (by rw [hlen]; exact l2)
    rw [hlen] at this
    exact this)
  obtain ⟨dv, hd⟩ := pick3 (P := fun h rv => evI pg .val n_deps_Data [lv h] [] = some (.ip false [rv] 0, []) ∧ RelV rv (R h).length (fD R h)) (fun h hh => by
    obtain ⟨l1, l2, _⟩ := w.li h hh
    have := Data_okG (l := insR R h) l1 rfl (by rw [hlen]; exact l2)
    rw [hlen] at this
    exact this)
  obtain ⟨cv, hc⟩ := pick3 (P := fun h rv => evI pg .val n_deps_Course [lv h] [] = some (.ip false [rv] 0, []) ∧ RelV rv (R h).length (fC R h)) (fun h hh => by
    obtain ⟨l1, l2, _⟩ := w.li h hh
    have := Course_okG (l := insR R h) l1 rfl (by rw [hlen]; exact l2)
    rw [hlen] at this
    exact this)
  have hE := Events_ok w i0 i4
  have hel := evs_len R
  refine ⟨av, dv, cv, look_at w (fun h hh => (ha h hh).1) (fun h hh => (hd h hh).1) (fun h hh => (hc h hh).1) (ils (evR (evs R))) (Sl.ils _).is i0 i4 ht hE, ⟨.ils _, fun h hh => ⟨(w.li h hh).1, (w.li h hh).2.1⟩, fun h hh => (ha h hh).2, fun h hh => (hd h hh).2, fun h hh => (hc h hh).2, evs_ok, by omega⟩⟩
end Go.Proofs.YtccdkkgimaajbaaDoor
