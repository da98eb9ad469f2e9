/- Layer 20: is a candidate great (no claim; lemmas). -/
import Derived.Test.YtlkcfhpklibnaaaK20q
set_option linter.unusedSimpArgs false
set_option linter.unusedVariables false
namespace Go.Proofs.Ytlkcfhpklibnaaa
open Go Go.Vm

section
variable {v x0 : V} {lv : Nat → V} {x4 : V} {R : Nat → List Rt} {img : List Nat} {cv : List V} {co : List (List Int)} (c : Cn v x0 lv x4 R img cv co)
include c
theorem Great_l0 (i : Nat) (hi : i ≤ 3) :
    evCI pg (.loop ir_undertowref20_Greatl0) ⟨[.undef, .lp 0 0, .undef, .int .i64 (i : Int), .undef, .undef, .undef, .undef, .undef, .undef], ⟨[[x0, lv 0, lv 1, lv 2, x4]], [], []⟩⟩ =
      some (if (List.range' i (3 - i)).any (fun h => decide (60 < (R h).length)) = true then (.ret, ⟨[.undef, .undef, .bool true, .undef, .undef, .undef, .undef, .undef, .undef, .undef], ⟨[[]], [], []⟩⟩)
        else (.exit 0, ⟨[.undef, .lp 0 0, .undef, .int .i64 3, .undef, .undef, .bool false, .undef, .undef, .undef], ⟨[[x0, lv 0, lv 1, lv 2, x4]], [], []⟩⟩)) := by
  obtain ⟨B, hB⟩ : ∃ B, B = Vm.C.loop ir_undertowref20_Greatl0 := ⟨_, rfl⟩
  by_cases h : i < 3
  · have e3 := succ_i64 h (by omega)
    have ih := Great_l0 (i + 1) (by omega)
    obtain ⟨l1, l2, l3⟩ := c.li i h
    have hrl : (rows (lv i)).length = (R i).length := by rw [l1.rows, rwR_len]
    have his := l1.is
    have hd : List.range' i (3 - i) = i :: List.range' (i + 1) (3 - (i + 1)) := by
      have : 3 - i = (3 - (i + 1)) + 1 := by omega
      rw [this, List.range'_succ]
    rw [hd, List.any_cons]
    rw [← hB] at ih
    rw [← hB, s_loop_at hB]
    by_cases q : 60 < (R i).length
    · have q' : (60 : Int) < ((R i).length : Int) := by omega
      rw [decide_eq_true q, Bool.true_or, if_pos rfl]
      rcases lt3 h with rfl | rfl | rfl <;> simp [ir_undertowref20_Greatl0, go_sem, his, hrl, q, q']
    · have q' : ¬ (60 : Int) < ((R i).length : Int) := by omega
      have q2 : ((R i).length : Int) ≤ 60 := by omega
      rw [decide_eq_false q, Bool.false_or, ← ih]
      rcases lt3 h with rfl | rfl | rfl <;> simp at e3 <;> simp [ir_undertowref20_Greatl0, go_sem, his, hrl, q, q', q2, e3]
  · obtain rfl : i = 3 := by omega
    rw [← hB, s_loop_at hB]
    simp [ir_undertowref20_Greatl0, go_sem]
termination_by 3 - i
theorem Great_l1 (i : Nat) (hi : i ≤ cv.length) :
    ∃ b, (b = false → ∀ (j : Nat) (l : List Int), i ≤ j → co[j]? = some l → l.length ≤ 100) ∧ evCI pg (.loop ir_undertowref20_Greatl1) ⟨[.undef, .lp 0 0, .undef, .undef, .int .i64 (i : Int), .undef, .undef, .undef, .undef, .undef], ⟨[[x0, lv 0, lv 1, lv 2, x4]], [], []⟩⟩ =
      some (if b = true then (.ret, ⟨[.undef, .undef, .bool true, .undef, .undef, .undef, .undef, .undef, .undef, .undef], ⟨[[]], [], []⟩⟩)
        else (.exit 2, ⟨[.undef, .lp 0 0, .undef, .undef, .int .i64 (cv.length : Int), .undef, .undef, .undef, .bool false, .undef], ⟨[[x0, lv 0, lv 1, lv 2, x4]], [], []⟩⟩)) := by
  obtain ⟨B, hB⟩ : ∃ B, B = Vm.C.loop ir_undertowref20_Greatl1 := ⟨_, rfl⟩
  have hml : maxLen ≤ 9223372036854775807 := by decide
  have hcl := c.cl
  have h4 := c.co4
  have hrl : (rows x4).length = cv.length := by rw [h4.rows, slR_len]
  have h4i := h4.is
  by_cases h : i < cv.length
  · have e3 := succ_i64 h (by omega)
    obtain ⟨b, hb, ih⟩ := Great_l1 (i + 1) (by omega)
    have e1 := fun m => h4.ia (sz := 1) m .i64 (i := i) (by rw [slR_len]; exact h) (slR_sz _ _ (List.getElem_mem _))
    simp only [slR_el] at e1
    have hco : i < co.length := by rw [c.cs.1]; exact h
    have hsl := c.cs.2 i cv[i] co[i] (List.getElem?_eq_getElem h) (List.getElem?_eq_getElem hco)
    have hs : isS cv[i] = true := hsl.is
    have hsr : (rows cv[i]).length = (co[i]).length := by rw [hsl.rows]; simp [iI]
    clear hsl
    rw [← hB] at ih
    generalize cv[i] = y at *
    by_cases q : 100 < (rows y).length
    · have q' : (100 : Int) < ((rows y).length : Int) := by omega
      refine ⟨true, (fun h => by cases h), ?_⟩
      rw [← hB, s_loop_at hB, if_pos rfl]
      simp [ir_undertowref20_Greatl1, go_sem, h, h4i, hrl, e1, hs, q, q']
    · have q' : ¬ (100 : Int) < ((rows y).length : Int) := by omega
      have q2 : ((rows y).length : Int) ≤ 100 := by omega
      refine ⟨b, fun hb0 j l hj hl => ?_, ?_⟩
      · rcases Nat.eq_or_lt_of_le hj with rfl | hj
        · rw [List.getElem?_eq_getElem hco] at hl
          cases hl
          omega
        · exact hb hb0 j l hj hl
      · rw [← hB, s_loop_at hB, ← ih]
        simp [ir_undertowref20_Greatl1, go_sem, h, h4i, hrl, e1, hs, e3, q, q', q2, -Int.natCast_add]
  · obtain rfl : i = cv.length := by omega
    refine ⟨false, fun _ j l hj hl => ?_, ?_⟩
    · have := (List.getElem?_eq_some_iff.1 hl).1
      have := c.cs.1
      omega
    rw [← hB, s_loop_at hB, if_neg (by simp)]
    simp [ir_undertowref20_Greatl1, go_sem, h4i, hrl]
termination_by cv.length - i
theorem Great_ok : ∃ g, evI pg .val n_undertowref20_Great [v] [] = some (.bool g, []) ∧ (g = false → (∀ h, h < 3 → (R h).length ≤ 60) ∧ img.length ≤ 200 ∧ cv.length ≤ 300 ∧ ∀ l ∈ co, l.length ≤ 100) := by
  have l0 := Great_l0 c 0 (by omega)
  obtain ⟨b, hb, l1⟩ := Great_l1 c 0 (by omega)
  have hxi : (rows x0).length = img.length := by rw [c.im.rows, byV_len]
  have hxc : (rows x4).length = cv.length := by rw [c.co4.rows, slR_len]
  rw [Int.natCast_zero] at l0 l1
  have i0 := c.im.is
  have i4 := c.co4.is
  have j0 := (c.li 0 (by omega)).1.is
  have j1 := (c.li 1 (by omega)).1.is
  have j2 := (c.li 2 (by omega)).1.is
  rw [c.eq]
  by_cases q0 : 200 < (rows x0).length
  · have q0' : (200 : Int) < ((rows x0).length : Int) := by omega
    refine ⟨true, ?_, fun h => by cases h⟩
    rw [s_fn fn_undertowref20_Great]
    simp [ir_undertowref20_Great, go_sem, i0, i4, j0, j1, j2, q0, q0']
  · have q0' : ¬ (200 : Int) < ((rows x0).length : Int) := by omega
    have q02 : ((rows x0).length : Int) ≤ 200 := by omega
    by_cases q1 : 300 < (rows x4).length
    · have q1' : (300 : Int) < ((rows x4).length : Int) := by omega
      refine ⟨true, ?_, fun h => by cases h⟩
      rw [s_fn fn_undertowref20_Great]
      simp [ir_undertowref20_Great, go_sem, i0, i4, j0, j1, j2, q0, q0', q02, q1, q1']
    · have q1' : ¬ (300 : Int) < ((rows x4).length : Int) := by omega
      have q12 : ((rows x4).length : Int) ≤ 300 := by omega
      by_cases q2 : (List.range' 0 (3 - 0)).any (fun h => decide (60 < (R h).length)) = true
      · rw [if_pos q2] at l0
        refine ⟨true, ?_, fun h => by cases h⟩
        rw [s_fn fn_undertowref20_Great]
        simp [ir_undertowref20_Great, go_sem, i0, i4, j0, j1, j2, q0, q0', q02, q1, q1', q12, l0]
      · rw [if_neg q2] at l0
        cases b with
        | true =>
          rw [if_pos rfl] at l1
          refine ⟨true, ?_, fun h => by cases h⟩
          rw [s_fn fn_undertowref20_Great]
          simp [ir_undertowref20_Great, go_sem, i0, i4, j0, j1, j2, q0, q0', q02, q1, q1', q12, l0, l1]
        | false =>
          rw [if_neg (by simp)] at l1
          refine ⟨false, ?_, fun _ => ⟨fun h hh => ?_, by omega, by omega, fun l hl => ?_⟩⟩
          · rw [s_fn fn_undertowref20_Great]
            simp [ir_undertowref20_Great, go_sem, i0, i4, j0, j1, j2, q0, q0', q02, q1, q1', q12, l0, l1]
          · apply Nat.le_of_not_lt
            intro hc
            apply q2
            rw [List.any_eq_true]
            exact ⟨h, by rw [List.mem_range']; exact ⟨h, by omega, by omega⟩, by simp only [decide_eq_true_eq]; exact hc⟩
          · obtain ⟨j, hj⟩ := List.getElem?_of_mem hl
            exact hb rfl j l (Nat.zero_le _) hj
end
end Go.Proofs.Ytlkcfhpklibnaaa
