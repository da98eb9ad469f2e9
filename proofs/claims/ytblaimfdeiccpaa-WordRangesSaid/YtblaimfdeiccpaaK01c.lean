/- Layer 1: ranges (no claim; lemmas). -/
import Derived.Test.YtblaimfdeiccpaaK01
set_option linter.unusedSimpArgs false
set_option linter.unusedVariables false
namespace Go.Proofs.Ytblaimfdeiccpaa
open Go Go.Vm

/-- May a range be? -/
def isR (a n : Int) : Bool := decide (0 ≤ a ∧ a ≤ 1099511627776 ∧ 1 ≤ n ∧ n ≤ 8)
theorem isRange_ok (a n : Int) : evI pg .val n_word_isRange [.int .i64 a, .int .i64 n] [] = some (.bool (isR a n), []) := by
  rw [s_fn fn_word_isRange]
  unfold isR
  by_cases h1 : 0 ≤ a
  · by_cases h2 : a ≤ 1099511627776
    · by_cases h3 : 1 ≤ n
      · by_cases h4 : n ≤ 8
        · simp [ir_word_isRange, go_sem, h1, h2, h3, h4]
        · simp [ir_word_isRange, go_sem, h1, h2, h3, h4]
      · simp [ir_word_isRange, go_sem, h1, h2, h3]
    · simp [ir_word_isRange, go_sem, h1, h2]
  · simp [ir_word_isRange, go_sem, h1]
/-- Do ranges meet? -/
def ovl (a n b m : Int) : Bool := isR a n && isR b m && decide (a < b + m) && decide (b < a + n)
theorem refOverlap_ok (a n b m : Int) : evI pg .val n_undertowref01_Overlap [.int .i64 a, .int .i64 n, .int .i64 b, .int .i64 m] [] = some (.bool (ovl a n b m), []) := by
  rw [s_fn fn_undertowref01_Overlap]
  unfold ovl isR
  by_cases h1 : a < 0
  · have : ¬ 0 ≤ a := by omega
    simp [ir_undertowref01_Overlap, go_sem, h1, this]
  by_cases h2 : b < 0
  · have : ¬ 0 ≤ b := by omega
    simp [ir_undertowref01_Overlap, go_sem, h1, h2, this]
  by_cases h3 : 1099511627776 < a
  · have : ¬ a ≤ 1099511627776 := by omega
    simp [ir_undertowref01_Overlap, go_sem, h1, h2, h3, this]
  by_cases h4 : 1099511627776 < b
  · have : ¬ b ≤ 1099511627776 := by omega
    simp [ir_undertowref01_Overlap, go_sem, h1, h2, h3, h4, this]
  by_cases h5 : n < 1
  · have : ¬ 1 ≤ n := by omega
    simp [ir_undertowref01_Overlap, go_sem, h1, h2, h3, h4, h5, this]
  by_cases h6 : 8 < n
  · have : ¬ n ≤ 8 := by omega
    simp [ir_undertowref01_Overlap, go_sem, h1, h2, h3, h4, h5, h6, this]
  by_cases h7 : m < 1
  · have : ¬ 1 ≤ m := by omega
    simp [ir_undertowref01_Overlap, go_sem, h1, h2, h3, h4, h5, h6, h7, this]
  by_cases h8 : 8 < m
  · have : ¬ m ≤ 8 := by omega
    simp [ir_undertowref01_Overlap, go_sem, h1, h2, h3, h4, h5, h6, h7, h8, this]
  have g1 : 0 ≤ a := by omega
  have g2 : 0 ≤ b := by omega
  have g3 : a ≤ 1099511627776 := by omega
  have g4 : b ≤ 1099511627776 := by omega
  have g5 : 1 ≤ n := by omega
  have g6 : n ≤ 8 := by omega
  have g7 : 1 ≤ m := by omega
  have g8 : m ≤ 8 := by omega
  have w1 : IntKind.i64.wrap (b + m) = b + m := wrap_i64 (by omega) (by omega)
  have w2 : IntKind.i64.wrap (a + n) = a + n := wrap_i64 (by omega) (by omega)
  by_cases h9 : a < b + m
  · simp [ir_undertowref01_Overlap, go_sem, h1, h2, h3, h4, h5, h6, h7, h8, g1, g2, g3, g4, g5, g6, g7, g8, w1, w2, h9]
  · simp [ir_undertowref01_Overlap, go_sem, h1, h2, h3, h4, h5, h6, h7, h8, g1, g2, g3, g4, g5, g6, g7, g8, w1, w2, h9]

theorem Overlap_in (a n b m i : Int) (mm : Mem) (ha : 0 ≤ a) (ha' : a ≤ 1099511627776) (hb : 0 ≤ b) (hb' : b ≤ 1099511627776) (hm : m ≤ 8) (hi : 0 ≤ i) (hi' : i ≤ 8) :
    ∀ (d : Nat) (k : Int) (r z s7 s8 s9 s10 s11 t v : V), k + d = m → 0 ≤ k →
    ∃ s7' k' t' v', evCI pg (.loop ir_word_Overlapl0) ⟨[.int .i64 a, .int .i64 n, .int .i64 b, .int .i64 m, r, z, .int .i64 i, s7, s8, s9, s10, s11, .int .i64 m, .int .i64 k, t, v], mm⟩ =
      if b + k ≤ a + i ∧ a + i < b + m then some (.exit 0, ⟨[.int .i64 a, .int .i64 n, .int .i64 b, .int .i64 m, r, .bool true, .int .i64 i, s7', s8, s9, s10, s11, .int .i64 m, k', t', v'], mm⟩)
      else some (.exit 2, ⟨[.int .i64 a, .int .i64 n, .int .i64 b, .int .i64 m, r, z, .int .i64 i, s7', s8, s9, s10, s11, .int .i64 m, k', t', v'], mm⟩)
  | 0, k, r, z, s7, s8, s9, s10, s11, t, v, hd, hk => by
    have h : ¬ k < m := by omega
    have h2 : ¬ (b + k ≤ a + i ∧ a + i < b + m) := by omega
    have hs := rfl (a := evCI pg ir_word_Overlapl0 ⟨[.int .i64 a, .int .i64 n, .int .i64 b, .int .i64 m, r, z, .int .i64 i, s7, s8, s9, s10, s11, .int .i64 m, .int .i64 k, t, v], mm⟩)
    conv at hs => rhs; simp [ir_word_Overlapl0, go_sem, h]
    rw [s_loop, hs, s_then_exit]; simp only [if_neg h2]
    exact ⟨_, _, _, _, rfl⟩
  | d + 1, k, r, z, s7, s8, s9, s10, s11, t, v, hd, hk => by
    have h : k < m := by omega
    have w1 : IntKind.i64.wrap (a + i) = a + i := wrap_i64 (by omega) (by omega)
    have w2 : IntKind.i64.wrap (b + k) = b + k := wrap_i64 (by omega) (by omega)
    have w3 : IntKind.i64.wrap (k + 1) = k + 1 := wrap_i64 (by omega) (by omega)
    by_cases he : a + i = b + k
    · have h2 : b + k ≤ a + i ∧ a + i < b + m := by omega
      have hs := rfl (a := evCI pg ir_word_Overlapl0 ⟨[.int .i64 a, .int .i64 n, .int .i64 b, .int .i64 m, r, z, .int .i64 i, s7, s8, s9, s10, s11, .int .i64 m, .int .i64 k, t, v], mm⟩)
      conv at hs => rhs; simp [ir_word_Overlapl0, go_sem, h, w1, w2, w3, he]
      rw [s_loop, hs, s_then_exit]; simp only [if_pos h2]
      exact ⟨_, _, _, _, rfl⟩
    · have hs := rfl (a := evCI pg ir_word_Overlapl0 ⟨[.int .i64 a, .int .i64 n, .int .i64 b, .int .i64 m, r, z, .int .i64 i, s7, s8, s9, s10, s11, .int .i64 m, .int .i64 k, t, v], mm⟩)
      conv at hs => rhs; simp [ir_word_Overlapl0, go_sem, h, w1, w2, w3, he]
      rw [s_loop, hs, s_then_nrm]
      obtain ⟨x1, x2, x3, x4, ih⟩ := Overlap_in a n b m i mm ha ha' hb hb' hm hi hi' d (k + 1) r z (.int .i64 k) s8 s9 s10 s11 (.bool true) (.bool false) (by omega) (by omega)
      refine ⟨x1, x2, x3, x4, ?_⟩
      rw [ih]
      by_cases h2 : b + k ≤ a + i ∧ a + i < b + m
      · rw [if_pos h2, if_pos (by omega)]
      · rw [if_neg h2, if_neg (by omega)]
theorem Overlap_out (a n b m : Int) (mm : Mem) (ha : 0 ≤ a) (ha' : a ≤ 1099511627776) (hb : 0 ≤ b) (hb' : b ≤ 1099511627776) (hm0 : 0 ≤ m) (hm : m ≤ 8) (hn : n ≤ 8) :
    ∀ (d : Nat) (i : Int) (r s6 s7 s8 s11 s12 s13 t v : V), i + d = n → 0 ≤ i →
    ∃ s6' s7' i' s11' s12' s13' t' v', evCI pg (.loop ir_word_Overlapl1) ⟨[.int .i64 a, .int .i64 n, .int .i64 b, .int .i64 m, r, .bool false, s6, s7, s8, .int .i64 n, .int .i64 i, s11, s12, s13, t, v], mm⟩ =
      some (.exit 0, ⟨[.int .i64 a, .int .i64 n, .int .i64 b, .int .i64 m, r, .bool (decide (i < n ∧ a + i < b + m ∧ b < a + n ∧ 0 < m)), s6', s7', s8, .int .i64 n, i', s11', s12', s13', t', v'], mm⟩)
  | 0, i, r, s6, s7, s8, s11, s12, s13, t, v, hd, hi => by
    have h : ¬ i < n := by omega
    have hs := rfl (a := evCI pg ir_word_Overlapl1 ⟨[.int .i64 a, .int .i64 n, .int .i64 b, .int .i64 m, r, .bool false, s6, s7, s8, .int .i64 n, .int .i64 i, s11, s12, s13, t, v], mm⟩)
    conv at hs => rhs; simp [ir_word_Overlapl1, go_sem, h]
    rw [s_loop, hs, s_then_exit]
    have e : decide (i < n ∧ a + i < b + m ∧ b < a + n ∧ 0 < m) = false := by simp; omega
    rw [e]
    exact ⟨_, _, _, _, _, _, _, _, rfl⟩
  | d + 1, i, r, s6, s7, s8, s11, s12, s13, t, v, hd, hi => by
    have h : i < n := by omega
    have w3 : IntKind.i64.wrap (i + 1) = i + 1 := wrap_i64 (by omega) (by omega)
    obtain ⟨x1, x2, x3, x4, hin⟩ := Overlap_in a n b m i mm ha ha' hb hb' hm hi (by omega) m.toNat 0 r (.bool false) s7 s8 (.int .i64 n) (.int .i64 i) (.bool true) t v (by omega) (by omega)
    by_cases he : b + 0 ≤ a + i ∧ a + i < b + m
    · rw [if_pos he] at hin
      have hs := rfl (a := evCI pg ir_word_Overlapl1 ⟨[.int .i64 a, .int .i64 n, .int .i64 b, .int .i64 m, r, .bool false, s6, s7, s8, .int .i64 n, .int .i64 i, s11, s12, s13, t, v], mm⟩)
      conv at hs => rhs; simp [ir_word_Overlapl1, go_sem, h, hin, w3]
      rw [s_loop, hs, s_then_exit]
      have e : decide (i < n ∧ a + i < b + m ∧ b < a + n ∧ 0 < m) = true := by simp; omega
      rw [e]
      exact ⟨_, _, _, _, _, _, _, _, rfl⟩
    · rw [if_neg he] at hin
      have hs := rfl (a := evCI pg ir_word_Overlapl1 ⟨[.int .i64 a, .int .i64 n, .int .i64 b, .int .i64 m, r, .bool false, s6, s7, s8, .int .i64 n, .int .i64 i, s11, s12, s13, t, v], mm⟩)
      conv at hs => rhs; simp [ir_word_Overlapl1, go_sem, h, hin, w3]
      rw [s_loop, hs, s_then_nrm]
      obtain ⟨y1, y2, y3, y4, y5, y6, y7, y8, ih⟩ := Overlap_out a n b m mm ha ha' hb hb' hm0 hm hn d (i + 1) r (.int .i64 i) x1 s8 (.bool true) (.int .i64 m) x2 x3 x4 (by omega) (by omega)
      refine ⟨y1, y2, y3, y4, y5, y6, y7, y8, ?_⟩
      rw [ih]
      have e : decide (i + 1 < n ∧ a + (i + 1) < b + m ∧ b < a + n ∧ 0 < m) = decide (i < n ∧ a + i < b + m ∧ b < a + n ∧ 0 < m) := by
        rw [decide_eq_decide]
        omega
      rw [e]
theorem Overlap_ok (a n b m : Int) : evI pg .val n_word_Overlap [.int .i64 a, .int .i64 n, .int .i64 b, .int .i64 m] [] = some (.bool (ovl a n b m), []) := by
  have r1 := isRange_ok a n
  have r2 := isRange_ok b m
  rw [s_fn fn_word_Overlap]
  unfold ovl
  cases h1 : isR a n with
  | false => simp [ir_word_Overlap, go_sem, r1, h1]
  | true =>
    cases h2 : isR b m with
    | false => simp [ir_word_Overlap, go_sem, r1, r2, h1, h2]
    | true =>
      simp only [isR, decide_eq_true_eq] at h1 h2
      obtain ⟨x1, x2, x3, x4, x5, x6, x7, x8, hl⟩ := Overlap_out a n b m ⟨[], [], []⟩ (by omega) (by omega) (by omega) (by omega) (by omega) (by omega) (by omega) n.toNat 0 (.bool false) .undef .undef (.bool false) .undef .undef .undef .undef .undef (by omega) (by omega)
      have e : decide (0 < n ∧ a + 0 < b + m ∧ b < a + n ∧ 0 < m) = (decide (a < b + m) && decide (b < a + n)) := by
        rw [Bool.eq_iff_iff]; simp; omega
      rw [e] at hl
      have g1 : isR a n = true := by simp [isR]; omega
      have g2 : isR b m = true := by simp [isR]; omega
      simp [ir_word_Overlap, go_sem, r1, r2, g1, g2, hl]
/-- Is an address a multiple of a size? -/
def algn (a n : Int) : Bool := decide ((n = 1 ∨ n = 2 ∨ n = 4 ∨ n = 8) ∧ 0 ≤ a ∧ a % n = 0)
theorem Aligned_ok (a n : Int) : evI pg .val n_word_Aligned [.int .i64 a, .int .i64 n] [] = some (.bool (algn a n), []) := by
  rw [s_fn fn_word_Aligned]
  unfold algn
  have key : ∀ n : Int, 0 < n → 0 ≤ a → a.tmod n = a % n := fun n hn ha => Int.tmod_eq_emod_of_nonneg ha
  by_cases h1 : n = 1
  · subst h1
    by_cases ha : 0 ≤ a
    · simp [ir_word_Aligned, go_sem, ha, key 1 (by omega) ha, Int.emod_one]
    · simp [ir_word_Aligned, go_sem, ha]
  by_cases h2 : n = 2
  · subst h2
    by_cases ha : 0 ≤ a
    · simp [ir_word_Aligned, go_sem, ha, key 2 (by omega) ha]
    · simp [ir_word_Aligned, go_sem, ha]
  by_cases h4 : n = 4
  · subst h4
    by_cases ha : 0 ≤ a
    · simp [ir_word_Aligned, go_sem, ha, key 4 (by omega) ha]
    · simp [ir_word_Aligned, go_sem, ha]
  by_cases h8 : n = 8
  · subst h8
    by_cases ha : 0 ≤ a
    · simp [ir_word_Aligned, go_sem, ha, key 8 (by omega) ha]
    · simp [ir_word_Aligned, go_sem, ha]
  simp [ir_word_Aligned, go_sem, h1, h2, h4, h8]
theorem refAligned_ok (a n : Int) (hl : -9223372036854775808 ≤ a) (hu : a ≤ 9223372036854775807) : evI pg .val n_undertowref01_Aligned [.int .i64 a, .int .i64 n] [] = some (.bool (algn a n), []) := by
  rw [s_fn fn_undertowref01_Aligned]
  unfold algn
  have key : ∀ n : Int, (n = 1 ∨ n = 2 ∨ n = 4 ∨ n = 8) → 0 ≤ a → IntKind.i64.wrap (IntKind.i64.wrap (a.tdiv n) * n) = a / n * n := by
    intro n hn ha
    have e : a.tdiv n = a / n := Int.tdiv_eq_ediv_of_nonneg ha
    rw [e]
    rcases hn with rfl | rfl | rfl | rfl
    · rw [wrap_i64 (n := a / 1) (by omega) (by omega), wrap_i64 (by omega) (by omega)]
    · rw [wrap_i64 (n := a / 2) (by omega) (by omega), wrap_i64 (by omega) (by omega)]
    · rw [wrap_i64 (n := a / 4) (by omega) (by omega), wrap_i64 (by omega) (by omega)]
    · rw [wrap_i64 (n := a / 8) (by omega) (by omega), wrap_i64 (by omega) (by omega)]
  have fin : ∀ n : Int, (n = 1 ∨ n = 2 ∨ n = 4 ∨ n = 8) → 0 ≤ a → decide (a / n * n = a) = decide (a % n = 0) := by
    intro n hn ha
    rw [decide_eq_decide]
    rcases hn with rfl | rfl | rfl | rfl <;> omega
  by_cases h1 : n = 1
  · subst h1
    by_cases ha : 0 ≤ a
    · have w : IntKind.i64.wrap a = a := wrap_i64 hl hu
      simp [ir_undertowref01_Aligned, go_sem, ha, w, Int.emod_one]
    · simp [ir_undertowref01_Aligned, go_sem, ha]
  by_cases h2 : n = 2
  · subst h2
    by_cases ha : 0 ≤ a
    · simp [ir_undertowref01_Aligned, go_sem, ha, key 2 (by omega) ha, fin 2 (by omega) ha]
    · simp [ir_undertowref01_Aligned, go_sem, ha]
  by_cases h4 : n = 4
  · subst h4
    by_cases ha : 0 ≤ a
    · simp [ir_undertowref01_Aligned, go_sem, ha, key 4 (by omega) ha, fin 4 (by omega) ha]
    · simp [ir_undertowref01_Aligned, go_sem, ha]
  by_cases h8 : n = 8
  · subst h8
    by_cases ha : 0 ≤ a
    · simp [ir_undertowref01_Aligned, go_sem, ha, key 8 (by omega) ha, fin 8 (by omega) ha]
    · simp [ir_undertowref01_Aligned, go_sem, ha]
  simp [ir_undertowref01_Aligned, go_sem, h1, h2, h4, h8]
end Go.Proofs.Ytblaimfdeiccpaa
