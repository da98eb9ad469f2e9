/- Layer 1: what its functions come to (no claim; lemmas). -/
import Derived.Test.YtccdkkgimaajbaaDoorVf
import Derived.Test.YtccdkkgimaajbaaDoorIr
set_option linter.unusedSimpArgs false
set_option linter.unusedVariables false
namespace Go.Proofs.YtccdkkgimaajbaaDoor
open Go Go.Vm

/-- The low bits of a word. -/
def zx (x : Nat) (n : Int) : Nat := x % 2 ^ n.toNat
theorem zx_lt {x : Nat} {n : Int} (hx : x < 18446744073709551616) : zx x n < 18446744073709551616 := Nat.lt_of_le_of_lt (Nat.mod_le _ _) hx
theorem pow_lt {k : Nat} (h : k < 64) : 2 ^ k < 18446744073709551616 := by
  have := Nat.pow_lt_pow_right (a := 2) (by omega) h
  omega
theorem pow_le {k : Nat} (h : 64 ≤ k) : 18446744073709551616 ≤ 2 ^ k := Nat.pow_le_pow_right (n := 2) (by omega) h

/-- The low bits with their sign. -/
def sx (x : Nat) (n : Int) : Nat := if n < 1 ∨ 64 ≤ n then zx x n else zx x n + if x.testBit (n.toNat - 1) then 18446744073709551616 - 2 ^ n.toNat else 0
theorem sx_pre (x k : Nat) (h0 : 1 ≤ k) (h : k < 64) : x * 2 ^ (64 - k) % 18446744073709551616 = x % 2 ^ k * 2 ^ (64 - k) := by
  have e : (18446744073709551616 : Nat) = 2 ^ k * 2 ^ (64 - k) := by rw [← Nat.pow_add, Nat.add_sub_cancel' (by omega)]
  rw [e, Nat.mul_mod_mul_right]
theorem half_pow (k : Nat) (h0 : 1 ≤ k) : 2 ^ k = 2 * 2 ^ (k - 1) := by
  obtain ⟨j, rfl⟩ : ∃ j, k = j + 1 := ⟨k - 1, by omega⟩
  simp [Nat.pow_succ]; omega
/-! ### fields -/
def fld (w : Nat) (hi lo : Int) : Nat := if lo < 0 ∨ 31 < hi ∨ hi < lo then 0 else w / 2 ^ lo.toNat % 2 ^ (hi - lo + 1).toNat
theorem pow_lt32 {k : Nat} (h : k < 32) : 2 ^ k < 4294967296 := by
  have := Nat.pow_lt_pow_right (a := 2) (by omega) h
  omega
/-- A list of bytes as it stands. -/
def byV (l : List Nat) : List (List V) := l.map fun x : Nat => [.int .u8 (x : Int)]
theorem byV_len (l : List Nat) : (byV l).length = l.length := by simp [byV]
theorem byV_imm (l : List Nat) : immAll (byV l) = true := by simp [immAll, byV, V.imm]
theorem byV_sz (l : List Nat) : szAll 1 (byV l) = true := by simp [szAll, byV]
theorem byV_get (l : List Nat) (i : Nat) (h : i < l.length) : (byV l)[i]? = some [.int .u8 (l[i] : Int)] := by simp [byV, h]
theorem byV_el (l : List Nat) (i : Nat) (h : i < (byV l).length) : (byV l)[i] = [.int .u8 ((l[i]'(by simpa [byV] using h) : Nat) : Int)] := by simp [byV]
theorem byV_append (l l' : List Nat) : byV (l ++ l') = byV l ++ byV l' := by simp [byV]
/-- A word's first bytes. -/
def byl (x : Nat) (k : Nat) : List Nat := (List.range k).map fun i => x / 256 ^ i % 256
theorem byl_len (x k : Nat) : (byl x k).length = k := by simp [byl]
theorem byl_succ (x k : Nat) : byl x (k + 1) = byl x k ++ [x / 256 ^ k % 256] := by simp [byl, List.range_succ]
theorem byl_lt (x k : Nat) : ∀ b ∈ byl x k, b < 256 := by
  intro b hb
  simp only [byl, List.mem_map] at hb
  obtain ⟨i, _, rfl⟩ := hb
  exact Nat.mod_lt _ (by omega)
/-- How many bytes. -/
def clm (n : Int) : Nat := (min n 8).toNat
theorem clm_le (n : Int) : clm n ≤ 8 := by unfold clm; omega

/-! ### the same lists -/
/-- May a range be? -/
def isR (a n : Int) : Bool := decide (0 ≤ a ∧ a ≤ 1099511627776 ∧ 1 ≤ n ∧ n ≤ 8)
theorem isRange_ok (a n : Int) : evI pg .val n_word_isRange [.int .i64 a, .int .i64 n] [] = some (.bool (isR a n), []) := by
  rw [s_fn fn_word_isRange]
  unfold isR
  by_cases h1 : 0 ≤ a
  · by_cases h2 : a ≤ 1099511627776
    · by_cases h3 : 1 ≤ n
      · by_cases h4 : n ≤ 8
        · simp [ir_word_isRange, go_sem, h1, h2, h3, h4]
        · simp [ir_word_isRange, go_sem, h1, h2, h3, h4]
      · simp [ir_word_isRange, go_sem, h1, h2, h3]
    · simp [ir_word_isRange, go_sem, h1, h2]
  · simp [ir_word_isRange, go_sem, h1]
/-- Do ranges meet? -/
def ovl (a n b m : Int) : Bool := isR a n && isR b m && decide (a < b + m) && decide (b < a + n)
theorem Overlap_in (a n b m i : Int) (mm : Mem) (ha : 0 ≤ a) (ha' : a ≤ 1099511627776) (hb : 0 ≤ b) (hb' : b ≤ 1099511627776) (hm : m ≤ 8) (hi : 0 ≤ i) (hi' : i ≤ 8) :
    ∀ (d : Nat) (k : Int) (r z s7 s8 s9 s10 s11 t v : V), k + d = m → 0 ≤ k →
    ∃ s7' k' t' v', evCI pg (.loop ir_word_Overlapl0) ⟨[.int .i64 a, .int .i64 n, .int .i64 b, .int .i64 m, r, z, .int .i64 i, s7, s8, s9, s10, s11, .int .i64 m, .int .i64 k, t, v], mm⟩ =
      if b + k ≤ a + i ∧ a + i < b + m then some (.exit 0, ⟨[.int .i64 a, .int .i64 n, .int .i64 b, .int .i64 m, r, .bool true, .int .i64 i, s7', s8, s9, s10, s11, .int .i64 m, k', t', v'], mm⟩)
      else some (.exit 2, ⟨[.int .i64 a, .int .i64 n, .int .i64 b, .int .i64 m, r, z, .int .i64 i, s7', s8, s9, s10, s11, .int .i64 m, k', t', v'], mm⟩)
  | 0, k, r, z, s7, s8, s9, s10, s11, t, v, hd, hk => by
    have h : ¬ k < m := by omega
    have h2 : ¬ (b + k ≤ a + i ∧ a + i < b + m) := by omega
    have hs := rfl (a := evCI pg ir_word_Overlapl0 ⟨[.int .i64 a, .int .i64 n, .int .i64 b, .int .i64 m, r, z, .int .i64 i, s7, s8, s9, s10, s11, .int .i64 m, .int .i64 k, t, v], mm⟩)
    conv at hs => rhs; simp [ir_word_Overlapl0, go_sem, h]
    rw [s_loop, hs, s_then_exit]; simp only [if_neg h2]
    exact ⟨_, _, _, _, rfl⟩
  | d + 1, k, r, z, s7, s8, s9, s10, s11, t, v, hd, hk => by
    have h : k < m := by omega
    have w1 : IntKind.i64.wrap (a + i) = a + i := wrap_i64 (by omega) (by omega)
    have w2 : IntKind.i64.wrap (b + k) = b + k := wrap_i64 (by omega) (by omega)
    have w3 : IntKind.i64.wrap (k + 1) = k + 1 := wrap_i64 (by omega) (by omega)
    by_cases he : a + i = b + k
    · have h2 : b + k ≤ a + i ∧ a + i < b + m := by omega
      have hs := rfl (a := evCI pg ir_word_Overlapl0 ⟨[.int .i64 a, .int .i64 n, .int .i64 b, .int .i64 m, r, z, .int .i64 i, s7, s8, s9, s10, s11, .int .i64 m, .int .i64 k, t, v], mm⟩)
      conv at hs => rhs; simp [ir_word_Overlapl0, go_sem, h, w1, w2, w3, he]
      rw [s_loop, hs, s_then_exit]; simp only [if_pos h2]
      exact ⟨_, _, _, _, rfl⟩
    · have hs := rfl (a := evCI pg ir_word_Overlapl0 ⟨[.int .i64 a, .int .i64 n, .int .i64 b, .int .i64 m, r, z, .int .i64 i, s7, s8, s9, s10, s11, .int .i64 m, .int .i64 k, t, v], mm⟩)
      conv at hs => rhs; simp [ir_word_Overlapl0, go_sem, h, w1, w2, w3, he]
      rw [s_loop, hs, s_then_nrm]
      obtain ⟨x1, x2, x3, x4, ih⟩ := Overlap_in a n b m i mm ha ha' hb hb' hm hi hi' d (k + 1) r z (.int .i64 k) s8 s9 s10 s11 (.bool true) (.bool false) (by omega) (by omega)
      refine ⟨x1, x2, x3, x4, ?_⟩
      rw [ih]
      by_cases h2 : b + k ≤ a + i ∧ a + i < b + m
      · rw [if_pos h2, if_pos (by omega)]
      · rw [if_neg h2, if_neg (by omega)]
theorem Overlap_out (a n b m : Int) (mm : Mem) (ha : 0 ≤ a) (ha' : a ≤ 1099511627776) (hb : 0 ≤ b) (hb' : b ≤ 1099511627776) (hm0 : 0 ≤ m) (hm : m ≤ 8) (hn : n ≤ 8) :
    ∀ (d : Nat) (i : Int) (r s6 s7 s8 s11 s12 s13 t v : V), i + d = n → 0 ≤ i →
    ∃ s6' s7' i' s11' s12' s13' t' v', evCI pg (.loop ir_word_Overlapl1) ⟨[.int .i64 a, .int .i64 n, .int .i64 b, .int .i64 m, r, .bool false, s6, s7, s8, .int .i64 n, .int .i64 i, s11, s12, s13, t, v], mm⟩ =
      some (.exit 0, ⟨[.int .i64 a, .int .i64 n, .int .i64 b, .int .i64 m, r, .bool (decide (i < n ∧ a + i < b + m ∧ b < a + n ∧ 0 < m)), s6', s7', s8, .int .i64 n, i', s11', s12', s13', t', v'], mm⟩)
  | 0, i, r, s6, s7, s8, s11, s12, s13, t, v, hd, hi => by
    have h : ¬ i < n := by omega
    have hs := rfl (a := evCI pg ir_word_Overlapl1 ⟨[.int .i64 a, .int .i64 n, .int .i64 b, .int .i64 m, r, .bool false, s6, s7, s8, .int .i64 n, .int .i64 i, s11, s12, s13, t, v], mm⟩)
    conv at hs => rhs; simp [ir_word_Overlapl1, go_sem, h]
    rw [s_loop, hs, s_then_exit]
    have e : decide (i < n ∧ a + i < b + m ∧ b < a + n ∧ 0 < m) = false := by simp; omega
    rw [e]
    exact ⟨_, _, _, _, _, _, _, _, rfl⟩
  | d + 1, i, r, s6, s7, s8, s11, s12, s13, t, v, hd, hi => by
    have h : i < n := by omega
    have w3 : IntKind.i64.wrap (i + 1) = i + 1 := wrap_i64 (by omega) (by omega)
    obtain ⟨x1, x2, x3, x4, hin⟩ := Overlap_in a n b m i mm ha ha' hb hb' hm hi (by omega) m.toNat 0 r (.bool false) s7 s8 (.int .i64 n) (.int .i64 i) (.bool true) t v (by omega) (by omega)
    by_cases he : b + 0 ≤ a + i ∧ a + i < b + m
    · rw [if_pos he] at hin
      have hs := rfl (a := evCI pg ir_word_Overlapl1 ⟨[.int .i64 a, .int .i64 n, .int .i64 b, .int .i64 m, r, .bool false, s6, s7, s8, .int .i64 n, .int .i64 i, s11, s12, s13, t, v], mm⟩)
      conv at hs => rhs; simp [ir_word_Overlapl1, go_sem, h, hin, w3]
      rw [s_loop, hs, s_then_exit]
      have e : decide (i < n ∧ a + i < b + m ∧ b < a + n ∧ 0 < m) = true := by simp; omega
      rw [e]
      exact ⟨_, _, _, _, _, _, _, _, rfl⟩
    · rw [if_neg he] at hin
      have hs := rfl (a := evCI pg ir_word_Overlapl1 ⟨[.int .i64 a, .int .i64 n, .int .i64 b, .int .i64 m, r, .bool false, s6, s7, s8, .int .i64 n, .int .i64 i, s11, s12, s13, t, v], mm⟩)
      conv at hs => rhs; simp [ir_word_Overlapl1, go_sem, h, hin, w3]
      rw [s_loop, hs, s_then_nrm]
      obtain ⟨y1, y2, y3, y4, y5, y6, y7, y8, ih⟩ := Overlap_out a n b m mm ha ha' hb hb' hm0 hm hn d (i + 1) r (.int .i64 i) x1 s8 (.bool true) (.int .i64 m) x2 x3 x4 (by omega) (by omega)
      refine ⟨y1, y2, y3, y4, y5, y6, y7, y8, ?_⟩
      rw [ih]
      have e : decide (i + 1 < n ∧ a + (i + 1) < b + m ∧ b < a + n ∧ 0 < m) = decide (i < n ∧ a + i < b + m ∧ b < a + n ∧ 0 < m) := by
        rw [decide_eq_decide]
        omega
      rw [e]
theorem Overlap_ok (a n b m : Int) : evI pg .val n_word_Overlap [.int .i64 a, .int .i64 n, .int .i64 b, .int .i64 m] [] = some (.bool (ovl a n b m), []) := by
  have r1 := isRange_ok a n
  have r2 := isRange_ok b m
  rw [s_fn fn_word_Overlap]
  unfold ovl
  cases h1 : isR a n with
  | false => simp [ir_word_Overlap, go_sem, r1, h1]
  | true =>
    cases h2 : isR b m with
    | false => simp [ir_word_Overlap, go_sem, r1, r2, h1, h2]
    | true =>
      simp only [isR, decide_eq_true_eq] at h1 h2
      obtain ⟨x1, x2, x3, x4, x5, x6, x7, x8, hl⟩ := Overlap_out a n b m ⟨[], [], []⟩ (by omega) (by omega) (by omega) (by omega) (by omega) (by omega) (by omega) n.toNat 0 (.bool false) .undef .undef (.bool false) .undef .undef .undef .undef .undef (by omega) (by omega)
      have e : decide (0 < n ∧ a + 0 < b + m ∧ b < a + n ∧ 0 < m) = (decide (a < b + m) && decide (b < a + n)) := by
        rw [Bool.eq_iff_iff]; simp; omega
      rw [e] at hl
      have g1 : isR a n = true := by simp [isR]; omega
      have g2 : isR b m = true := by simp [isR]; omega
      simp [ir_word_Overlap, go_sem, r1, r2, g1, g2, hl]
/-- Is an address a multiple of a size? -/
def algn (a n : Int) : Bool := decide ((n = 1 ∨ n = 2 ∨ n = 4 ∨ n = 8) ∧ 0 ≤ a ∧ a % n = 0)
/-- The number of bytes. -/
def ofN : List Nat → Nat
  | [] => 0
  | b :: l => b + 256 * ofN l
theorem ofN_lt : ∀ (l : List Nat), (∀ b ∈ l, b < 256) → ofN l < 256 ^ l.length
  | [], _ => by simp [ofN]
  | b :: l, h => by
    have h1 := ofN_lt l fun x hx => h x (by simp [hx])
    have h2 := h b (by simp)
    have hp := @Nat.pow_succ 256 l.length
    simp only [ofN, List.length_cons]
    omega
theorem ofN_append : ∀ (l l' : List Nat), ofN (l ++ l') = ofN l + 256 ^ l.length * ofN l'
  | [], l' => by simp [ofN]
  | b :: l, l' => by
    have hp := @Nat.pow_succ 256 l.length
    simp only [List.cons_append, ofN, ofN_append l l', List.length_cons, hp]
    rw [Nat.mul_add, Nat.add_assoc, ← Nat.mul_assoc, Nat.mul_comm 256 (256 ^ l.length)]
theorem ofN_byl (x : Nat) : ∀ k, ofN (byl x k) = x % 256 ^ k
  | 0 => by simp [byl, ofN, Nat.mod_one]
  | k + 1 => by
    rw [byl_succ, ofN_append, ofN_byl x k, byl_len, Nat.pow_succ, Nat.mod_mul]
    simp [ofN]
theorem pow256 {i : Nat} (h : i ≤ 8) : 256 ^ i ≤ 18446744073709551616 := Nat.pow_le_pow_right (n := 256) (by omega) h
theorem pow256' {i : Nat} (h : i ≤ 7) : 256 ^ i ≤ 72057594037927936 := Nat.pow_le_pow_right (n := 256) (by omega) h
end Go.Proofs.YtccdkkgimaajbaaDoor
