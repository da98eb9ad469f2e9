/- Layer 19: rows of bits (no claim; lemmas). -/
import Derived.Test.YtccdkkgimaajbaaDoorW2
import Derived.Lib.TrailingZeros
set_option linter.unusedSimpArgs false
set_option linter.unusedVariables false
namespace Go.Proofs.YtccdkkgimaajbaaDoor
open Go Go.Vm

/-- A row's words. -/
def wd (W j : Nat) : Nat := W / 2 ^ (64 * j) % 18446744073709551616
def wl (k W : Nat) : List Nat := (List.range k).map (wd W)
def wR (l : List Nat) : List (List V) := l.map fun w : Nat => [.int .u64 (w : Int)]
theorem wd_lt (W j : Nat) : wd W j < 18446744073709551616 := Nat.mod_lt _ (by omega)
theorem wl_len (k W : Nat) : (wl k W).length = k := by simp [wl]
theorem wl_el (k W i : Nat) (h : i < (wl k W).length) : (wl k W)[i] = wd W i := by simp [wl]
theorem wR_len (l : List Nat) : (wR l).length = l.length := by simp [wR]
theorem wR_el (l : List Nat) (i : Nat) (h : i < (wR l).length) : (wR l)[i] = [.int .u64 ((l[i]'(by simpa [wR] using h) : Nat) : Int)] := by simp [wR]
theorem wd_bit (W j i : Nat) : (wd W j).testBit i = (decide (i < 64) && W.testBit (64 * j + i)) := by
  unfold wd
  rw [show (18446744073709551616 : Nat) = 2 ^ 64 from rfl, Nat.testBit_mod_two_pow, Nat.testBit_div_two_pow, Nat.add_comm]

/-! ### the lowest bit -/
def dbi (k : Nat) : Nat := 2 ^ k * 285870213051353865 % 18446744073709551616 / 288230376151711744
theorem glV_eq : glV = Go.Lib.deBruijn64tab.map fun n : Nat => V.int .u8 (n : Int) := rfl
theorem gl_gen {n k : Nat} (h1 : n < 64) (h2 : Go.Lib.deBruijn64tab.getD n 0 = k) : glV[n]? = some (V.int .u8 (k : Int)) := by
  have hl : Go.Lib.deBruijn64tab.length = 64 := rfl
  have e : Go.Lib.deBruijn64tab[n]? = some k := by
    rw [List.getElem?_eq_getElem (by omega)]
    rw [List.getD_eq_getElem?_getD, List.getElem?_eq_getElem (by omega)] at h2
    exact congrArg some h2
  rw [glV_eq, List.getElem?_map, e]
  rfl
theorem gl_at {k : Nat} (h : k < 64) : ∃ n, dbi k = n ∧ n < 64 ∧ glV[n]? = some (V.int .u8 (k : Int)) :=
  ⟨_, rfl, (Go.Lib.deBruijn64_at k h).1, gl_gen (Go.Lib.deBruijn64_at k h).1 (Go.Lib.deBruijn64_at k h).2⟩
def ctz (x : Nat) : Nat := Go.Lib.ctz 64 x
theorem tz_at (x n p q : Int) (r k : Nat) (hx : ¬ x = 0) (e1 : IntKind.u64.wrap (-x) = n) (e2 : andI .u64 x n = p) (e3 : IntKind.u64.wrap (p * 285870213051353865) = q) (e4 : q.fdiv (2 ^ 58) = (r : Int)) (hr : (r : Int) < 64)
    (e5 : glV[r]? = some (V.int .u8 (k : Int))) (e6 : IntKind.i64.wrap (k : Int) = (k : Int)) : evI pg .val n_math_bits_TrailingZeros64 [.int .u64 x] [] = some (.int .i64 (k : Int), []) := by
  rw [s_fn fn_math_bits_TrailingZeros64]
  simp [ir_math_bits_TrailingZeros64, go_sem, hx, e1, e2, e3, e4, hr, e5, e6, IntKind.bits, -Int.reducePow]
theorem tz_ok (x : Nat) (h0 : x ≠ 0) (h : x < 18446744073709551616) : evI pg .val n_math_bits_TrailingZeros64 [.int .u64 x] [] = some (.int .i64 (ctz x : Nat), []) := by
  obtain ⟨h1, h2⟩ : x &&& (2 ^ 64 - x) = 2 ^ ctz x ∧ ctz x < 64 := Go.Lib.lowest_bit 64 x h0 h
  generalize ctz x = c at *
  obtain ⟨r, hr, hr64, hgl⟩ := gl_at h2
  have hsh : (((2 ^ c * 285870213051353865 % 18446744073709551616 : Nat) : Int)).fdiv (2 ^ 58) = ((r : Nat) : Int) := by
    rw [shr_nat, ← hr]; rfl
  refine tz_at x ((18446744073709551616 - x : Nat) : Int) ((2 ^ c : Nat) : Int) ((2 ^ c * 285870213051353865 % 18446744073709551616 : Nat) : Int) r c (by omega) ?_ ?_ ?_ hsh (by omega) hgl (wrap_i64 (by omega) (by omega))
  · simp only [IntKind.wrap, IntKind.bits, IntKind.signed]; simp; omega
  · rw [and_u64 h (by omega)]
    exact congrArg _ h1
  · rw [← wrap_u64, Int.natCast_mul]; rfl

/-! ### each -/
/-- Bits that are set, rising. -/
def sb (n : Nat) (p : Nat → Bool) : List Nat := (List.range n).filter p
theorem sb_first {n c : Nat} {p q : Nat → Bool} (hc : c < n) (hp : p c = true) (hlow : ∀ j, j < c → p j = false) (hq : ∀ j, q j = (p j && decide (j ≠ c))) : sb n p = c :: sb n q := by
  unfold sb
  obtain ⟨d, rfl⟩ : ∃ d, n = c + (d + 1) := ⟨n - c - 1, by omega⟩
  have low : ∀ f : Nat → Bool, (∀ j, j < c → f j = false) → (List.range c).filter f = [] := fun f hf => by
    rw [List.filter_eq_nil_iff]
    intro j hj
    rw [hf j (List.mem_range.1 hj)]; simp
  have hqc : q c = false := by rw [hq]; simp
  rw [List.range_add, List.filter_append, List.filter_append, low p hlow, low q (fun j hj => by rw [hq, hlow j hj]; rfl), List.nil_append, List.nil_append, List.range_succ_eq_map]
  simp only [List.map_cons, List.map_map, Nat.add_zero, List.filter_cons, hp, hqc, if_true, Bool.false_eq_true, if_false]
  congr 1
  apply List.filter_congr
  intro j hj
  obtain ⟨i, _, rfl⟩ := List.mem_map.1 hj
  rw [hq]
  simp
theorem low_bits (x : Nat) (h0 : x ≠ 0) (h : x < 2 ^ 64) : x.testBit (ctz x) = true ∧ (∀ j, j < ctz x → x.testBit j = false) ∧ ∀ j, (x &&& (x - 1)).testBit j = (x.testBit j && decide (j ≠ ctz x)) := by
  obtain ⟨m, hm, _⟩ := Go.Lib.ctzFrom_spec 64 x (by omega) h
  have e : ctz x = Go.Lib.ctzFrom 64 x := by simp [ctz, Go.Lib.ctz, h0]
  rw [e]
  generalize Go.Lib.ctzFrom 64 x = c at *
  have b1 : ∀ j, x.testBit j = if j < c then false else (2 * m + 1).testBit (j - c) := by
    intro j
    have := Nat.testBit_two_pow_mul_add (2 * m + 1) (Nat.two_pow_pos c) j
    rw [Nat.add_zero] at this
    rw [hm, this, Nat.zero_testBit]
  have hx1 : x - 1 = 2 ^ c * (2 * m) + (2 ^ c - 1) := by
    have := Nat.two_pow_pos c
    rw [hm, Nat.mul_add, Nat.mul_one]
    omega
  have b2 : ∀ j, (x - 1).testBit j = if j < c then (2 ^ c - 1).testBit j else (2 * m).testBit (j - c) := by
    intro j
    rw [hx1]
    exact Nat.testBit_two_pow_mul_add (2 * m) (by have := Nat.two_pow_pos c; omega) j
  refine ⟨by rw [b1]; simp, fun j hj => by rw [b1, if_pos hj], fun j => ?_⟩
  rw [Nat.testBit_and, b1, b2]
  by_cases hj : j < c
  · simp [hj]
  · by_cases hjc : j = c
    · subst hjc; simp
    · obtain ⟨d, hd⟩ : ∃ d, j - c = d + 1 := ⟨j - c - 1, by omega⟩
      simp only [hj, if_false, hd, Nat.testBit_succ, hjc, ne_eq, not_false_eq_true, decide_true, Bool.and_true]
      rw [show (2 * m + 1) / 2 = m by omega, show 2 * m / 2 = m by omega, Bool.and_self]
theorem sb_none {n : Nat} {p : Nat → Bool} (h : ∀ j, j < n → p j = false) : sb n p = [] := by
  unfold sb
  rw [List.filter_eq_nil_iff]
  intro j hj
  rw [h j (List.mem_range.1 hj)]; simp
theorem sb_len (n : Nat) (p : Nat → Bool) : (sb n p).length ≤ n := by
  have := List.length_filter_le p (List.range n)
  simpa [sb] using this
theorem app_oneI {m : Mem} {l : List Int} {x : Int} (ht : m.tk[0]? = some l.length) (hl : l.length ≤ 100000) :
    appV 2 1 8 m (.osl false 0 (iI l)) (.els [[.int .i64 x]]) = some (.osl false 0 (iI (l ++ [x])), { m with tk := m.tk.set 0 (l.length + 1) }) := by
  have e : iI (l ++ [x]) = iI l ++ [[.int .i64 x]] := by simp [iI]
  have h1 : immAll (iI l ++ [[.int .i64 x]]) = true := by simp [immAll, iI, V.imm]
  have h2 : szAll 1 (iI l ++ [[.int .i64 x]]) = true := by simp [szAll, iI]
  unfold appV
  simp only [srcV, List.length_singleton, e, h1, h2, iI_len, ht, fits_of (b := 8) (n := l.length + 1) (by omega) (by omega), Bool.and_self, if_true, Bool.false_eq_true, if_false]
/-- A word's bits, as things. -/
def wb (i w : Nat) : List Int := (sb 64 w.testBit).map fun b => ((64 * i + b : Nat) : Int)
theorem each_word (xv a : V) (k i : Nat) (hi : i < 16) (w : Nat) (hw : w < 18446744073709551616) (l : List Int) (hl : l.length + (sb 64 w.testBit).length ≤ 2000) :
    evCI pg (.loop ir_rel_row_eachl0) ⟨[.undef, .undef, .osl false 0 (iI l), .int .i64 (i : Int), .int .u64 (w : Int), xv, .int .i64 (k : Int), a, .undef, .undef], ⟨[], [l.length], []⟩⟩ =
      some (.exit 2, ⟨[.undef, .undef, .osl false 0 (iI (l ++ wb i w)), .int .i64 (i : Int), .int .u64 0, xv, .int .i64 (k : Int), a, .undef, .bool false], ⟨[], [(l ++ wb i w).length], []⟩⟩) := by
  obtain ⟨B, hB⟩ : ∃ B, B = C.loop ir_rel_row_eachl0 := ⟨_, rfl⟩
  rw [← hB, s_loop_at hB]
  by_cases h0 : w = 0
  · subst h0
    have e : wb i 0 = [] := by unfold wb; rw [sb_none (fun j _ => Nat.zero_testBit j)]; rfl
    rw [e, List.append_nil]
    simp [ir_rel_row_eachl0, go_sem]
  · obtain ⟨b1, b2, b3⟩ := low_bits w h0 hw
    have hc : ctz w < 64 := (Go.Lib.lowest_bit 64 w h0 hw).2
    have hsb := sb_first (n := 64) hc b1 b2 b3
    have htz := tz_ok w h0 hw
    have hwb : wb i w = ((64 * i + ctz w : Nat) : Int) :: wb i (w &&& (w - 1)) := by unfold wb; rw [hsb]; rfl
    have hlt : w &&& (w - 1) < w := Nat.lt_of_le_of_lt Nat.and_le_right (by omega)
    have hls : (sb 64 w.testBit).length = (sb 64 (w &&& (w - 1)).testBit).length + 1 := by rw [hsb]; rfl
    have ih := each_word xv a k i hi (w &&& (w - 1)) (by omega) (l ++ [((64 * i + ctz w : Nat) : Int)]) (by simp; omega)
    rw [← hB] at ih
    have e1 : IntKind.i64.wrap ((i : Int) * 64) = ((64 * i : Nat) : Int) := by rw [wrap_i64 (by omega) (by omega)]; omega
    have e2 : IntKind.i64.wrap (((64 * i : Nat) : Int) + ((ctz w : Nat) : Int)) = ((64 * i + ctz w : Nat) : Int) := by rw [wrap_i64 (by omega) (by omega)]; omega
    have e3 : IntKind.u64.wrap ((w : Int) - 1) = ((w - 1 : Nat) : Int) := by
      rw [show (w : Int) - 1 = ((w - 1 : Nat) : Int) by omega, wrap_u64' (by omega)]
    have e4 : andI .u64 (w : Int) ((w - 1 : Nat) : Int) = ((w &&& (w - 1) : Nat) : Int) := and_u64 hw (by omega)
    have ea := app_oneI (m := ⟨[], [l.length], []⟩) (l := l) (x := ((64 * i + ctz w : Nat) : Int)) rfl (by omega)
    simp only [List.set_cons_zero] at ea
    rw [hwb, List.append_cons]
    generalize w &&& (w - 1) = w' at *
    generalize 64 * i + ctz w = q at *
    rw [List.length_append, List.length_singleton] at ih
    simp [ir_rel_row_eachl0, go_sem, h0, htz, e1, e2, e3, e4, ea, litParts, ih, -Int.natCast_add, -Int.natCast_mul, -List.append_assoc]
termination_by w
/-- All bits. -/
def rb (k W : Nat) : List Int := (List.range k).flatMap fun i => wb i (wd W i)
end Go.Proofs.YtccdkkgimaajbaaDoor
