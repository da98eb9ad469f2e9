/- Layer 19: what the program's relation comes to, looked at (no claim; lemmas). -/
import Derived.Test.YtccdkkgimaajbaaDoorK19a
set_option linter.unusedSimpArgs false
set_option linter.unusedVariables false
namespace Go.Proofs.YtccdkkgimaajbaaDoor
open Go Go.Vm

theorem rb_succ (k W : Nat) : rb (k + 1) W = rb k W ++ wb k (wd W k) := by simp [rb, List.range_succ, List.flatMap_append]
theorem rb_eq (W : Nat) : ∀ k, rb k W = (sb (64 * k) W.testBit).map fun b => ((b : Nat) : Int)
  | 0 => rfl
  | k + 1 => by
    rw [rb_succ, rb_eq W k]
    unfold sb wb sb
    rw [show 64 * (k + 1) = 64 * k + 64 by omega, List.range_add, List.filter_append, List.map_append, List.filter_map, List.map_map]
    congr 1
    have : (List.range 64).filter (wd W k).testBit = (List.range 64).filter (W.testBit ∘ fun x => 64 * k + x) := by
      apply List.filter_congr
      intro j hj
      rw [wd_bit]
      simp [List.mem_range.1 hj]
    rw [this]
    rfl
theorem sb_lt {n m : Nat} {p : Nat → Bool} (h : n ≤ m) (hp : ∀ j, n ≤ j → j < m → p j = false) : sb m p = sb n p := by
  obtain ⟨d, rfl⟩ : ∃ d, m = n + d := ⟨m - n, by omega⟩
  unfold sb
  rw [List.range_add, List.filter_append]
  have : ((List.range d).map fun x => n + x).filter p = [] := by
    rw [List.filter_eq_nil_iff]
    intro j hj
    obtain ⟨i, hi, rfl⟩ := List.mem_map.1 hj
    rw [hp (n + i) (by omega) (by have := List.mem_range.1 hi; omega)]; simp
  rw [this, List.append_nil]
theorem bit_ge {W n j : Nat} (h : W < 2 ^ n) (hj : n ≤ j) : W.testBit j = false := Nat.testBit_lt_two_pow (Nat.lt_of_lt_of_le h (Nat.pow_le_pow_right (by omega) hj))
/-- How many words. -/
def kw (n : Nat) : Nat := (n + 63) / 64
theorem kw_ge (n : Nat) : n ≤ 64 * kw n := by unfold kw; omega
theorem kw_le {n : Nat} (h : n ≤ 512) : kw n ≤ 8 := by unfold kw; omega
theorem kw_bit {n b : Nat} (h : b < n) : b / 64 < kw n := by unfold kw; omega
/-- A row's things. -/
def rt (n W : Nat) : List Int := (sb n W.testBit).map fun b => ((b : Nat) : Int)
theorem rb_rt {n W : Nat} (h : W < 2 ^ n) : rb (kw n) W = rt n W := by
  rw [rb_eq, rt, sb_lt (kw_ge n) (fun j hj _ => bit_ge h hj)]
theorem rt_len (n W : Nat) : (rt n W).length ≤ n := by simp [rt, sb_len]

theorem each_loop (v : V) (k W : Nat) (hv : Sl v (wR (wl k W))) (hk : k ≤ 8) (i : Nat) (hi : i ≤ k) (l : List Int) (hl : l.length ≤ 64 * i) :
    evCI pg (.loop ir_rel_row_eachl1) ⟨[.undef, .undef, .osl false 0 (iI l), .undef, .undef, v, .int .i64 (k : Int), .int .i64 (i : Int), .undef, .undef], ⟨[], [l.length], []⟩⟩ =
      some (.exit 0, ⟨[.undef, .undef, .osl false 0 (iI (l ++ (List.range' i (k - i)).flatMap fun j => wb j (wd W j))), .undef, .undef, v, .int .i64 (k : Int), .int .i64 (k : Int), .bool false, .undef],
        ⟨[], [(l ++ (List.range' i (k - i)).flatMap fun j => wb j (wd W j)).length], []⟩⟩) := by
  obtain ⟨B, hB⟩ : ∃ B, B = C.loop ir_rel_row_eachl1 := ⟨_, rfl⟩
  by_cases h : i < k
  · have e1 := fun m => hv.ia (sz := 1) m .i64 (i := i) (by rw [wR_len, wl_len]; exact h) (by simp [wR])
    simp only [wR_el, wl_el] at e1
    have e3 := succ_i64 h (by omega)
    have h1 : (sb 64 (wd W i).testBit).length ≤ 64 := sb_len _ _
    have hwbl : (wb i (wd W i)).length ≤ 64 := by unfold wb; simp only [List.length_map]; exact h1
    have hw := each_word v (.int .i64 (i : Int)) k i (by omega) (wd W i) (wd_lt W i) l (by omega)
    have ih := each_loop v k W hv hk (i + 1) (by omega) (l ++ wb i (wd W i)) (by rw [List.length_append]; omega)
    have e4 : (List.range' i (k - i)).flatMap (fun j => wb j (wd W j)) = wb i (wd W i) ++ (List.range' (i + 1) (k - (i + 1))).flatMap fun j => wb j (wd W j) := by
      rw [show k - i = (k - (i + 1)) + 1 by omega, List.range'_succ, List.flatMap_cons]
    rw [e4, ← List.append_assoc, ← ih, ← hB]
    conv => lhs; rw [s_loop_at hB]
    generalize wb i (wd W i) = q at *
    simp [ir_rel_row_eachl1, go_sem, h, e1, e3, hw, hv.is, hv.rows, -Int.natCast_add, -List.length_append]
  · obtain rfl : i = k := by omega
    rw [← hB, s_loop_at hB, Nat.sub_self, List.range'_zero, List.flatMap_nil, List.append_nil]
    simp [ir_rel_row_eachl1, go_sem, hv.is]
termination_by k - i
theorem each_ok (v : V) (n W : Nat) (hv : Sl v (wR (wl (kw n) W))) (hn : n ≤ 512) (hW : W < 2 ^ n) : evI pg .val n_rel_row_each [v] [] = some (ils (iI (rt n W)), []) := by
  have h := each_loop v (kw n) W hv (kw_le hn) 0 (by omega) [] (by simp)
  have e : (List.range' 0 (kw n - 0)).flatMap (fun j => wb j (wd W j)) = rt n W := by
    rw [← rb_rt hW, rb, Nat.sub_zero, ← List.range_eq_range']
  rw [e, List.nil_append, List.length_nil, Int.natCast_zero] at h
  have e0 : iI [] = [] := rfl
  rw [e0] at h
  rw [s_fn fn_rel_row_each]
  simp [ir_rel_row_each, go_sem, hv.is, hv.rows, wR_len, wl_len, h]
theorem tdiv64 (b : Nat) : IntKind.i64.wrap ((b : Int).tdiv 64) = ((b / 64 : Nat) : Int) ∨ 9223372036854775808 ≤ b := by
  by_cases h : b < 9223372036854775808
  · left
    rw [Int.tdiv_eq_ediv_of_nonneg (Int.natCast_nonneg _), wrap_i64 (by omega) (by omega)]; omega
  · exact .inr (by omega)
theorem row_has_ok (v : V) (k W b : Nat) (hv : Sl v (wR (wl k W))) (hk : k ≤ 8) (hb : b < 64 * k) : evI pg .val n_rel_row_has [v, .int .i64 (b : Int)] [] = some (.bool (W.testBit b), []) := by
  have e0 : IntKind.i64.wrap ((b : Int).tdiv 64) = ((b / 64 : Nat) : Int) := (tdiv64 b).resolve_right (by omega)
  have e2 : ((b : Int).tmod 64) = ((b % 64 : Nat) : Int) := by rw [Int.tmod_eq_emod_of_nonneg (Int.natCast_nonneg _)]; omega
  have e0' : IntKind.i64.wrap ((b : Int) / 64) = ((b / 64 : Nat) : Int) := by rw [wrap_i64 (by omega) (by omega)]; omega
  have e2' : ((b : Int) % 64) = ((b % 64 : Nat) : Int) := by omega
  have h64 : b % 64 < 64 := Nat.mod_lt _ (by omega)
  have e3 := fun m => hv.ia (sz := 1) m .i64 (i := b / 64) (by rw [wR_len, wl_len]; omega) (by simp [wR])
  simp only [wR_el, wl_el] at e3
  have e4 : ((wd W (b / 64) : Nat) : Int).fdiv (2 ^ (b % 64)) = ((wd W (b / 64) / 2 ^ (b % 64) : Nat) : Int) := shr_nat _ _
  have hl := wd_lt W (b / 64)
  have hl2 : wd W (b / 64) / 2 ^ (b % 64) < 18446744073709551616 := Nat.lt_of_le_of_lt (Nat.div_le_self _ _) hl
  have e5 : andI .u64 ((wd W (b / 64) / 2 ^ (b % 64) : Nat) : Int) 1 = if W.testBit b then 1 else 0 := by
    have := and_u64 hl2 (show 1 < 18446744073709551616 by omega)
    rw [testBit_and, wd_bit] at this
    rw [show 64 * (b / 64) + b % 64 = b by omega] at this
    rw [show (1 : Int) = ((1 : Nat) : Int) from rfl, this]
    simp only [h64, decide_true, Bool.true_and]
    split <;> rfl
  have hmn : min (b % 64) 64 = b % 64 := by omega
  have hg : ∀ c : Bool, ((if c = true then (1 : Int) else 0) = 1) ↔ c = true := by intro c; cases c <;> simp
  generalize wd W (b / 64) / 2 ^ (b % 64) = q at *
  generalize wd W (b / 64) = u at *
  generalize b % 64 = r at *
  generalize b / 64 = s at *
  rw [s_fn fn_rel_row_has]
  simp [ir_rel_row_has, go_sem, hv.is, e0, e2, e0', e2', e3, e4, e5, hmn, hg, IntKind.bits, -Int.natCast_emod, -Int.natCast_pow, -Int.natCast_ediv, -Int.natCast_add, -Int.natCast_mul]

/-! ### a relation that is handed by its contents -/
/-- The rows of a relation of `n` things, as a value. -/
structure RelV (rv : V) (n : Nat) (W : Nat → Nat) : Prop where
  sl : ∃ rows, Sl rv rows ∧ rows.length = n ∧ ∀ (a : Nat) (h : a < rows.length), ∃ x, rows[a] = [x] ∧ Sl x (wR (wl (kw n) (W a)))
  lt : ∀ a, a < n → W a < 2 ^ n
  le : n ≤ 512
theorem RelV.row {rv : V} {n : Nat} {W : Nat → Nat} (h : RelV rv n W) {a : Nat} (ha : a < n) : ∃ x, Sl x (wR (wl (kw n) (W a))) ∧ ∀ m, iaSV 1 m rv (.int .i64 (a : Int)) = some (.ip (tg rv) [x] 0) := by
  obtain ⟨rows, h1, h2, h3⟩ := h.sl
  obtain ⟨x, h4, h5⟩ := h3 a (by omega)
  refine ⟨x, h5, fun m => ?_⟩
  have := h1.ia (sz := 1) m .i64 (i := a) (by omega) (by rw [h4]; rfl)
  rw [h4] at this
  exact this
theorem RelV.is {rv : V} {n : Nat} {W : Nat → Nat} (h : RelV rv n W) : isS rv = true := by
  obtain ⟨rows, h1, _⟩ := h.sl; exact h1.is
theorem RelV.len {rv : V} {n : Nat} {W : Nat → Nat} (h : RelV rv n W) : (rows rv).length = n := by
  obtain ⟨rows, h1, h2, _⟩ := h.sl; rw [h1.rows]; exact h2
section
variable {t : Bool} {rv : V} {n : Nat} {W : Nat → Nat} (hr : RelV rv n W)
include hr
theorem Len_ok : evI pg .val n_rel_Rel_Len [.ip t [rv] 0] [] = some (.int .i64 (n : Int), []) := by
  rw [s_fn fn_rel_Rel_Len]
  simp [ir_rel_Rel_Len, go_sem, hr.is, hr.len]
theorem is_ok (a : Int) : evI pg .val n_rel_Rel_is [.ip t [rv] 0, .int .i64 a] [] = some (.bool (decide (0 ≤ a ∧ a < n)), []) := by
  have hL := Len_ok (t := t) hr
  rw [s_fn fn_rel_Rel_is]
  by_cases h0 : 0 ≤ a
  · simp [ir_rel_Rel_is, go_sem, h0, hL]
  · simp [ir_rel_Rel_is, go_sem, h0, hL]
/-- Is a pair in it? -/
def hasW (n : Nat) (W : Nat → Nat) (a b : Int) : Bool := decide (0 ≤ a ∧ a < n ∧ 0 ≤ b ∧ b < n) && (W a.toNat).testBit b.toNat
theorem Has_ok (a b : Int) : evI pg .val n_rel_Rel_Has [.ip t [rv] 0, .int .i64 a, .int .i64 b] [] = some (.bool (hasW n W a b), []) := by
  have ha := is_ok (t := t) hr a
  have hb := is_ok (t := t) hr b
  unfold hasW
  rw [s_fn fn_rel_Rel_Has]
  by_cases h1 : 0 ≤ a ∧ a < n
  · by_cases h2 : 0 ≤ b ∧ b < n
    · obtain ⟨a, rfl⟩ : ∃ k : Nat, a = k := ⟨a.toNat, by omega⟩
      obtain ⟨b, rfl⟩ : ∃ k : Nat, b = k := ⟨b.toNat, by omega⟩
      obtain ⟨x, hx, e⟩ := hr.row (a := a) (by omega)
      have hk := kw_bit (n := n) (b := b) (by omega)
      have hle := hr.le
      have hh := row_has_ok x (kw n) (W a) b hx (kw_le hle) (by omega)
      have h3 : (0 ≤ (a : Int) ∧ (a : Int) < n ∧ 0 ≤ (b : Int) ∧ (b : Int) < n) := ⟨h1.1, h1.2, h2.1, h2.2⟩
      simp only [h1, h2, and_self, decide_true] at ha hb
      simp only [h3, and_self, decide_true, Bool.true_and, Int.toNat_natCast]
      simp [ir_rel_Rel_Has, go_sem, ha, hb, e, hh, hx.is]
    · have h3 : ¬ (0 ≤ a ∧ a < n ∧ 0 ≤ b ∧ b < n) := fun h => h2 h.2.2
      simp only [h1, h2, and_self, decide_true, decide_false] at ha hb
      simp only [h3, decide_false, Bool.false_and]
      simp [ir_rel_Rel_Has, go_sem, ha, hb]
  · have h3 : ¬ (0 ≤ a ∧ a < n ∧ 0 ≤ b ∧ b < n) := fun h => h1 ⟨h.1, h.2.1⟩
    simp only [h1, decide_false] at ha
    simp only [h3, decide_false, Bool.false_and]
    simp [ir_rel_Rel_Has, go_sem, ha]
end
end Go.Proofs.YtccdkkgimaajbaaDoor
