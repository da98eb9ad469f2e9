/- Layer 3: picks, by the program and by the document (no claim; lemmas). -/
import Derived.Test.YtgcahipcbidojaaK02g
set_option linter.unusedSimpArgs false
set_option linter.unusedVariables false
namespace Go.Proofs.Ytgcahipcbidojaa
open Go Go.Vm

theorem s_loop_at {a B : C} (h : B = .loop a) (st : St) : evCI pg B st = thenC pg (evCI pg a st) B := by subst h; exact s_loop a st
theorem succ_i64 {i n : Nat} (h : i < n) (hn : n < 9223372036854775808) : IntKind.i64.wrap ((i : Int) + 1) = ((i + 1 : Nat) : Int) := by rw [wrap_i64 (by omega) (by omega)]; rfl
theorem fits_of {b n : Nat} (hb : 0 < b) (hn : n * b ≤ 140737488355328) : fits b n = true := by simp [fits, hb, maxB, hn]

/-- Of all numbers from one on up to another one. -/
def uAll (f : Nat → Bool) (n : Nat) (i : Nat) : Bool := if i < n then f i && uAll f n (i + 1) else true
termination_by n - i
theorem uAll_at {f : Nat → Bool} {n i : Nat} (h : i < n) : uAll f n i = (f i && uAll f n (i + 1)) := by rw [uAll, if_pos h]
theorem uAll_end {f : Nat → Bool} {n : Nat} : uAll f n n = true := by rw [uAll, if_neg (by omega)]
theorem uAll_iff (f : Nat → Bool) (n i : Nat) : uAll f n i = true ↔ ∀ j, i ≤ j → j < n → f j = true := by
  by_cases h : i < n
  · rw [uAll_at h, Bool.and_eq_true, uAll_iff f n (i + 1)]
    constructor
    · rintro ⟨h1, h2⟩ j hj hn
      by_cases e : j = i
      · rw [e]; exact h1
      · exact h2 j (by omega) hn
    · exact fun h' => ⟨h' i (by omega) h, fun j hj hn => h' j (by omega) hn⟩
  · rw [uAll, if_neg h]
    simp only [true_iff]
    exact fun j h1 h2 => absurd h2 (by omega)
termination_by n - i

/-! ### whether a number is the oldest's -/
theorem xor_sign {a : Nat} (ha : a < 18446744073709551616) : a ^^^ 2 ^ 63 = if 9223372036854775808 ≤ a then a - 9223372036854775808 else a + 9223372036854775808 := by
  have key : ∀ b, b < 2 ^ 63 → b ^^^ 2 ^ 63 = 2 ^ 63 + b := by
    intro b hb
    apply Nat.eq_of_testBit_eq
    intro i
    rw [Nat.testBit_xor, Nat.testBit_two_pow]
    rcases Nat.lt_trichotomy i 63 with h | h | h
    · rw [Nat.testBit_two_pow_add_gt h, decide_eq_false (by omega)]
      simp
    · subst h
      rw [Nat.testBit_two_pow_add_eq]
      simp
    · have h1 : 2 ^ 64 ≤ 2 ^ i := Nat.pow_le_pow_right (by omega) h
      rw [Nat.testBit_lt_two_pow (show b < 2 ^ i by omega), Nat.testBit_lt_two_pow (show 2 ^ 63 + b < 2 ^ i by omega), decide_eq_false (by omega)]
      rfl
  split
  · rename_i h
    obtain ⟨b, rfl⟩ : ∃ b, a = 2 ^ 63 + b := ⟨a - 2 ^ 63, by omega⟩
    rw [← key b (by omega), Nat.xor_assoc, Nat.xor_self, Nat.xor_zero, key b (by omega)]
    omega
  · rw [key a (by omega)]
    omega
/-- Is a number always the first one's? -/
def old (a : Nat) : Bool := decide (a = 18442240474082181120) || decide (a < 4607182418800017408)
theorem sv_eq {a : Nat} (ha : a < 18446744073709551616) : sv a = if 9223372036854775808 ≤ a then -((a - 9223372036854775808 : Nat) : Int) else (a : Int) := by
  unfold sv
  rw [ng_eq ha]
  by_cases d : 9223372036854775808 ≤ a
  · rw [decide_eq_true d, if_pos rfl, if_pos d]; unfold rg; omega
  · rw [decide_eq_false d, if_neg (by simp), if_neg d]; unfold rg; omega
theorem rg_eq {a : Nat} (ha : a < 18446744073709551616) : rg a = if 9223372036854775808 ≤ a then a - 9223372036854775808 else a := by unfold rg; split <;> omega
theorem IsInfN_ok (a : Nat) (ha : a < 18446744073709551616) : evI pg .val n_math_IsInf [.flt a, .int .i64 (-1)] [] = some (.bool (decide (a = 18442240474082181120)), []) := by
  have hx := xor_sign ha
  have hi : inf = 9218868437227405312 := rfl
  have hmv := maxF_sv
  have hm := maxF_eq
  have hmr := maxF_rg
  rw [s_fn fn_math_IsInf]
  obtain ⟨b, hb⟩ : ∃ b, a ^^^ 2 ^ 63 = b := ⟨_, rfl⟩
  rw [hb] at hx
  have hb2 : b < 18446744073709551616 := by rw [hx]; split <;> omega
  have hs := sv_eq hb2
  have hr := rg_eq hb2
  have ho := order_eq b maxF
  have hgt := cmp_gt (sv b) (maxF : Int)
  rw [hmv] at ho
  by_cases e : a = 18442240474082181120
  · have hbv : b = 9218868437227405312 := by rw [hx, e]; rfl
    rw [if_neg (by omega)] at hs hr
    rw [if_neg (by omega), hgt.2 (by omega), maxF_eq] at ho
    rw [decide_eq_true e]
    simp [ir_math_IsInf, go_sem, unV, hb, ho]
  · rw [decide_eq_false e]
    by_cases n : inf < rg b
    · rw [if_pos (.inl n), maxF_eq] at ho
      simp [ir_math_IsInf, go_sem, unV, hb, ho]
    · have hn : ¬ compare (sv b) (maxF : Int) = .gt := fun h => by
        have := hgt.1 h
        split at hs
        · omega
        · rename_i hc
          rw [if_neg hc] at hr
          split at hx <;> omega
      obtain ⟨r, hr'⟩ : ∃ r, compare (sv b) (maxF : Int) = r := ⟨_, rfl⟩
      rw [hr'] at hn ho
      have h2 := beq_eq_false_iff_ne.2 hn
      rw [if_neg (by omega), maxF_eq] at ho
      simp [ir_math_IsInf, go_sem, unV, hb, ho, h2]
theorem Oldest_ok (a : Nat) (ha : a < 18446744073709551616) : evI pg .val n_choose_Oldest [.flt a] [] = some (.bool (old a), []) := by
  have h1 := IsInfN_ok a ha
  have h2 := Signbit_ok a ha
  rw [ng_eq ha] at h2
  have hi : inf = 9218868437227405312 := rfl
  have hr := rg_eq ha
  have hs := sv_eq ha
  rw [s_fn fn_choose_Oldest]
  unfold old
  by_cases e : a = 18442240474082181120
  · rw [decide_eq_true e] at h1
    subst e
    simp [ir_choose_Oldest, go_sem, h1]
  rw [decide_eq_false e] at h1
  have s0 : sv 0 = 0 := by decide
  have r0 : rg 0 = 0 := by decide
  have s1 : sv 4607182418800017408 = 4607182418800017408 := by decide
  have r1 : rg 4607182418800017408 = 4607182418800017408 := by decide
  have o0 := order_eq a 0
  have o1 := order_eq a 4607182418800017408
  by_cases n : inf < rg a
  · rw [if_pos (.inl n)] at o0
    have : ¬ a < 4607182418800017408 := by split at hr <;> omega
    simp [ir_choose_Oldest, go_sem, h1, o0, e, this]
  rw [if_neg (by omega), s0] at o0
  rw [if_neg (by omega), s1] at o1
  by_cases d : 9223372036854775808 ≤ a
  · rw [if_pos d] at hs
    rw [decide_eq_true d] at h2
    have hlt : ¬ a < 4607182418800017408 := by omega
    by_cases z : a = 9223372036854775808
    · subst z
      have c0 : compare (sv 9223372036854775808) 0 = .eq := (cmp_eq _ _).2 (by rw [hs]; rfl)
      have c1 : compare (sv 9223372036854775808) 4607182418800017408 = .lt := (cmp_lt _ _).2 (by rw [hs]; decide)
      rw [c0] at o0
      rw [c1] at o1
      simp [ir_choose_Oldest, go_sem, h1, h2, o0, o1, unV]
    · have c0 : compare (sv a) 0 = .lt := (cmp_lt _ _).2 (by omega)
      rw [c0] at o0
      simp [ir_choose_Oldest, go_sem, h1, o0, e, hlt]
  · rw [if_neg d] at hs
    rw [decide_eq_false d] at h2
    have c0 : (Ieee.double.order a 0 == some .gt || Ieee.double.order a 0 == some .eq) = true := by
      rw [o0]
      by_cases z : a = 0
      · rw [(cmp_eq (sv a) 0).2 (by omega)]; rfl
      · rw [(cmp_gt (sv a) 0).2 (by omega)]; rfl
    by_cases c : a < 4607182418800017408
    · have c1 : compare (sv a) 4607182418800017408 = .lt := (cmp_lt _ _).2 (by omega)
      rw [c1] at o1
      simp [ir_choose_Oldest, go_sem, h1, h2, c0, o1, e, c, unV]
    · have c1 := beq_eq_false_iff_ne.2 (show ¬ compare (sv a) 4607182418800017408 = .lt from fun h => by have := (cmp_lt _ _).1 h; omega)
      simp [ir_choose_Oldest, go_sem, h1, h2, c0, o1, c1, e, c, unV]
theorem refOldest_ok (a : Nat) (ha : a < 18446744073709551616) : evI pg .val n_undertowref03_Oldest [.flt a] [] = some (.bool (old a), []) := by
  rw [s_fn fn_undertowref03_Oldest]
  unfold old
  by_cases e : a = 18442240474082181120
  · simp [ir_undertowref03_Oldest, go_sem, e]
  · have e' : ¬ (a : Int) = 18442240474082181120 := by omega
    by_cases c : a < 4607182418800017408
    · have c' : (a : Int) < 4607182418800017408 := by omega
      simp [ir_undertowref03_Oldest, go_sem, e, e', c, c']
    · have c' : ¬ (a : Int) < 4607182418800017408 := by omega
      simp [ir_undertowref03_Oldest, go_sem, e, e', c, c']

/-! ### picks -/
structure Pk where
  core : Int
  unit : Int
  at_ : Nat
def pkV (p : Pk) : List V := [.int .i64 p.core, .int .i64 p.unit, .flt p.at_]
def pkR (l : List Pk) : List (List V) := l.map pkV
theorem pkR_len (l : List Pk) : (pkR l).length = l.length := by simp [pkR]
theorem pkR_el (l : List Pk) (i : Nat) (h : i < (pkR l).length) : (pkR l)[i] = pkV (l[i]'(by simpa [pkR] using h)) := by simp [pkR]
theorem pkR_sz (l : List Pk) : ∀ e ∈ pkR l, e.length = 3 := by
  intro e he
  obtain ⟨w, _, rfl⟩ := List.mem_map.1 he
  rfl
theorem pkR_szAll (l : List Pk) : szAll 3 (pkR l) = true := by simp only [szAll, List.all_eq_true]; intro e he; simp [pkR_sz l e he]
theorem pkR_imm (l : List Pk) : immAll (pkR l) = true := by simp [immAll, pkR, pkV, V.imm]
theorem pkR_app (l l' : List Pk) : pkR l ++ pkR l' = pkR (l ++ l') := by simp [pkR]
def okP (l : List Pk) : Prop := ∀ p ∈ l, p.at_ < 18446744073709551616
/-- Is there one of a core and a unit? -/
def has (c u : Int) (l : List Pk) : Bool := l.any fun p => decide (p.core = c) && (decide (p.unit = u) && old p.at_)
def whl (l : List Pk) : Bool := uAll (fun c => uAll (fun u => has (c : Int) (u : Int) l) 6 0) 3 0
def rgt (p : Pk) : Bool := decide (0 ≤ p.core) && (decide (p.core < 3) && (decide (0 ≤ p.unit) && decide (p.unit < 6)))
theorem Right_ok (p : Pk) : evI pg .val n_choose_Right [.agg (pkV p)] [] = some (.bool (rgt p), []) := by
  rw [s_fn fn_choose_Right]
  unfold rgt
  obtain ⟨c, u, a⟩ := p
  by_cases h1 : 0 ≤ c <;> by_cases h2 : c < 3 <;> by_cases h3 : 0 ≤ u <;> by_cases h4 : u < 6 <;> simp [ir_choose_Right, go_sem, pkV, h1, h2, h3, h4]
theorem refRight_ok (p : Pk) : evI pg .val n_undertowref03_Right [.agg (pkV p)] [] = some (.bool (rgt p), []) := by
  rw [s_fn fn_undertowref03_Right]
  unfold rgt
  obtain ⟨c, u, a⟩ := p
  have e1 : c < 3 ↔ c ≤ 2 := by omega
  have e2 : u < 6 ↔ u ≤ 5 := by omega
  simp only [e1, e2]
  by_cases h1 : 0 ≤ c <;> by_cases h2 : c ≤ 2 <;> by_cases h3 : 0 ≤ u <;> by_cases h4 : u ≤ 5 <;> simp [ir_undertowref03_Right, go_sem, pkV, h1, h2, h3, h4]
end Go.Proofs.Ytgcahipcbidojaa
