/- What is put is got back, and what is got is put back: the law FieldBack returns true whatever it is handed. No condition. -/
import Derived.Test.YtgcpojicidaphaaK04e
import Derived.Test.YtgcpojicidaphaaRows
set_option linter.unusedSimpArgs false
set_option linter.unusedVariables false
namespace Go.Proofs.Ytgcpojicidaphaa
open Go Go.Vm

theorem alive_okB : evI pg .val n_undertowlaw04_alive [] [] = some (.bool true, []) := closed irL_ok 100 (by kernel_rfl)
theorem andNot_u32 {a b : Nat} (ha : a < 4294967296) (hb : b < 4294967296) : andNotI .u32 a b = ((a &&& (4294967296 - (b + 1)) : Nat) : Int) := by
  have h : a &&& (4294967296 - (b + 1)) < 2 ^ 32 := Nat.and_lt_two_pow _ (by omega)
  show IntKind.u32.wrap ((BitVec.ofInt 32 (a : Int) &&& ~~~ (BitVec.ofInt 32 (b : Int))).toNat : Nat) = _
  have e : 2 ^ 32 - 1 - b = 4294967296 - (b + 1) := by omega
  rw [BitVec.toNat_and, BitVec.toNat_not, toNat32 ha, toNat32 hb, e, wrap_u32' (by omega)]
theorem not_bit {b : Nat} (hb : b < 4294967296) (i : Nat) : (4294967296 - (b + 1)).testBit i = (decide (i < 32) && !b.testBit i) := Nat.testBit_two_pow_sub_succ (n := 32) hb i
/-- A format's bits. -/
def Mk (k : Nat) : Nat := mk 32 fun i => (plO k i).isSome
theorem Mk_lt (k : Nat) : Mk k < 4294967296 := mk_lt 32 _
def nM (k : Nat) : Nat := 4294967296 - (Mk k + 1)
theorem nM_lt (k : Nat) : nM k < 4294967296 := by unfold nM; omega
theorem nM_bit (k i : Nat) : (nM k).testBit i = (decide (i < 32) && !(Mk k).testBit i) := not_bit (Mk_lt k) i
theorem sx_mod (x b : Nat) (h1 : 1 ≤ b) (h : b < 64) : sx x (b : Int) % 2 ^ b = x % 2 ^ b := by
  unfold sx zx
  rw [if_neg (by omega)]
  simp only [Int.toNat_natCast]
  split
  · have e : 18446744073709551616 - 2 ^ b = 2 ^ b * (2 ^ (64 - b) - 1) := by
      rw [Nat.mul_sub, ← Nat.pow_add, show b + (64 - b) = 64 by omega]
      simp
    rw [e, Nat.add_mul_mod_self_left, Nat.mod_mod]
  · rw [Nat.add_zero, Nat.mod_mod]
theorem bit_of_mod {x y b : Nat} (h : x % 2 ^ b = y % 2 ^ b) (j : Nat) (hj : j < b) : x.testBit j = y.testBit j := by
  have := congrArg (fun n => n.testBit j) h
  simpa [Nat.testBit_mod_two_pow, hj] using this
theorem sx_congr {x y b : Nat} (h1 : 1 ≤ b) (h : x % 2 ^ b = y % 2 ^ b) : sx x (b : Int) = sx y (b : Int) := by
  unfold sx zx
  simp only [Int.toNat_natCast]
  rw [h, bit_of_mod h (b - 1) (by omega)]
theorem sx_lt (x b : Nat) (h1 : 1 ≤ b) (h : b < 64) : sx x (b : Int) < 18446744073709551616 := by
  unfold sx zx
  rw [if_neg (by omega)]
  simp only [Int.toNat_natCast]
  have hp := pow_lt h
  have hm : x % 2 ^ b < 2 ^ b := Nat.mod_lt _ (Nat.two_pow_pos b)
  split <;> omega
theorem uo_wrap (s : Nat) (h : s < 18446744073709551616) : uo (IntKind.i64.wrap (s : Int)) = s := by
  rw [wrap_i64_eq]
  unfold uo
  omega
theorem wrap_uo (imm : Int) (h : -9223372036854775808 ≤ imm) (h' : imm ≤ 9223372036854775807) : IntKind.i64.wrap ((uo imm : Nat) : Int) = imm := by
  rw [wrap_i64_eq]
  unfold uo
  omega
theorem xG_bit (k w a : Nat) : (xG k w).testBit a = (decide (a < 32) && gb k w 32 a) := mk_bit 32 _ a
theorem gb_some {k w a i : Nat} (h : srO k a = some i) : gb k w 32 a = w.testBit i := by
  unfold gb
  rw [h]
  simp [srO_lt h]
theorem gb_no {k w a : Nat} (h : srO k a = none) : gb k w 32 a = false := by
  unfold gb
  rw [h]
theorem srO_range {k : Nat} (T : Tabs k) {a i : Nat} (ha : a < 32) (h : srO k a = some i) : a < bitsO k ∧ lowO k ≤ a := by
  have := T.pl i a (srO_lt h) (T.sr a i ha h)
  exact ⟨this.1, this.2.1⟩
/-- What is put is got. -/
theorem put_get (k : Nat) (imm : Int) (h1 : 1 ≤ k) (h5 : k ≤ 5) (h : -9223372036854775808 ≤ imm) (h' : imm ≤ 9223372036854775807) (hok : okB k imm = true) : IntKind.i64.wrap ((sx (xG k (wPut k imm)) (bitsO k : Int) : Nat) : Int) = imm := by
  have T := Tabs_of k h1 h5
  have hlow := T.low
  unfold okB at hok
  simp only [Bool.and_eq_true, decide_eq_true_eq] at hok
  obtain ⟨hs, hz⟩ := hok
  have hX : xG k (wPut k imm) % 2 ^ bitsO k = uo imm % 2 ^ bitsO k := by
    apply Nat.eq_of_testBit_eq
    intro a
    rw [Nat.testBit_mod_two_pow, Nat.testBit_mod_two_pow]
    by_cases hb : a < bitsO k
    · simp only [hb, decide_true, Bool.true_and]
      have ha : a < 32 := by omega
      rw [xG_bit]
      simp only [ha, decide_true, Bool.true_and]
      cases hsr : srO k a with
      | some j =>
        have hj := srO_lt hsr
        have hp := T.sr a j ha hsr
        rw [gb_some hsr, wPut_eq k imm h1 h5, mk_bit]
        unfold pf
        simp [hp, hj]
      | none =>
        rw [gb_no hsr]
        have hn := T.sn a ha hsr
        have hlt : a < lowO k := by omega
        have e : (uo imm).testBit a = (uo imm % 2 ^ lowO k).testBit a := by rw [Nat.testBit_mod_two_pow]; simp [hlt]
        unfold zx at hz
        rw [Int.toNat_natCast] at hz
        rw [e, hz, Nat.zero_testBit]
    · simp [hb]
  rw [sx_congr (by omega) hX, hs, wrap_uo imm h h']
/-- Nothing else is put. -/
theorem put_mask (k : Nat) (imm : Int) (h1 : 1 ≤ k) (h5 : k ≤ 5) : wPut k imm &&& nM k = 0 := by
  apply Nat.eq_of_testBit_eq
  intro j
  rw [Nat.testBit_and, nM_bit, wPut_eq k imm h1 h5, mk_bit, Nat.zero_testBit]
  unfold Mk
  rw [mk_bit]
  unfold pf
  cases plO k j <;> by_cases hj : j < 32 <;> simp [hj]
/-- What is got is put. -/
theorem get_put (k w : Nat) (h1 : 1 ≤ k) (h5 : k ≤ 5) (hw : w < 4294967296) : okB k (IntKind.i64.wrap ((sx (xG k w) (bitsO k : Int) : Nat) : Int)) = true ∧ wPut k (IntKind.i64.wrap ((sx (xG k w) (bitsO k : Int) : Nat) : Int)) = w &&& Mk k := by
  have T := Tabs_of k h1 h5
  have hlow := T.low
  have hsl := sx_lt (xG k w) (bitsO k) (by omega) (by omega)
  have hu := uo_wrap _ hsl
  have hm := sx_mod (xG k w) (bitsO k) (by omega) (by omega)
  constructor
  · unfold okB
    rw [hu]
    simp only [Bool.and_eq_true, decide_eq_true_eq]
    refine ⟨sx_congr (by omega) hm, ?_⟩
    unfold zx
    rw [Int.toNat_natCast]
    apply Nat.eq_of_testBit_eq
    intro a
    rw [Nat.testBit_mod_two_pow, Nat.zero_testBit]
    by_cases ha : a < lowO k
    · rw [bit_of_mod hm a (by omega), xG_bit]
      have hn : srO k a = none := by
        cases hs : srO k a with
        | none => rfl
        | some i => have := srO_range T (by omega) hs; omega
      rw [gb_no hn]
      simp
    · simp [ha]
  · rw [wPut_eq k _ h1 h5, hu]
    symm
    have hlt : w &&& Mk k < 2 ^ 32 := Nat.and_lt_two_pow _ (Mk_lt k)
    refine eq_mk hlt fun j hj => ?_
    rw [Nat.testBit_and]
    unfold Mk
    rw [mk_bit]
    unfold pf
    cases hp : plO k j with
    | none => simp
    | some a =>
      obtain ⟨r1, r2, r3, _⟩ := T.pl j a hj hp
      simp only [hj, decide_true, Option.isSome_some, Bool.and_self, Bool.and_true]
      rw [bit_of_mod hm a r1, xG_bit, gb_some r3]
      have : a < 32 := by omega
      simp [this]
/-- Only the format's bits are got. -/
theorem get_only (k w w' : Nat) (h1 : 1 ≤ k) (h5 : k ≤ 5) : xG k ((w &&& Mk k) ||| (w' &&& nM k)) = xG k w := by
  have T := Tabs_of k h1 h5
  apply mk_congr
  intro a ha
  cases hs : srO k a with
  | none => rw [gb_no hs, gb_no hs]
  | some i =>
    have hi := srO_lt hs
    have hp := T.sr a i ha hs
    rw [gb_some hs, gb_some hs, Nat.testBit_or, Nat.testBit_and, Nat.testBit_and, nM_bit]
    unfold Mk
    rw [mk_bit]
    simp [hi, hp]

theorem back_loop (imm : Int) (h : -9223372036854775808 ≤ imm) (h' : imm ≤ 9223372036854775807) (w w' : Nat) (hw : w < 4294967296) (hw' : w' < 4294967296) : ∀ (d k : Nat) (s5 s6 s7 s8 s10 s11 s12 : V), k + d = 6 → 1 ≤ k →
    ∃ k' s5' s6' s7' s8' s10' s11' s12', evCI pg (.loop ir_undertowlaw04_FieldBackl0) ⟨[.int .i64 imm, .int .u32 (w : Int), .int .u32 (w' : Int), .bool false, .int .i64 (k : Int), s5, s6, s7, s8, .bool false, s10, s11, s12], ⟨[], [], []⟩⟩ =
      some (.exit 0, ⟨[.int .i64 imm, .int .u32 (w : Int), .int .u32 (w' : Int), .bool false, k', s5', s6', s7', s8', .bool false, s10', s11', s12'], ⟨[], [], []⟩⟩)
  | 0, k, s5, s6, s7, s8, s10, s11, s12, hd, h1 => by
    have hk : k = 6 := by omega
    subst hk
    have hs := rfl (a := evCI pg ir_undertowlaw04_FieldBackl0 ⟨[.int .i64 imm, .int .u32 (w : Int), .int .u32 (w' : Int), .bool false, .int .i64 ((6 : Nat) : Int), s5, s6, s7, s8, .bool false, s10, s11, s12], ⟨[], [], []⟩⟩)
    conv at hs => rhs; simp [ir_undertowlaw04_FieldBackl0, go_sem]
    rw [s_loop, hs, s_then_exit]
    exact ⟨_, _, _, _, _, _, _, _, rfl⟩
  | d + 1, k, s5, s6, s7, s8, s10, s11, s12, hd, h1 => by
    have h5 : k ≤ 5 := by omega
    have hk : k < 6 := by omega
    have hk' : (k : Int) < 6 := by omega
    have e7 : IntKind.i64.wrap ((k : Int) + 1) = (k : Int) + 1 := wrap_i64 (by omega) (by omega)
    obtain ⟨g, hg⟩ : ∃ g, g = IntKind.i64.wrap ((sx (xG k w) (bitsO k : Int) : Nat) : Int) := ⟨_, rfl⟩
    have gp := get_put k w h1 h5 hw
    have c1 := Get_ok k w hw h1 h5
    rw [← hg] at gp c1
    have c2 := Put_ok k g h1 h5
    rw [gp.1, if_pos rfl, gp.2] at c2
    have hmk := Mk_lt k
    have c3 : evI pg .val n_field_Mask [.int .i64 (k : Int)] [] = some (.int .u32 (Mk k : Int), []) := Mask_ok k h1 h5
    have a1 := and_u32 hw hmk
    have a2 : andNotI .u32 (w' : Int) (Mk k : Int) = ((w' &&& nM k : Nat) : Int) := andNot_u32 hw' hmk
    have l1 : w &&& Mk k < 2 ^ 32 := Nat.and_lt_two_pow _ hmk
    have l2 : w' &&& nM k < 2 ^ 32 := Nat.and_lt_two_pow _ (nM_lt k)
    have a3 := or_u32 (show w &&& Mk k < 4294967296 by omega) (show w' &&& nM k < 4294967296 by omega)
    have l3 : (w &&& Mk k) ||| (w' &&& nM k) < 2 ^ 32 := Nat.or_lt_two_pow l1 l2
    have c4 := Get_ok k ((w &&& Mk k) ||| (w' &&& nM k)) (by omega) h1 h5
    rw [get_only k w w' h1 h5, ← hg] at c4
    cases hok : okB k imm with
    | true =>
      have c5 := Put_ok k imm h1 h5
      rw [hok, if_pos rfl] at c5
      have hpl : wPut k imm < 4294967296 := by rw [wPut_eq k imm h1 h5]; exact mk_lt 32 _
      have c6 := Get_ok k (wPut k imm) hpl h1 h5
      rw [put_get k imm h1 h5 h h' hok] at c6
      have a4 : andNotI .u32 (wPut k imm : Int) (Mk k : Int) = ((wPut k imm &&& nM k : Nat) : Int) := andNot_u32 hpl hmk
      rw [put_mask k imm h1 h5] at a4
      have hs := rfl (a := evCI pg ir_undertowlaw04_FieldBackl0 ⟨[.int .i64 imm, .int .u32 (w : Int), .int .u32 (w' : Int), .bool false, .int .i64 (k : Int), s5, s6, s7, s8, .bool false, s10, s11, s12], ⟨[], [], []⟩⟩)
      conv at hs => rhs; simp [ir_undertowlaw04_FieldBackl0, go_sem, hk, hk', c1, c2, c3, c4, c5, c6, a1, a2, a3, a4, e7, unV]
      rw [s_loop, hs, s_then_nrm]
      exact back_loop imm h h' w w' hw hw' d (k + 1) _ _ _ _ _ _ _ (by omega) (by omega)
    | false =>
      have c5 := Put_ok k imm h1 h5
      rw [hok] at c5
      have hs := rfl (a := evCI pg ir_undertowlaw04_FieldBackl0 ⟨[.int .i64 imm, .int .u32 (w : Int), .int .u32 (w' : Int), .bool false, .int .i64 (k : Int), s5, s6, s7, s8, .bool false, s10, s11, s12], ⟨[], [], []⟩⟩)
      conv at hs => rhs; simp [ir_undertowlaw04_FieldBackl0, go_sem, hk, hk', c1, c2, c3, c4, c5, a1, a2, a3, e7, unV]
      rw [s_loop, hs, s_then_nrm]
      exact back_loop imm h h' w w' hw hw' d (k + 1) _ _ _ _ _ _ _ (by omega) (by omega)
theorem FieldBack_true (imm : Int) (h : -9223372036854775808 ≤ imm) (h' : imm ≤ 9223372036854775807) (w w' : Nat) (hw : w < 4294967296) (hw' : w' < 4294967296) : evI pg .val n_undertowlaw04_FieldBack [.int .i64 imm, .int .u32 (w : Int), .int .u32 (w' : Int)] [] = some (.bool true, []) := by
  obtain ⟨a, b, c, d, e, f, g, i, hl⟩ := back_loop imm h h' w w' hw hw' 5 1 .undef .undef .undef .undef .undef .undef .undef (by omega) (by omega)
  simp at hl
  rw [s_fn fn_undertowlaw04_FieldBack]
  simp [ir_undertowlaw04_FieldBack, go_sem, callF, alive_okB, hl, unV]
theorem law_back : ∀ vs, PArgs Try.prog 5 Try.f5.params.toList vs → ∃ k, evF pg k .val 5 vs [] = some (.bool true, []) := by
  intro vs h
  obtain ⟨v1, _, rfl, h1, v2, _, rfl, h2, v3, _, rfl, h3, rfl⟩ := h
  obtain ⟨imm, rfl, hi⟩ := arg_i64 Try.underlying2 h1
  obtain ⟨w, rfl, hw⟩ := arg_u32 Try.underlying23 h2
  obtain ⟨w', rfl, hw'⟩ := arg_u32 Try.underlying23 h3
  exact (evI_iff (hx _ _)).1 (FieldBack_true imm hi.1 hi.2 w w' hw hw')
end Go.Proofs.Ytgcpojicidaphaa
