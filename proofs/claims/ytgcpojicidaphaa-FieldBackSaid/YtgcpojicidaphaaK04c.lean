/- Layer 4: May, and what Put gives, in plain words (no claim; lemmas). -/
import Derived.Test.YtgcpojicidaphaaK04b
set_option linter.unusedSimpArgs false
set_option linter.unusedVariables false
namespace Go.Proofs.Ytgcpojicidaphaa
open Go Go.Vm

def mayB (k imm : Int) : Bool :=
  if k = 1 ∨ k = 2 then decide (-2048 ≤ imm) && decide (imm ≤ 2047)
  else if k = 3 then decide (-4096 ≤ imm) && decide (imm ≤ 4095) && decide (imm.tmod 2 = 0)
  else if k = 4 then decide (-2147483648 ≤ imm) && decide (imm ≤ 2147483647) && decide (imm.tmod 4096 = 0)
  else if k = 5 then decide (-1048576 ≤ imm) && decide (imm ≤ 1048575) && decide (imm.tmod 2 = 0)
  else false
theorem May_ok (k imm : Int) : evI pg .val n_undertowref04_May [.int .i64 k, .int .i64 imm] [] = some (.bool (mayB k imm), []) := by
  rw [s_fn fn_undertowref04_May]
  by_cases h1 : k = 1
  · subst h1
    by_cases c1 : -2048 ≤ imm <;> by_cases c2 : imm ≤ 2047 <;> simp [ir_undertowref04_May, go_sem, mayB, c1, c2]
  by_cases h2 : k = 2
  · subst h2
    by_cases c1 : -2048 ≤ imm <;> by_cases c2 : imm ≤ 2047 <;> simp [ir_undertowref04_May, go_sem, mayB, c1, c2]
  by_cases h3 : k = 3
  · subst h3
    by_cases c1 : -4096 ≤ imm <;> by_cases c2 : imm ≤ 4095 <;> by_cases c3 : imm.tmod 2 = 0 <;> simp [ir_undertowref04_May, go_sem, mayB, c1, c2, c3]
  by_cases h4 : k = 4
  · subst h4
    by_cases c1 : -2147483648 ≤ imm <;> by_cases c2 : imm ≤ 2147483647 <;> by_cases c3 : imm.tmod 4096 = 0 <;> simp [ir_undertowref04_May, go_sem, mayB, c1, c2, c3]
  by_cases h5 : k = 5
  · subst h5
    by_cases c1 : -1048576 ≤ imm <;> by_cases c2 : imm ≤ 1048575 <;> by_cases c3 : imm.tmod 2 = 0 <;> simp [ir_undertowref04_May, go_sem, mayB, c1, c2, c3]
  simp [ir_undertowref04_May, go_sem, mayB, h1, h2, h3, h4, h5]

theorem tmod_zero (imm : Int) (m : Nat) (hm : 0 < m) : imm.tmod m = 0 ↔ imm % m = 0 := by
  rw [← Int.dvd_iff_emod_eq_zero, ← Int.dvd_iff_tmod_eq_zero]
theorem sx_iff12 (imm : Int) (h : -9223372036854775808 ≤ imm) (h' : imm ≤ 9223372036854775807) : sx (uo imm) 12 = uo imm ↔ -2048 ≤ imm ∧ imm ≤ 2047 := by
  have hb := mod_succ_bit (uo imm) 11
  unfold sx zx
  simp only [Int.reduceLT, Int.reduceLE, or_self, if_false, Int.reduceToNat, Nat.reduceSub, Nat.reduceAdd, Nat.reducePow] at hb ⊢
  generalize (uo imm).testBit 11 = t at hb ⊢
  unfold uo at *
  cases t <;> simp only [Bool.false_eq_true, if_false, if_true] at hb ⊢ <;> omega
theorem sx_iff13 (imm : Int) (h : -9223372036854775808 ≤ imm) (h' : imm ≤ 9223372036854775807) : sx (uo imm) 13 = uo imm ↔ -4096 ≤ imm ∧ imm ≤ 4095 := by
  have hb := mod_succ_bit (uo imm) 12
  unfold sx zx
  simp only [Int.reduceLT, Int.reduceLE, or_self, if_false, Int.reduceToNat, Nat.reduceSub, Nat.reduceAdd, Nat.reducePow] at hb ⊢
  generalize (uo imm).testBit 12 = t at hb ⊢
  unfold uo at *
  cases t <;> simp only [Bool.false_eq_true, if_false, if_true] at hb ⊢ <;> omega
theorem sx_iff21 (imm : Int) (h : -9223372036854775808 ≤ imm) (h' : imm ≤ 9223372036854775807) : sx (uo imm) 21 = uo imm ↔ -1048576 ≤ imm ∧ imm ≤ 1048575 := by
  have hb := mod_succ_bit (uo imm) 20
  unfold sx zx
  simp only [Int.reduceLT, Int.reduceLE, or_self, if_false, Int.reduceToNat, Nat.reduceSub, Nat.reduceAdd, Nat.reducePow] at hb ⊢
  generalize (uo imm).testBit 20 = t at hb ⊢
  unfold uo at *
  cases t <;> simp only [Bool.false_eq_true, if_false, if_true] at hb ⊢ <;> omega
theorem sx_iff32 (imm : Int) (h : -9223372036854775808 ≤ imm) (h' : imm ≤ 9223372036854775807) : sx (uo imm) 32 = uo imm ↔ -2147483648 ≤ imm ∧ imm ≤ 2147483647 := by
  have hb := mod_succ_bit (uo imm) 31
  unfold sx zx
  simp only [Int.reduceLT, Int.reduceLE, or_self, if_false, Int.reduceToNat, Nat.reduceSub, Nat.reduceAdd, Nat.reducePow] at hb ⊢
  generalize (uo imm).testBit 31 = t at hb ⊢
  unfold uo at *
  cases t <;> simp only [Bool.false_eq_true, if_false, if_true] at hb ⊢ <;> omega
theorem okB_eq (k : Nat) (imm : Int) (h1 : 1 ≤ k) (h5 : k ≤ 5) (h : -9223372036854775808 ≤ imm) (h' : imm ≤ 9223372036854775807) : okB k imm = mayB k imm := by
  have a12 := sx_iff12 imm h h'
  have a13 := sx_iff13 imm h h'
  have a21 := sx_iff21 imm h h'
  have a32 := sx_iff32 imm h h'
  have t2 := tmod_zero imm 2 (by omega)
  have t4 := tmod_zero imm 4096 (by omega)
  have z0 : zx (uo imm) ((0 : Nat) : Int) = 0 := by unfold zx; simp [Nat.mod_one]
  have z1 : zx (uo imm) ((1 : Nat) : Int) = 0 ↔ imm.tmod 2 = 0 := by
    refine Iff.trans ?_ t2.symm
    unfold zx uo
    simp only [Int.toNat_natCast, Nat.pow_one]
    omega
  have z4 : zx (uo imm) ((12 : Nat) : Int) = 0 ↔ imm.tmod 4096 = 0 := by
    refine Iff.trans ?_ t4.symm
    unfold zx uo
    simp only [Int.toNat_natCast, Nat.reducePow]
    omega
  have : k = 1 ∨ k = 2 ∨ k = 3 ∨ k = 4 ∨ k = 5 := by omega
  unfold okB mayB
  rcases this with rfl | rfl | rfl | rfl | rfl
  · simp [bitsO, lowO, a12, zx, Nat.mod_one, Bool.decide_and]
  · simp [bitsO, lowO, a12, zx, Nat.mod_one, Bool.decide_and]
  · rw [Bool.eq_iff_iff]
    simp only [bitsO, lowO, z1]
    simp [a13]
  · rw [Bool.eq_iff_iff]
    simp only [bitsO, lowO, z4]
    simp [a32]
  · rw [Bool.eq_iff_iff]
    simp only [bitsO, lowO, z1]
    simp [a21]

/-! ### tables in use -/
theorem tabs_of (k : Nat) (h1 : 1 ≤ k) (h5 : k ≤ 5) : tabs k = true := by
  obtain ⟨t1, t2, t3, t4, t5⟩ := tabs_ok
  have : k = 1 ∨ k = 2 ∨ k = 3 ∨ k = 4 ∨ k = 5 := by omega
  rcases this with rfl | rfl | rfl | rfl | rfl
  · exact t1
  · exact t2
  · exact t3
  · exact t4
  · exact t5
structure Tabs (k : Nat) : Prop where
  run : ∀ q ∈ runsO k, q.2.1 ≤ q.1 ∧ q.1 ≤ 31 ∧ q.2.2 ≤ 31 ∧ q.2.2 + (q.1 - q.2.1) ≤ 31
  pl : ∀ i a, i < 32 → plO k i = some a → a < bitsO k ∧ lowO k ≤ a ∧ srO k a = some i ∧ ∃ q ∈ runsO k, q.2.1 ≤ i ∧ i ≤ q.1 ∧ a = i - q.2.1 + q.2.2
  pn : ∀ i, i < 32 → plO k i = none → ∀ q ∈ runsO k, i < q.2.1 ∨ q.1 < i
  rp : ∀ i q, i < 32 → q ∈ runsO k → q.2.1 ≤ i → i ≤ q.1 → plO k i = some (i - q.2.1 + q.2.2)
  sr : ∀ a i, a < 32 → srO k a = some i → plO k i = some a
  sn : ∀ a, a < 32 → srO k a = none → a < lowO k ∨ bitsO k ≤ a
  ss : ∀ a, a < 32 → lowO k ≤ a → a < bitsO k → (srO k a).isSome = true
  top : plO k 31 = some (bitsO k - 1)
  low : lowO k < bitsO k ∧ bitsO k ≤ 32
theorem Tabs_of (k : Nat) (h1 : 1 ≤ k) (h5 : k ≤ 5) : Tabs k := by
  have h := tabs_of k h1 h5
  unfold tabs at h
  simp only [Bool.and_eq_true, List.all_eq_true, List.mem_range, decide_eq_true_eq, beq_iff_eq] at h
  obtain ⟨⟨⟨⟨⟨⟨a, b⟩, c⟩, d⟩, e⟩, f⟩, g⟩ := h
  refine ⟨fun q hq => a q hq, fun i x hi hx => ?_, fun i hi hx q hq => ?_, fun i q hi hq l1 l2 => ?_, fun x i hi hx => ?_, fun x hi hx => ?_, fun x hi l1 l2 => ?_, f, g⟩
  · have := b i hi
    rw [hx] at this
    simp only [Bool.and_eq_true, decide_eq_true_eq, beq_iff_eq, List.any_eq_true] at this
    obtain ⟨⟨⟨u1, u2⟩, u3⟩, q, u4, u5, u6, u7⟩ := this
    exact ⟨u1, u2, u3, q, u4, u5, u6, u7⟩
  · have := b i hi
    rw [hx] at this
    simp only [List.all_eq_true, decide_eq_true_eq] at this
    exact this q hq
  · have := c i hi q hq
    simpa [l1, l2] using this
  · have := d x hi
    rw [hx] at this
    simpa using this
  · have := d x hi
    rw [hx] at this
    simpa using this
  · have := e x hi
    simpa [l1, l2] using this
theorem wPut_eq (k : Nat) (imm : Int) (h1 : 1 ≤ k) (h5 : k ≤ 5) : wPut k imm = mk 32 (pf k (uo imm)) := by
  have T := Tabs_of k h1 h5
  have hlt : wPut k imm < 2 ^ 32 := by
    have : ∀ (R : List (Nat × Nat × Nat)) (acc : Nat), acc < 4294967296 → R.foldl (putS (uo imm)) acc < 4294967296 := by
      intro R
      induction R with
      | nil => intro acc h; exact h
      | cons q R ih => intro acc h; exact ih _ (putS_lt q h)
    exact this _ 0 (by omega)
  refine eq_mk hlt fun j hj => ?_
  unfold wPut
  rw [fold_bit _ _ _ fun q hq => ⟨(T.run q hq).1, (T.run q hq).2.1⟩, Nat.zero_testBit, Bool.false_or]
  unfold pf
  cases hp : plO k j with
  | none =>
    simp only
    rw [List.any_eq_false]
    intro q hq
    have := T.pn j hj hp q hq
    have h : ¬ (q.2.1 ≤ j ∧ j ≤ q.1) := by omega
    simp [h]
  | some a =>
    simp only
    obtain ⟨_, _, _, q, hq, l1, l2, e⟩ := T.pl j a hj hp
    rw [Bool.eq_iff_iff, List.any_eq_true]
    constructor
    · rintro ⟨q', hq', hh⟩
      simp only [Bool.and_eq_true, decide_eq_true_eq] at hh
      have := T.rp j q' hj hq' hh.1.1 hh.1.2
      rw [hp] at this
      cases this
      exact hh.2
    · intro hh
      refine ⟨q, hq, ?_⟩
      simp only [Bool.and_eq_true, decide_eq_true_eq]
      exact ⟨⟨l1, l2⟩, e ▸ hh⟩
end Go.Proofs.Ytgcpojicidaphaa
