/- Layer 19: a row is joined to a row (no claim; lemmas). -/
import Derived.Test.YtccdkkgimaajbaaDoorK19d
set_option linter.unusedSimpArgs false
set_option linter.unusedVariables false
namespace Go.Proofs.YtccdkkgimaajbaaDoor
open Go Go.Vm

theorem wR_el1 (l : List Nat) (i : Nat) (h : i < (wR l).length) : ((wR l)[i]).length = 1 := by simp [wR]
theorem andNot_zero {a b : Nat} (ha : a < 18446744073709551616) (hb : b < 18446744073709551616) : (andNotI .u64 (a : Int) (b : Int) = 0) ↔ b ||| a = b := by
  have e : andNotI .u64 (a : Int) (b : Int) = (((BitVec.ofInt 64 (a : Int) &&& ~~~(BitVec.ofInt 64 (b : Int))).toNat : Nat) : Int) := by
    show IntKind.u64.wrap (((BitVec.ofInt 64 (a : Int) &&& ~~~(BitVec.ofInt 64 (b : Int))).toNat : Nat) : Int) = _
    exact wrap_u64' (BitVec.isLt _)
  rw [e]
  have key : ∀ i, (BitVec.ofInt 64 (a : Int) &&& ~~~(BitVec.ofInt 64 (b : Int))).toNat.testBit i = (a.testBit i && !b.testBit i) := by
    intro i
    rw [BitVec.testBit_toNat, BitVec.getLsbD_and, BitVec.getLsbD_not, ← BitVec.testBit_toNat, ← BitVec.testBit_toNat, toNat64 ha, toNat64 hb]
    by_cases hi : i < 64
    · simp [hi]
    · have : a.testBit i = false := Nat.testBit_lt_two_pow (Nat.lt_of_lt_of_le ha (Nat.pow_le_pow_right (n := 2) (by omega) (show 64 ≤ i by omega)))
      simp [this]
  constructor
  · intro h0
    have h0' : (BitVec.ofInt 64 (a : Int) &&& ~~~(BitVec.ofInt 64 (b : Int))).toNat = 0 := by omega
    apply Nat.eq_of_testBit_eq
    intro i
    have := key i
    rw [h0', Nat.zero_testBit] at this
    rw [Nat.testBit_or]
    cases h1 : a.testBit i <;> cases h2 : b.testBit i <;> simp_all
  · intro h0
    have : (BitVec.ofInt 64 (a : Int) &&& ~~~(BitVec.ofInt 64 (b : Int))).toNat = 0 := by
      apply Nat.eq_of_testBit_eq
      intro i
      rw [key, Nat.zero_testBit]
      have h1 : (b ||| a).testBit i = b.testBit i := by rw [h0]
      rw [Nat.testBit_or] at h1
      cases h1 : a.testBit i <;> cases h2 : b.testBit i <;> simp_all
    omega
/-- A row, as far as it is joined. -/
def jl (k W U i : Nat) : List Nat := (List.range k).map fun j => if j < i then wd W j ||| wd U j else wd W j
theorem jl_len (k W U i : Nat) : (jl k W U i).length = k := by simp [jl]
theorem jl_zero (k W U : Nat) : jl k W U 0 = wl k W := by simp [jl, wl]
theorem jl_end (k W U : Nat) : jl k W U k = wl k (W ||| U) := by
  rw [wl_or]
  unfold jl
  apply List.map_congr_left
  intro j hj
  rw [if_pos (List.mem_range.1 hj)]
theorem jl_get {k W U i : Nat} (h : i < k) : (wR (jl k W U i))[i]? = some [.int .u64 ((wd W i : Nat) : Int)] := by
  rw [List.getElem?_eq_getElem (by rw [wR_len, jl_len]; exact h), wR_el]
  simp [jl]
theorem jl_set {k W U i : Nat} (h : i < k) : (wR (jl k W U i)).set i [.int .u64 ((wd W i ||| wd U i : Nat) : Int)] = wR (jl k W U (i + 1)) := by
  rw [wR_set]
  congr 1
  apply List.ext_getElem
  · simp [jl]
  · intro j h1 h2
    rw [List.getElem_set]
    simp only [jl, List.getElem_map, List.getElem_range]
    by_cases c : i = j
    · subst c; simp
    · rw [if_neg c]
      have : (j < i) ↔ (j < i + 1) := by omega
      simp [this]
/-- Is there more? -/
def mo (W U i : Nat) : Bool := (List.range i).any fun j => decide (¬ wd W j ||| wd U j = wd W j)
theorem mo_succ (W U i : Nat) : mo W U (i + 1) = (mo W U i || decide (¬ wd W i ||| wd U i = wd W i)) := by simp [mo, List.range_succ]
theorem wd_inj {k W U : Nat} (hW : W < 2 ^ (64 * k)) (hU : U < 2 ^ (64 * k)) (h : ∀ j, j < k → wd W j = wd U j) : W = U := by
  apply Nat.eq_of_testBit_eq
  intro i
  by_cases hi : i < 64 * k
  · have h1 := wd_bit W (i / 64) (i % 64)
    have h2 := wd_bit U (i / 64) (i % 64)
    rw [h (i / 64) (by omega)] at h1
    have hm : i % 64 < 64 := Nat.mod_lt _ (by omega)
    rw [show 64 * (i / 64) + i % 64 = i by omega] at h1 h2
    simp only [hm, decide_true, Bool.true_and] at h1 h2
    rw [← h1, ← h2]
  · rw [bit_ge hW (by omega), bit_ge hU (by omega)]
theorem wd_or (W U j : Nat) : wd (W ||| U) j = wd W j ||| wd U j := by
  apply Nat.eq_of_testBit_eq
  intro i
  rw [Nat.testBit_or, wd_bit, wd_bit, wd_bit, Nat.testBit_or]
  cases decide (i < 64) <;> simp
theorem mo_end {k W U : Nat} (hW : W < 2 ^ (64 * k)) (hU : U < 2 ^ (64 * k)) : mo W U k = decide (¬ W ||| U = W) := by
  rw [Bool.eq_iff_iff, decide_eq_true_eq]
  unfold mo
  rw [List.any_eq_true]
  constructor
  · rintro ⟨j, hj, h⟩ he
    simp only [decide_eq_true_eq] at h
    exact h (by rw [← wd_or, he])
  · intro h
    apply Classical.byContradiction
    intro hn
    apply h
    refine wd_inj (Nat.or_lt_two_pow hW hU) hW fun j hj => ?_
    rw [wd_or]
    apply Classical.byContradiction
    intro hc
    exact hn ⟨j, List.mem_range.2 hj, by simpa using hc⟩
/-- What is read of a row that is joined, whatever has been joined already. -/
def Rdy (H : List Vm.Obj) (id k W U : Nat) (y : V) : Prop :=
  ∀ i, i < k → ∀ H' : List Vm.Obj, H'[id]? = some (.arr (wR (jl k W U i))) → (∀ q, q ≠ id → H'[q]? = H[q]?) → ∃ p, iaSV 1 ⟨[], [], H'⟩ y (.int .i64 (i : Int)) = some p ∧ evLoad false 1 ⟨[], [], H'⟩ p = some (.int .u64 ((wd U i : Nat) : Int))
theorem Rdy.sl {H : List Vm.Obj} {id k W U : Nat} {y : V} (h : Sl y (wR (wl k U))) : Rdy H id k W U y := by
  intro i hi H' h1 h2
  have := h.ia (sz := 1) ⟨[], [], H'⟩ .i64 (i := i) (by rw [wR_len, wl_len]; exact hi) (by simp [wR])
  rw [wR_el] at this
  simp only [wl_el] at this
  exact ⟨_, this, by rw [e_load_ip]; rfl⟩
theorem Rdy.rsl {H : List Vm.Obj} {id k W U j : Nat} (hj : j ≠ id) (h : H[j]? = some (.arr (wR (wl k U)))) : Rdy H id k W U (.rsl j 0 k) := by
  intro i hi H' h1 h2
  have hj' : H'[j]? = some (.arr (wR (wl k U))) := by rw [h2 j hj, h]
  have hg : (wR (wl k U))[i]? = some [.int .u64 ((wd U i : Nat) : Int)] := by
    rw [List.getElem?_eq_getElem (by rw [wR_len, wl_len]; exact hi), wR_el]; simp only [wl_el]
  refine ⟨.ptr j i 0, ?_, ?_⟩
  · rw [e_ia_rsl]
    simp [asIx_nat hi, hj', wR_len, wl_len, hi, hg, wR_el1]
  · rw [e_load_ptr]
    simp [hj', hg, loadAt]
theorem Rdy.own {H : List Vm.Obj} {id k W : Nat} : Rdy H id k W W (.rsl id 0 k) := by
  intro i hi H' h1 h2
  have hg : (wR (jl k W W i))[i]? = some [.int .u64 ((wd W i : Nat) : Int)] := jl_get hi
  refine ⟨.ptr id i 0, ?_, ?_⟩
  · rw [e_ia_rsl]
    simp [asIx_nat hi, h1, wR_len, jl_len, hi, hg, wR_el1]
  · rw [e_load_ptr]
    simp [h1, hg, loadAt]
end Go.Proofs.YtccdkkgimaajbaaDoor
