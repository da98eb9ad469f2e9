/- Layer 22: pairs (no claim; lemmas). -/
import Derived.Test.YtccdkkgimaajbaaDoorK22r
set_option linter.unusedSimpArgs false
set_option linter.unusedVariables false
namespace Go.Proofs.YtccdkkgimaajbaaDoor
open Go Go.Vm

theorem prs_mem {n : Nat} {W : Nat → Nat} {q : Int × Int} (h : q ∈ prs n W 0) : ∃ a b : Nat, q = ((a : Int), (b : Int)) ∧ a < n ∧ b < n ∧ (W a).testBit b = true := by
  unfold prs at h
  rw [List.mem_flatMap] at h
  obtain ⟨a, ha, h⟩ := h
  rw [List.mem_range'] at ha
  obtain ⟨i, hi, rfl⟩ := ha
  rw [List.mem_map] at h
  obtain ⟨b, hb, rfl⟩ := h
  unfold rt at hb
  rw [List.mem_map] at hb
  obtain ⟨b', hb', rfl⟩ := hb
  rw [mem_sb] at hb'
  exact ⟨_, b', rfl, by omega, hb'.1, hb'.2⟩
theorem prs_len (n : Nat) (hn : n ≤ 512) (W : Nat → Nat) : (prs n W 0).length ≤ 1000000 := by
  have : ∀ k, (((List.range' 0 k).flatMap fun a => (rt n (W a)).map fun b => ((a : Int), b))).length ≤ 512 * k := by
    intro k
    induction k with
    | zero => simp
    | succ k ih =>
      rw [List.range'_concat, List.flatMap_append, List.length_append]
      have := rt_len n (W (0 + 1 * k))
      simp only [List.flatMap_cons, List.flatMap_nil, List.append_nil, List.length_map]
      omega
  have h := this n
  unfold prs
  rw [Nat.sub_zero]
  omega
end Go.Proofs.YtccdkkgimaajbaaDoor
