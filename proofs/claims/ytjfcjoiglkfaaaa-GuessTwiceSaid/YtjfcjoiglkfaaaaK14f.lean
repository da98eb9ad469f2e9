/- Layer 14: what may be handed to the laws (no claim; lemmas). -/
import Derived.Test.YtjfcjoiglkfaaaaK14e
import Derived.Test.YtjfcjoiglkfaaaaRows
set_option linter.unusedSimpArgs false
set_option linter.unusedVariables false
namespace Go.Proofs.Ytjfcjoiglkfaaaa
open Go Go.Vm

theorem ins_of {n : Nat} {vs : List V} (h : PVs (PV Try.prog (n + 1)) [3, 3, 3, 3, 2, 4, 4, 3, 3] vs) : ∃ i : Ins, vs = insV i ∧ i.op ≤ 9223372036854775807 := by
  obtain ⟨_, _, rfl, h1, _, _, rfl, h2, _, _, rfl, h3, _, _, rfl, h4, _, _, rfl, h5, _, _, rfl, h6, _, _, rfl, h7, _, _, rfl, h8, _, _, rfl, h9, rfl⟩ := h
  obtain ⟨op, rfl, hop⟩ := pv_i64 Try.underlying3 h1
  obtain ⟨a, rfl, _⟩ := pv_i64 Try.underlying3 h2
  obtain ⟨b, rfl, _⟩ := pv_i64 Try.underlying3 h3
  obtain ⟨c, rfl, _⟩ := pv_i64 Try.underlying3 h4
  obtain ⟨imm, rfl, _⟩ := pv_i64 Try.underlying2 h5
  obtain ⟨d, rfl⟩ := pv_bool Try.underlying4 h6
  obtain ⟨e, rfl⟩ := pv_bool Try.underlying4 h7
  obtain ⟨f, rfl, _⟩ := pv_i64 Try.underlying3 h8
  obtain ⟨g, rfl, _⟩ := pv_i64 Try.underlying3 h9
  exact ⟨⟨op, a, b, c, imm, d, e, f, g⟩, rfl, hop.2⟩
theorem pv_ins {n : Nat} {vs : List V} (h : PV Try.prog (n + 2) 24 vs) : ∃ i : Ins, vs = insV i ∧ i.op ≤ 9223372036854775807 := ins_of (pv_struct Try.underlying24 h)
theorem pv_wt {n : Nat} {vs : List V} (h : PV Try.prog (n + 3) 31 vs) : ∃ w : Wt, vs = wtV w ∧ okW w := by
  obtain ⟨_, _, rfl, h1, _, _, rfl, h2, _, _, rfl, h3, rfl⟩ := pv_struct Try.underlying31 h
  obtain ⟨i, rfl, hop⟩ := pv_ins h1
  obtain ⟨pc, rfl, hpc⟩ := pv_u64 Try.underlying25 h2
  obtain ⟨nx, rfl, hnx⟩ := pv_u64 Try.underlying25 h3
  exact ⟨⟨i, pc, nx⟩, rfl, hpc, hnx, hop⟩
theorem pv_wts {n : Nat} : ∀ es : List (List V), (∀ q ∈ es, PV Try.prog (n + 3) 31 q) → ∃ l : List Wt, es = lV l ∧ ∀ w ∈ l, okW w
  | [], _ => ⟨[], rfl, by simp⟩
  | q :: es, h => by
    obtain ⟨w, rfl, hw⟩ := pv_wt (h q (by simp))
    obtain ⟨l, rfl, hl⟩ := pv_wts es fun q hq => h q (by simp [hq])
    refine ⟨w :: l, rfl, fun x hx => ?_⟩
    rcases List.mem_cons.1 hx with rfl | hx
    · exact hw
    · exact hl x hx
theorem Train_nil (w : Wt) (H : List Vm.Obj) : evI pg .heap n_guess_Guess_Train [.nilp, .agg (insV w.i), .int .u64 (w.pc : Int), .int .u64 (w.nx : Int)] H = some (.tup [], H) := by
  rw [s_fn fn_guess_Guess_Train]
  unfold insV
  simp [ir_guess_Guess_Train, go_sem]
theorem alive14 : evI pg .val n_undertowlaw14_alive [] [] = some (.bool true, []) := closed irL_ok 300 (by kernel_rfl)
theorem cut_lV (l : List Wt) (n : Nat) (h : n ≤ l.length) : cut 11 (lV l) 0 n = some (lV (l.take n)) := by
  unfold cut
  rw [lV_take, List.drop_zero]
  cases l.take n with
  | nil => rfl
  | cons w l => rfl
theorem slc_lV (l : List Wt) (n : Nat) (h : n ≤ l.length) (m : Mem) : slcV 11 m (.isl false (lV l)) none (some (.int .i64 (n : Int))) none = some (.isl false (lV (l.take n))) := by
  have hn : asNat (lV l).length (.int .i64 (n : Int)) = some n := by
    unfold asNat
    simp only
    rw [lV_len, if_pos (by omega)]
    rfl
  have hb : bnd (lV l).length (lV l).length none (some (.int .i64 (n : Int))) = some (0, n) := by
    unfold bnd
    simp only [hn]
  unfold slcV
  simp only [hb, cut_lV l n h]
  rfl
end Go.Proofs.Ytjfcjoiglkfaaaa
