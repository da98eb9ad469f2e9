/- Layer 21: what instructions read and write, by both (no claim; lemmas). -/
import Derived.Test.YtlkcfhpklibnaaaK21a
set_option linter.unusedSimpArgs false
set_option linter.unusedVariables false
namespace Go.Proofs.Ytlkcfhpklibnaaa
open Go Go.Vm

theorem inV_imm (x : In) : ∀ v ∈ inV x, v.imm = true := by
  intro v hv
  simp only [inV, List.mem_cons, List.not_mem_nil, or_false] at hv
  rcases hv with rfl | rfl | rfl | rfl | rfl | rfl | rfl | rfl | rfl <;> rfl
/-- Does an instruction give its own? -/
def giv (op : Int) : Bool := let s := srtO op; s == 4 || s == 10 || s == 11 || s == 12
/-- Does an operation store? -/
def sto (op : Int) : Bool := let s := srtO op; s == 5 || s == 11 || s == 12
theorem Stores_ok (op : Int) : evI pg .val n_ops_Stores [.int .i64 op] [] = some (.bool (sto op), []) := by
  have hS := SortO op
  have G : ∀ s : Nat, srtO op = s → (s = 0 ∨ s = 1 ∨ s = 2 ∨ s = 3 ∨ s = 4 ∨ s = 5 ∨ s = 6 ∨ s = 7 ∨ s = 8 ∨ s = 9 ∨ s = 10 ∨ s = 11 ∨ s = 12) → evI pg .val n_ops_Stores [.int .i64 op] [] = some (.bool (sto op), []) := by
    intro s hs hc
    rw [hs] at hS
    unfold sto
    rw [hs]
    rw [s_fn fn_ops_Stores]
    rcases hc with rfl | rfl | rfl | rfl | rfl | rfl | rfl | rfl | rfl | rfl | rfl | rfl | rfl <;> simp [ir_ops_Stores, go_sem, hS]
  exact G _ rfl (le12 (srtO_le _))
def no2 (x : In) : In := { x with rs2 := 0 }
def no1 (x : In) : In := { x with rs1 := 0 }
/-! ### the document's -/
theorem nm_jalr : ∀ k : Fin 76, decide (nm k.1 = [106, 97, 108, 114]) = decide (k.1 = 4) := by decide
theorem refNameO (op : Int) : ∃ s, evI pg .val n_undertowref05_Name [.int .i64 op] [] = some (.str s, []) ∧ (s = [106, 97, 108, 114] ↔ op = 4) := by
  rcases op_cases (op := op) with h | ⟨k, rfl, h1, h2⟩
  · exact ⟨[], refName_out h, by simp; unfold noOp at h; omega⟩
  · refine ⟨nm k, refName_tab k h2, ?_⟩
    have := nm_jalr ⟨k, h2⟩
    rw [decide_eq_decide] at this
    exact this.trans ⟨fun h => by have : k = 4 := h; omega, fun h => by show k = 4; omega⟩
theorem srt4 {op : Int} (h : op = 4) : srtO op = 2 := by rw [h]; exact srtO4
theorem rg_pos {r : Int} (h : 0 < rg r) : rg r = r := by
  by_cases c : r < 0 ∨ 31 < r
  · simp [rg, c] at h
  · simp [rg, c]
end Go.Proofs.Ytlkcfhpklibnaaa
