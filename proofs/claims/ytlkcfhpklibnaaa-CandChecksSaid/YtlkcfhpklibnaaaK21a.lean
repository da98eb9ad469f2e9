/- Layer 21: instructions, and the registers that they read and write (no claim; lemmas). -/
import Derived.Test.YtlkcfhpklibnaaaK08b
import Derived.Test.YtlkcfhpklibnaaaW2
set_option linter.unusedSimpArgs false
set_option linter.unusedVariables false
namespace Go.Proofs.Ytlkcfhpklibnaaa
open Go Go.Vm

/-- An instruction, as it counts here; the rest of its cells. -/
structure In where
  (op rd rs1 rs2 imm pred succ : Int) (aq rl : Bool)
def inV (x : In) : List V := [.int .i64 x.op, .int .i64 x.rd, .int .i64 x.rs1, .int .i64 x.rs2, .int .i64 x.imm, .bool x.aq, .bool x.rl, .int .i64 x.pred, .int .i64 x.succ]
theorem inV_len (x : In) : (inV x).length = 9 := rfl
def okI (x : In) : Prop := x.op ≤ 9223372036854775807
def srtO (op : Int) : Nat := if op < 1 ∨ 75 < op then 0 else srt op.toNat
theorem srt_le : ∀ k, srt k ≤ 12 := by
  intro k
  by_cases h : k < 76
  · have : ∀ k : Fin 76, srt k.1 ≤ 12 := by decide
    exact this ⟨k, h⟩
  · have e : srt k = 0 := by
      unfold srt
      rw [List.getD_eq_getElem?_getD, List.getElem?_eq_none (by change 76 ≤ k; omega)]; rfl
    omega
theorem srtO_le (op : Int) : srtO op ≤ 12 := by
  unfold srtO
  split
  · omega
  · exact srt_le _
theorem SortO (op : Int) : evI pg .val n_ops_Sort [.int .i64 op] [] = some (.int .i64 (srtO op : Nat), []) := by
  rcases op_cases (op := op) with h | ⟨k, rfl, h1, h2⟩
  · have e : srtO op = 0 := by unfold noOp at h; unfold srtO; rw [if_pos h]
    rw [e]; exact Sort_out h
  · have e : srtO (k : Int) = srt k := by unfold srtO; rw [if_neg (by omega)]; simp
    rw [e]; exact Sort_tab k h2
theorem refSortO (op : Int) (h64 : op ≤ 9223372036854775807) : evI pg .val n_undertowref05_Sort [.int .i64 op] [] = some (.int .i64 (srtO op : Nat), []) := by
  rcases op_cases (op := op) with h | ⟨k, rfl, h1, h2⟩
  · have e : srtO op = 0 := by unfold noOp at h; unfold srtO; rw [if_pos h]
    rw [e]; exact refSort_out h h64
  · have e : srtO (k : Int) = srt k := by unfold srtO; rw [if_neg (by omega)]; simp
    rw [e]; exact refSort_tab k h2
/-- Has an operation any memory? -/
def memO (op : Int) : Bool := let s := srtO op; s == 4 || s == 5 || s == 10 || s == 11 || s == 12
theorem sz_mem : ∀ k : Fin 76, (decide (0 < sz k.1)) = (let s := srt k.1; s == 4 || s == 5 || s == 10 || s == 11 || s == 12) := by decide
theorem Memory_ok (op : Int) : evI pg .val n_ops_Memory [.int .i64 op] [] = some (.bool (memO op), []) := by
  rcases op_cases (op := op) with h | ⟨k, rfl, h1, h2⟩
  · have e : srtO op = 0 := by unfold noOp at h; unfold srtO; rw [if_pos h]
    have e1 : memO op = false := by unfold memO; rw [e]; rfl
    have hs := Size_out h
    rw [e1, s_fn fn_ops_Memory]
    simp [ir_ops_Memory, go_sem, hs]
  · have e : srtO (k : Int) = srt k := by unfold srtO; rw [if_neg (by omega)]; simp
    have e1 : memO (k : Int) = decide (0 < sz k) := by unfold memO; rw [e]; exact (sz_mem ⟨k, h2⟩).symm
    have hs := Size_tab k h2
    rw [e1, s_fn fn_ops_Memory]
    simp [ir_ops_Memory, go_sem, hs]
theorem refSizeO (op : Int) (h64 : op ≤ 9223372036854775807) : ∃ n : Nat, evI pg .val n_undertowref05_Size [.int .i64 op] [] = some (.int .i64 (n : Nat), []) ∧ decide (0 < n) = memO op := by
  rcases op_cases (op := op) with h | ⟨k, rfl, h1, h2⟩
  · have e : srtO op = 0 := by unfold noOp at h; unfold srtO; rw [if_pos h]
    have e1 : memO op = false := by unfold memO; rw [e]; rfl
    exact ⟨0, refSize_out h h64, by rw [e1]; rfl⟩
  · have e : srtO (k : Int) = srt k := by unfold srtO; rw [if_neg (by omega)]; simp
    have e1 : memO (k : Int) = decide (0 < sz k) := by unfold memO; rw [e]; exact (sz_mem ⟨k, h2⟩).symm
    exact ⟨sz k, refSize_tab k h2, e1.symm⟩
/-- A register that counts. -/
def rg (r : Int) : Int := if r < 0 ∨ 31 < r then 0 else r
theorem rg_le (r : Int) : 0 ≤ rg r ∧ rg r ≤ 31 := by unfold rg; split <;> omega
/-- Is rs1 read, is rs2? -/
def rd1 (op : Int) : Bool := let s := srtO op; decide (op = 4) || s == 3 || s == 4 || s == 5 || s == 6 || s == 7 || s == 10 || s == 11 || s == 12
def rd2 (op : Int) : Bool := let s := srtO op; s == 3 || s == 5 || s == 7 || s == 11 || s == 12
def wrt (op : Int) : Bool := let s := srtO op; !(s == 0 || s == 3 || s == 5 || s == 8 || s == 9)
def src0 (x : In) : List Int := (if rd1 x.op then [rg x.rs1] else []) ++ (if rd2 x.op then [rg x.rs2] else [])
/-- What an instruction reads. -/
def srcs (x : In) : List Int := (src0 x).filter fun r => decide (r ≠ 0)
def tgt (x : In) : Int := if wrt x.op then rg x.rd else 0
theorem srtO4 : srtO 4 = 2 := by decide
theorem le12 {s : Nat} (h : s ≤ 12) : s = 0 ∨ s = 1 ∨ s = 2 ∨ s = 3 ∨ s = 4 ∨ s = 5 ∨ s = 6 ∨ s = 7 ∨ s = 8 ∨ s = 9 ∨ s = 10 ∨ s = 11 ∨ s = 12 := by omega
end Go.Proofs.Ytlkcfhpklibnaaa
