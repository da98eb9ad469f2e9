/- Layer 8: what sort and size each operation is of, and its name (no claim; lemmas). -/
import Derived.Test.YtlkcfhpklibnaaaW1
set_option linter.unusedSimpArgs false
set_option linter.unusedVariables false
namespace Go.Proofs.Ytlkcfhpklibnaaa
open Go Go.Vm

theorem tab {f n : Nat} (r : Nat → V) (h : (List.range n).map (fun k : Nat => evF (pgL irL) 60 .val f [.int .i64 (k : Int)] []) = (List.range n).map fun k : Nat => some (r k, [])) (k : Nat) (hk : k < n) :
    evI pg .val f [.int .i64 (k : Int)] [] = some (r k, []) :=
  closed irL_ok 60 ((List.map_inj_left (f := fun k : Nat => evF (pgL irL) 60 .val f [.int .i64 (k : Int)] []) (g := fun k : Nat => some (r k, []))).1 h k (List.mem_range.2 hk))
def srtL : List Nat := [0, 1, 1, 2, 2, 3, 3, 3, 3, 3, 3, 4, 4, 4, 4, 4, 4, 4, 5, 5, 5, 5, 6, 6, 6, 6, 6, 6, 6, 6, 6, 6, 6, 6, 6, 7, 7, 7, 7, 7, 7, 7, 7, 7, 7, 7, 7, 7, 7, 7, 8, 8, 9, 9, 10, 10, 11, 11, 12, 12, 12, 12, 12, 12, 12, 12, 12, 12, 12, 12, 12, 12, 12, 12, 12, 12]
def szL : List Nat := [0, 0, 0, 0, 0, 0, 0, 0, 0, 0, 0, 1, 2, 4, 8, 1, 2, 4, 1, 2, 4, 8, 0, 0, 0, 0, 0, 0, 0, 0, 0, 0, 0, 0, 0, 0, 0, 0, 0, 0, 0, 0, 0, 0, 0, 0, 0, 0, 0, 0, 0, 0, 0, 0, 4, 8, 4, 8, 4, 4, 4, 4, 4, 4, 4, 4, 4, 8, 8, 8, 8, 8, 8, 8, 8, 8]
def nmL : List (List UInt8) := [[], [108, 117, 105], [97, 117, 105, 112, 99], [106, 97, 108], [106, 97, 108, 114], [98, 101, 113], [98, 110, 101], [98, 108, 116], [98, 103, 101], [98, 108, 116, 117], [98, 103, 101, 117], [108, 98], [108, 104], [108, 119], [108, 100], [108, 98, 117], [108, 104, 117], [108, 119, 117], [115, 98], [115, 104], [115, 119], [115, 100], [97, 100, 100, 105], [115, 108, 116, 105], [115, 108, 116, 105, 117], [120, 111, 114, 105], [111, 114, 105], [97, 110, 100, 105], [115, 108, 108, 105], [115, 114, 108, 105], [115, 114, 97, 105], [97, 100, 100, 105, 119], [115, 108, 108, 105, 119], [115, 114, 108, 105, 119], [115, 114, 97, 105, 119], [97, 100, 100], [115, 117, 98], [115, 108, 108], [115, 108, 116], [115, 108, 116, 117], [120, 111, 114], [115, 114, 108], [115, 114, 97], [111, 114], [97, 110, 100], [97, 100, 100, 119], [115, 117, 98, 119], [115, 108, 108, 119], [115, 114, 108, 119], [115, 114, 97, 119], [102, 101, 110, 99, 101], [102, 101, 110, 99, 101, 46, 116, 115, 111], [101, 99, 97, 108, 108], [101, 98, 114, 101, 97, 107], [108, 114, 46, 119], [108, 114, 46, 100], [115, 99, 46, 119], [115, 99, 46, 100], [97, 109, 111, 115, 119, 97, 112, 46, 119], [97, 109, 111, 97, 100, 100, 46, 119], [97, 109, 111, 120, 111, 114, 46, 119], [97, 109, 111, 97, 110, 100, 46, 119], [97, 109, 111, 111, 114, 46, 119], [97, 109, 111, 109, 105, 110, 46, 119], [97, 109, 111, 109, 97, 120, 46, 119], [97, 109, 111, 109, 105, 110, 117, 46, 119], [97, 109, 111, 109, 97, 120, 117, 46, 119], [97, 109, 111, 115, 119, 97, 112, 46, 100], [97, 109, 111, 97, 100, 100, 46, 100], [97, 109, 111, 120, 111, 114, 46, 100], [97, 109, 111, 97, 110, 100, 46, 100], [97, 109, 111, 111, 114, 46, 100], [97, 109, 111, 109, 105, 110, 46, 100], [97, 109, 111, 109, 97, 120, 46, 100], [97, 109, 111, 109, 105, 110, 117, 46, 100], [97, 109, 111, 109, 97, 120, 117, 46, 100]]
def srt (k : Nat) : Nat := srtL.getD k 0
def sz (k : Nat) : Nat := szL.getD k 0
def nm (k : Nat) : List UInt8 := nmL.getD k []
theorem Sort_tab (k : Nat) (h : k < 76) : evI pg .val n_ops_Sort [.int .i64 (k : Int)] [] = some (.int .i64 (srt k : Nat), []) := tab (fun k => .int .i64 (srt k : Nat)) (by kernel_rfl) k h
theorem refSort_tab (k : Nat) (h : k < 76) : evI pg .val n_undertowref05_Sort [.int .i64 (k : Int)] [] = some (.int .i64 (srt k : Nat), []) := tab (fun k => .int .i64 (srt k : Nat)) (by kernel_rfl) k h
theorem Size_tab (k : Nat) (h : k < 76) : evI pg .val n_ops_Size [.int .i64 (k : Int)] [] = some (.int .i64 (sz k : Nat), []) := tab (fun k => .int .i64 (sz k : Nat)) (by kernel_rfl) k h
theorem refSize_tab (k : Nat) (h : k < 76) : evI pg .val n_undertowref05_Size [.int .i64 (k : Int)] [] = some (.int .i64 (sz k : Nat), []) := tab (fun k => .int .i64 (sz k : Nat)) (by kernel_rfl) k h
theorem refName_tab (k : Nat) (h : k < 76) : evI pg .val n_undertowref05_Name [.int .i64 (k : Int)] [] = some (.str (nm k), []) := tab (fun k => .str (nm k)) (by kernel_rfl) k h
def namesV : List (List V) := (nmL.drop 1).map fun s => [.str s]
theorem Names_ok : evI pg .val n_undertowref05_Names [] [] = some (.isl false namesV, []) := closed irL_ok 60 (by kernel_rfl)
def manyV : List (List V) := [2, 2, 6, 7, 4, 13, 15, 2, 2, 2, 2, 18].map fun n : Int => [.int .i64 n]
/-- No operation. -/
def noOp (op : Int) : Prop := op < 1 ∨ 75 < op
theorem op_cases {op : Int} : noOp op ∨ ∃ k : Nat, op = (k : Int) ∧ 1 ≤ k ∧ k < 76 := by
  by_cases h : noOp op
  · exact .inl h
  · unfold noOp at h
    exact .inr ⟨op.toNat, by omega, by omega, by omega⟩
section
variable {op : Int} (h : noOp op)
include h
theorem Sort_out : evI pg .val n_ops_Sort [.int .i64 op] [] = some (.int .i64 0, []) := by
  unfold noOp at h
  rw [s_fn fn_ops_Sort]
  by_cases c : op < 1
  · simp [ir_ops_Sort, go_sem, c]
  · have c2 : 75 < op := by omega
    simp [ir_ops_Sort, go_sem, c, c2]
theorem refName_out : evI pg .val n_undertowref05_Name [.int .i64 op] [] = some (.str [], []) := by
  unfold noOp at h
  have hN := Names_ok
  have hl : namesV.length = 75 := by kernel_rfl
  revert hN hl
  generalize namesV = es
  intro hN hl
  rw [s_fn fn_undertowref05_Name]
  by_cases c : op < 1
  · simp [ir_undertowref05_Name, go_sem, c, hN]
  · have c2 : 75 < op := by omega
    simp [ir_undertowref05_Name, go_sem, c, c2, hN, hl]
theorem Size_out : evI pg .val n_ops_Size [.int .i64 op] [] = some (.int .i64 0, []) := by
  have hS := Sort_out h
  unfold noOp at h
  have o11 : ¬ op = 11 := by omega
  have o12 : ¬ op = 12 := by omega
  have o13 : ¬ op = 13 := by omega
  have o14 : ¬ op = 14 := by omega
  have o15 : ¬ op = 15 := by omega
  have o16 : ¬ op = 16 := by omega
  have o17 : ¬ op = 17 := by omega
  have o18 : ¬ op = 18 := by omega
  have o19 : ¬ op = 19 := by omega
  have o20 : ¬ op = 20 := by omega
  have o21 : ¬ op = 21 := by omega
  have o54 : ¬ op = 54 := by omega
  have o55 : ¬ op = 55 := by omega
  have o56 : ¬ op = 56 := by omega
  have o57 : ¬ op = 57 := by omega
  rw [s_fn fn_ops_Size]
  simp [ir_ops_Size, go_sem, hS, o11, o12, o13, o14, o15, o16, o17, o18, o19, o20, o21, o54, o55, o56, o57]
end
end Go.Proofs.Ytlkcfhpklibnaaa
