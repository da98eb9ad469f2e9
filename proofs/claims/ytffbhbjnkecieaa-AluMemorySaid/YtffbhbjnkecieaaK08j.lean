/- Layer 8: where memory instructions go, and what is loaded (no claim; lemmas). -/
import Derived.Test.YtffbhbjnkecieaaK08i
set_option linter.unusedSimpArgs false
set_option linter.unusedVariables false
set_option linter.unusedSectionVars false
namespace Go.Proofs.Ytffbhbjnkecieaa
open Go Go.Vm

section
variable {a m : Nat} (ha : a < 18446744073709551616) (hm : m < 18446744073709551616)
include ha hm
theorem Address_s {op : Int} {q : Nat} (hS : evI pg .val n_ops_Sort [.int .i64 op] [] = some (.int .i64 (q : Nat), [])) (hq : q ≤ 12) (rd rs1 rs2 imm : Int) (aq rl : Bool) (pr su : Int) (hI : IntKind.u64.wrap imm = (m : Int)) : evI pg .val n_alu_Address [.agg [.int .i64 op, .int .i64 rd, .int .i64 rs1, .int .i64 rs2, .int .i64 imm, .bool aq, .bool rl, .int .i64 pr, .int .i64 su], .int .u64 (a : Int)] [] = some (.int .u64 ((if q = 4 ∨ q = 5 then (a + m) % 18446744073709551616 else if 10 ≤ q then a else 0 : Nat) : Int), []) := by
  have s1 := add_u (a := a) (b := m)
  rw [s_fn fn_alu_Address]
  rcases (show q = 0 ∨ q = 1 ∨ q = 2 ∨ q = 3 ∨ q = 4 ∨ q = 5 ∨ q = 6 ∨ q = 7 ∨ q = 8 ∨ q = 9 ∨ q = 10 ∨ q = 11 ∨ q = 12 by omega) with rfl | rfl | rfl | rfl | rfl | rfl | rfl | rfl | rfl | rfl | rfl | rfl | rfl <;>
    (simp at hS; simp [ir_alu_Address, go_sem, hS, hI, s1, -Int.natCast_emod, -Int.natCast_ediv, -Int.natCast_mul, -Int.natCast_pow, -Int.natCast_add])
theorem refAddress_s {op : Int} {q : Nat} (hS : evI pg .val n_undertowref05_Sort [.int .i64 op] [] = some (.int .i64 (q : Nat), [])) (hq : q ≤ 12) (rd rs1 rs2 imm : Int) (aq rl : Bool) (pr su : Int) (hI : IntKind.u64.wrap imm = (m : Int)) : evI pg .val n_undertowref08_Address [.agg [.int .i64 op, .int .i64 rd, .int .i64 rs1, .int .i64 rs2, .int .i64 imm, .bool aq, .bool rl, .int .i64 pr, .int .i64 su], .int .u64 (a : Int)] [] = some (.int .u64 ((if q = 4 ∨ q = 5 then (a + m) % 18446744073709551616 else if 10 ≤ q then a else 0 : Nat) : Int), []) := by
  have s1 := add_u (a := a) (b := m)
  rw [s_fn fn_undertowref08_Address]
  rcases (show q = 0 ∨ q = 1 ∨ q = 2 ∨ q = 3 ∨ q = 4 ∨ q = 5 ∨ q = 6 ∨ q = 7 ∨ q = 8 ∨ q = 9 ∨ q = 10 ∨ q = 11 ∨ q = 12 by omega) with rfl | rfl | rfl | rfl | rfl | rfl | rfl | rfl | rfl | rfl | rfl | rfl | rfl <;>
    (simp at hS; simp [ir_undertowref08_Address, go_sem, hS, hI, s1, -Int.natCast_emod, -Int.natCast_ediv, -Int.natCast_mul, -Int.natCast_pow, -Int.natCast_add])
end
section
variable {a : Nat} (ha : a < 18446744073709551616)
include ha
def ldS (k a : Nat) : Nat := if srt k = 4 ∧ 15 ≤ k then zx a (8 * (sz k : Nat)) else if srt k = 4 ∨ srt k = 10 ∨ srt k = 12 then sx a (8 * (sz k : Nat)) else 0
theorem Loaded_11 : evI pg .val n_alu_Loaded [.int .i64 11, .int .u64 (a : Int)] [] = some (.int .u64 (ldS 11 a : Nat), []) ∧ evI pg .val n_undertowref08_Loaded [.int .i64 11, .int .u64 (a : Int)] [] = some (.int .u64 (ldS 11 a : Nat), []) := by
  have hS : evI pg .val n_ops_Sort [.int .i64 11] [] = some (.int .i64 4, []) := Sort_tab 11 (by decide)
  have hZ : evI pg .val n_ops_Size [.int .i64 11] [] = some (.int .i64 1, []) := Size_tab 11 (by decide)
  have rS : evI pg .val n_undertowref05_Sort [.int .i64 11] [] = some (.int .i64 4, []) := refSort_tab 11 (by decide)
  have rZ : evI pg .val n_undertowref05_Size [.int .i64 11] [] = some (.int .i64 1, []) := refSize_tab 11 (by decide)
  have hN : evI pg .val n_undertowref05_Name [.int .i64 11] [] = some (.str [108, 98], []) := refName_tab 11 (by decide)
  have hw : IntKind.i64.wrap (8 * 1) = 8 := by rfl
  have hw2 : IntKind.i64.wrap 8 = 8 := by rfl
  have hw3 : IntKind.i64.wrap (2 - 1) = 1 := by rfl
  have hw4 : IntKind.i64.wrap 1 = 1 := by rfl
  have hst : ldS 11 a = sx a 8 := rfl
  rw [hst]
  constructor
  · rw [s_fn fn_alu_Loaded]
    simp [ir_alu_Loaded, go_sem, hS, hZ, hw, hw2, Zext_ok a 8 ha, Sext_ok a 8 ha]
  · rw [s_fn fn_undertowref08_Loaded]
    simp [ir_undertowref08_Loaded, go_sem, rS, rZ, hN, hw, hw2, hw3, hw4, refZext_ok a 8 ha, refSext_ok a 8 ha]
theorem Loaded_12 : evI pg .val n_alu_Loaded [.int .i64 12, .int .u64 (a : Int)] [] = some (.int .u64 (ldS 12 a : Nat), []) ∧ evI pg .val n_undertowref08_Loaded [.int .i64 12, .int .u64 (a : Int)] [] = some (.int .u64 (ldS 12 a : Nat), []) := by
  have hS : evI pg .val n_ops_Sort [.int .i64 12] [] = some (.int .i64 4, []) := Sort_tab 12 (by decide)
  have hZ : evI pg .val n_ops_Size [.int .i64 12] [] = some (.int .i64 2, []) := Size_tab 12 (by decide)
  have rS : evI pg .val n_undertowref05_Sort [.int .i64 12] [] = some (.int .i64 4, []) := refSort_tab 12 (by decide)
  have rZ : evI pg .val n_undertowref05_Size [.int .i64 12] [] = some (.int .i64 2, []) := refSize_tab 12 (by decide)
  have hN : evI pg .val n_undertowref05_Name [.int .i64 12] [] = some (.str [108, 104], []) := refName_tab 12 (by decide)
  have hw : IntKind.i64.wrap (8 * 2) = 16 := by rfl
  have hw2 : IntKind.i64.wrap 16 = 16 := by rfl
  have hw3 : IntKind.i64.wrap (2 - 1) = 1 := by rfl
  have hw4 : IntKind.i64.wrap 1 = 1 := by rfl
  have hst : ldS 12 a = sx a 16 := rfl
  rw [hst]
  constructor
  · rw [s_fn fn_alu_Loaded]
    simp [ir_alu_Loaded, go_sem, hS, hZ, hw, hw2, Zext_ok a 16 ha, Sext_ok a 16 ha]
  · rw [s_fn fn_undertowref08_Loaded]
    simp [ir_undertowref08_Loaded, go_sem, rS, rZ, hN, hw, hw2, hw3, hw4, refZext_ok a 16 ha, refSext_ok a 16 ha]
theorem Loaded_13 : evI pg .val n_alu_Loaded [.int .i64 13, .int .u64 (a : Int)] [] = some (.int .u64 (ldS 13 a : Nat), []) ∧ evI pg .val n_undertowref08_Loaded [.int .i64 13, .int .u64 (a : Int)] [] = some (.int .u64 (ldS 13 a : Nat), []) := by
  have hS : evI pg .val n_ops_Sort [.int .i64 13] [] = some (.int .i64 4, []) := Sort_tab 13 (by decide)
  have hZ : evI pg .val n_ops_Size [.int .i64 13] [] = some (.int .i64 4, []) := Size_tab 13 (by decide)
  have rS : evI pg .val n_undertowref05_Sort [.int .i64 13] [] = some (.int .i64 4, []) := refSort_tab 13 (by decide)
  have rZ : evI pg .val n_undertowref05_Size [.int .i64 13] [] = some (.int .i64 4, []) := refSize_tab 13 (by decide)
  have hN : evI pg .val n_undertowref05_Name [.int .i64 13] [] = some (.str [108, 119], []) := refName_tab 13 (by decide)
  have hw : IntKind.i64.wrap (8 * 4) = 32 := by rfl
  have hw2 : IntKind.i64.wrap 32 = 32 := by rfl
  have hw3 : IntKind.i64.wrap (2 - 1) = 1 := by rfl
  have hw4 : IntKind.i64.wrap 1 = 1 := by rfl
  have hst : ldS 13 a = sx a 32 := rfl
  rw [hst]
  constructor
  · rw [s_fn fn_alu_Loaded]
    simp [ir_alu_Loaded, go_sem, hS, hZ, hw, hw2, Zext_ok a 32 ha, Sext_ok a 32 ha]
  · rw [s_fn fn_undertowref08_Loaded]
    simp [ir_undertowref08_Loaded, go_sem, rS, rZ, hN, hw, hw2, hw3, hw4, refZext_ok a 32 ha, refSext_ok a 32 ha]
theorem Loaded_14 : evI pg .val n_alu_Loaded [.int .i64 14, .int .u64 (a : Int)] [] = some (.int .u64 (ldS 14 a : Nat), []) ∧ evI pg .val n_undertowref08_Loaded [.int .i64 14, .int .u64 (a : Int)] [] = some (.int .u64 (ldS 14 a : Nat), []) := by
  have hS : evI pg .val n_ops_Sort [.int .i64 14] [] = some (.int .i64 4, []) := Sort_tab 14 (by decide)
  have hZ : evI pg .val n_ops_Size [.int .i64 14] [] = some (.int .i64 8, []) := Size_tab 14 (by decide)
  have rS : evI pg .val n_undertowref05_Sort [.int .i64 14] [] = some (.int .i64 4, []) := refSort_tab 14 (by decide)
  have rZ : evI pg .val n_undertowref05_Size [.int .i64 14] [] = some (.int .i64 8, []) := refSize_tab 14 (by decide)
  have hN : evI pg .val n_undertowref05_Name [.int .i64 14] [] = some (.str [108, 100], []) := refName_tab 14 (by decide)
  have hw : IntKind.i64.wrap (8 * 8) = 64 := by rfl
  have hw2 : IntKind.i64.wrap 64 = 64 := by rfl
  have hw3 : IntKind.i64.wrap (2 - 1) = 1 := by rfl
  have hw4 : IntKind.i64.wrap 1 = 1 := by rfl
  have hst : ldS 14 a = sx a 64 := rfl
  rw [hst]
  constructor
  · rw [s_fn fn_alu_Loaded]
    simp [ir_alu_Loaded, go_sem, hS, hZ, hw, hw2, Zext_ok a 64 ha, Sext_ok a 64 ha]
  · rw [s_fn fn_undertowref08_Loaded]
    simp [ir_undertowref08_Loaded, go_sem, rS, rZ, hN, hw, hw2, hw3, hw4, refZext_ok a 64 ha, refSext_ok a 64 ha]
theorem Loaded_15 : evI pg .val n_alu_Loaded [.int .i64 15, .int .u64 (a : Int)] [] = some (.int .u64 (ldS 15 a : Nat), []) ∧ evI pg .val n_undertowref08_Loaded [.int .i64 15, .int .u64 (a : Int)] [] = some (.int .u64 (ldS 15 a : Nat), []) := by
  have hS : evI pg .val n_ops_Sort [.int .i64 15] [] = some (.int .i64 4, []) := Sort_tab 15 (by decide)
  have hZ : evI pg .val n_ops_Size [.int .i64 15] [] = some (.int .i64 1, []) := Size_tab 15 (by decide)
  have rS : evI pg .val n_undertowref05_Sort [.int .i64 15] [] = some (.int .i64 4, []) := refSort_tab 15 (by decide)
  have rZ : evI pg .val n_undertowref05_Size [.int .i64 15] [] = some (.int .i64 1, []) := refSize_tab 15 (by decide)
  have hN : evI pg .val n_undertowref05_Name [.int .i64 15] [] = some (.str [108, 98, 117], []) := refName_tab 15 (by decide)
  have hw : IntKind.i64.wrap (8 * 1) = 8 := by rfl
  have hw2 : IntKind.i64.wrap 8 = 8 := by rfl
  have hw3 : IntKind.i64.wrap (3 - 1) = 2 := by rfl
  have hw4 : IntKind.i64.wrap 2 = 2 := by rfl
  have hst : ldS 15 a = zx a 8 := rfl
  rw [hst]
  constructor
  · rw [s_fn fn_alu_Loaded]
    simp [ir_alu_Loaded, go_sem, hS, hZ, hw, hw2, Zext_ok a 8 ha, Sext_ok a 8 ha]
  · rw [s_fn fn_undertowref08_Loaded]
    simp [ir_undertowref08_Loaded, go_sem, rS, rZ, hN, hw, hw2, hw3, hw4, refZext_ok a 8 ha, refSext_ok a 8 ha]
theorem Loaded_16 : evI pg .val n_alu_Loaded [.int .i64 16, .int .u64 (a : Int)] [] = some (.int .u64 (ldS 16 a : Nat), []) ∧ evI pg .val n_undertowref08_Loaded [.int .i64 16, .int .u64 (a : Int)] [] = some (.int .u64 (ldS 16 a : Nat), []) := by
  have hS : evI pg .val n_ops_Sort [.int .i64 16] [] = some (.int .i64 4, []) := Sort_tab 16 (by decide)
  have hZ : evI pg .val n_ops_Size [.int .i64 16] [] = some (.int .i64 2, []) := Size_tab 16 (by decide)
  have rS : evI pg .val n_undertowref05_Sort [.int .i64 16] [] = some (.int .i64 4, []) := refSort_tab 16 (by decide)
  have rZ : evI pg .val n_undertowref05_Size [.int .i64 16] [] = some (.int .i64 2, []) := refSize_tab 16 (by decide)
  have hN : evI pg .val n_undertowref05_Name [.int .i64 16] [] = some (.str [108, 104, 117], []) := refName_tab 16 (by decide)
  have hw : IntKind.i64.wrap (8 * 2) = 16 := by rfl
  have hw2 : IntKind.i64.wrap 16 = 16 := by rfl
  have hw3 : IntKind.i64.wrap (3 - 1) = 2 := by rfl
  have hw4 : IntKind.i64.wrap 2 = 2 := by rfl
  have hst : ldS 16 a = zx a 16 := rfl
  rw [hst]
  constructor
  · rw [s_fn fn_alu_Loaded]
    simp [ir_alu_Loaded, go_sem, hS, hZ, hw, hw2, Zext_ok a 16 ha, Sext_ok a 16 ha]
  · rw [s_fn fn_undertowref08_Loaded]
    simp [ir_undertowref08_Loaded, go_sem, rS, rZ, hN, hw, hw2, hw3, hw4, refZext_ok a 16 ha, refSext_ok a 16 ha]
theorem Loaded_17 : evI pg .val n_alu_Loaded [.int .i64 17, .int .u64 (a : Int)] [] = some (.int .u64 (ldS 17 a : Nat), []) ∧ evI pg .val n_undertowref08_Loaded [.int .i64 17, .int .u64 (a : Int)] [] = some (.int .u64 (ldS 17 a : Nat), []) := by
  have hS : evI pg .val n_ops_Sort [.int .i64 17] [] = some (.int .i64 4, []) := Sort_tab 17 (by decide)
  have hZ : evI pg .val n_ops_Size [.int .i64 17] [] = some (.int .i64 4, []) := Size_tab 17 (by decide)
  have rS : evI pg .val n_undertowref05_Sort [.int .i64 17] [] = some (.int .i64 4, []) := refSort_tab 17 (by decide)
  have rZ : evI pg .val n_undertowref05_Size [.int .i64 17] [] = some (.int .i64 4, []) := refSize_tab 17 (by decide)
  have hN : evI pg .val n_undertowref05_Name [.int .i64 17] [] = some (.str [108, 119, 117], []) := refName_tab 17 (by decide)
  have hw : IntKind.i64.wrap (8 * 4) = 32 := by rfl
  have hw2 : IntKind.i64.wrap 32 = 32 := by rfl
  have hw3 : IntKind.i64.wrap (3 - 1) = 2 := by rfl
  have hw4 : IntKind.i64.wrap 2 = 2 := by rfl
  have hst : ldS 17 a = zx a 32 := rfl
  rw [hst]
  constructor
  · rw [s_fn fn_alu_Loaded]
    simp [ir_alu_Loaded, go_sem, hS, hZ, hw, hw2, Zext_ok a 32 ha, Sext_ok a 32 ha]
  · rw [s_fn fn_undertowref08_Loaded]
    simp [ir_undertowref08_Loaded, go_sem, rS, rZ, hN, hw, hw2, hw3, hw4, refZext_ok a 32 ha, refSext_ok a 32 ha]
theorem Loaded_54 : evI pg .val n_alu_Loaded [.int .i64 54, .int .u64 (a : Int)] [] = some (.int .u64 (ldS 54 a : Nat), []) ∧ evI pg .val n_undertowref08_Loaded [.int .i64 54, .int .u64 (a : Int)] [] = some (.int .u64 (ldS 54 a : Nat), []) := by
  have hS : evI pg .val n_ops_Sort [.int .i64 54] [] = some (.int .i64 10, []) := Sort_tab 54 (by decide)
  have hZ : evI pg .val n_ops_Size [.int .i64 54] [] = some (.int .i64 4, []) := Size_tab 54 (by decide)
  have rS : evI pg .val n_undertowref05_Sort [.int .i64 54] [] = some (.int .i64 10, []) := refSort_tab 54 (by decide)
  have rZ : evI pg .val n_undertowref05_Size [.int .i64 54] [] = some (.int .i64 4, []) := refSize_tab 54 (by decide)
  have hN : evI pg .val n_undertowref05_Name [.int .i64 54] [] = some (.str [108, 114, 46, 119], []) := refName_tab 54 (by decide)
  have hw : IntKind.i64.wrap (8 * 4) = 32 := by rfl
  have hw2 : IntKind.i64.wrap 32 = 32 := by rfl
  have hw3 : IntKind.i64.wrap (4 - 1) = 3 := by rfl
  have hw4 : IntKind.i64.wrap 3 = 3 := by rfl
  have hst : ldS 54 a = sx a 32 := rfl
  rw [hst]
  constructor
  · rw [s_fn fn_alu_Loaded]
    simp [ir_alu_Loaded, go_sem, hS, hZ, hw, hw2, Zext_ok a 32 ha, Sext_ok a 32 ha]
  · rw [s_fn fn_undertowref08_Loaded]
    simp [ir_undertowref08_Loaded, go_sem, rS, rZ, hN, hw, hw2, hw3, hw4, refZext_ok a 32 ha, refSext_ok a 32 ha]
theorem Loaded_55 : evI pg .val n_alu_Loaded [.int .i64 55, .int .u64 (a : Int)] [] = some (.int .u64 (ldS 55 a : Nat), []) ∧ evI pg .val n_undertowref08_Loaded [.int .i64 55, .int .u64 (a : Int)] [] = some (.int .u64 (ldS 55 a : Nat), []) := by
  have hS : evI pg .val n_ops_Sort [.int .i64 55] [] = some (.int .i64 10, []) := Sort_tab 55 (by decide)
  have hZ : evI pg .val n_ops_Size [.int .i64 55] [] = some (.int .i64 8, []) := Size_tab 55 (by decide)
  have rS : evI pg .val n_undertowref05_Sort [.int .i64 55] [] = some (.int .i64 10, []) := refSort_tab 55 (by decide)
  have rZ : evI pg .val n_undertowref05_Size [.int .i64 55] [] = some (.int .i64 8, []) := refSize_tab 55 (by decide)
  have hN : evI pg .val n_undertowref05_Name [.int .i64 55] [] = some (.str [108, 114, 46, 100], []) := refName_tab 55 (by decide)
  have hw : IntKind.i64.wrap (8 * 8) = 64 := by rfl
  have hw2 : IntKind.i64.wrap 64 = 64 := by rfl
  have hw3 : IntKind.i64.wrap (4 - 1) = 3 := by rfl
  have hw4 : IntKind.i64.wrap 3 = 3 := by rfl
  have hst : ldS 55 a = sx a 64 := rfl
  rw [hst]
  constructor
  · rw [s_fn fn_alu_Loaded]
    simp [ir_alu_Loaded, go_sem, hS, hZ, hw, hw2, Zext_ok a 64 ha, Sext_ok a 64 ha]
  · rw [s_fn fn_undertowref08_Loaded]
    simp [ir_undertowref08_Loaded, go_sem, rS, rZ, hN, hw, hw2, hw3, hw4, refZext_ok a 64 ha, refSext_ok a 64 ha]
theorem Loaded_58 : evI pg .val n_alu_Loaded [.int .i64 58, .int .u64 (a : Int)] [] = some (.int .u64 (ldS 58 a : Nat), []) ∧ evI pg .val n_undertowref08_Loaded [.int .i64 58, .int .u64 (a : Int)] [] = some (.int .u64 (ldS 58 a : Nat), []) := by
  have hS : evI pg .val n_ops_Sort [.int .i64 58] [] = some (.int .i64 12, []) := Sort_tab 58 (by decide)
  have hZ : evI pg .val n_ops_Size [.int .i64 58] [] = some (.int .i64 4, []) := Size_tab 58 (by decide)
  have rS : evI pg .val n_undertowref05_Sort [.int .i64 58] [] = some (.int .i64 12, []) := refSort_tab 58 (by decide)
  have rZ : evI pg .val n_undertowref05_Size [.int .i64 58] [] = some (.int .i64 4, []) := refSize_tab 58 (by decide)
  have hN : evI pg .val n_undertowref05_Name [.int .i64 58] [] = some (.str [97, 109, 111, 115, 119, 97, 112, 46, 119], []) := refName_tab 58 (by decide)
  have hw : IntKind.i64.wrap (8 * 4) = 32 := by rfl
  have hw2 : IntKind.i64.wrap 32 = 32 := by rfl
  have hw3 : IntKind.i64.wrap (9 - 1) = 8 := by rfl
  have hw4 : IntKind.i64.wrap 8 = 8 := by rfl
  have hst : ldS 58 a = sx a 32 := rfl
  rw [hst]
  constructor
  · rw [s_fn fn_alu_Loaded]
    simp [ir_alu_Loaded, go_sem, hS, hZ, hw, hw2, Zext_ok a 32 ha, Sext_ok a 32 ha]
  · rw [s_fn fn_undertowref08_Loaded]
    simp [ir_undertowref08_Loaded, go_sem, rS, rZ, hN, hw, hw2, hw3, hw4, refZext_ok a 32 ha, refSext_ok a 32 ha]
theorem Loaded_59 : evI pg .val n_alu_Loaded [.int .i64 59, .int .u64 (a : Int)] [] = some (.int .u64 (ldS 59 a : Nat), []) ∧ evI pg .val n_undertowref08_Loaded [.int .i64 59, .int .u64 (a : Int)] [] = some (.int .u64 (ldS 59 a : Nat), []) := by
  have hS : evI pg .val n_ops_Sort [.int .i64 59] [] = some (.int .i64 12, []) := Sort_tab 59 (by decide)
  have hZ : evI pg .val n_ops_Size [.int .i64 59] [] = some (.int .i64 4, []) := Size_tab 59 (by decide)
  have rS : evI pg .val n_undertowref05_Sort [.int .i64 59] [] = some (.int .i64 12, []) := refSort_tab 59 (by decide)
  have rZ : evI pg .val n_undertowref05_Size [.int .i64 59] [] = some (.int .i64 4, []) := refSize_tab 59 (by decide)
  have hN : evI pg .val n_undertowref05_Name [.int .i64 59] [] = some (.str [97, 109, 111, 97, 100, 100, 46, 119], []) := refName_tab 59 (by decide)
  have hw : IntKind.i64.wrap (8 * 4) = 32 := by rfl
  have hw2 : IntKind.i64.wrap 32 = 32 := by rfl
  have hw3 : IntKind.i64.wrap (8 - 1) = 7 := by rfl
  have hw4 : IntKind.i64.wrap 7 = 7 := by rfl
  have hst : ldS 59 a = sx a 32 := rfl
  rw [hst]
  constructor
  · rw [s_fn fn_alu_Loaded]
    simp [ir_alu_Loaded, go_sem, hS, hZ, hw, hw2, Zext_ok a 32 ha, Sext_ok a 32 ha]
  · rw [s_fn fn_undertowref08_Loaded]
    simp [ir_undertowref08_Loaded, go_sem, rS, rZ, hN, hw, hw2, hw3, hw4, refZext_ok a 32 ha, refSext_ok a 32 ha]
theorem Loaded_60 : evI pg .val n_alu_Loaded [.int .i64 60, .int .u64 (a : Int)] [] = some (.int .u64 (ldS 60 a : Nat), []) ∧ evI pg .val n_undertowref08_Loaded [.int .i64 60, .int .u64 (a : Int)] [] = some (.int .u64 (ldS 60 a : Nat), []) := by
  have hS : evI pg .val n_ops_Sort [.int .i64 60] [] = some (.int .i64 12, []) := Sort_tab 60 (by decide)
  have hZ : evI pg .val n_ops_Size [.int .i64 60] [] = some (.int .i64 4, []) := Size_tab 60 (by decide)
  have rS : evI pg .val n_undertowref05_Sort [.int .i64 60] [] = some (.int .i64 12, []) := refSort_tab 60 (by decide)
  have rZ : evI pg .val n_undertowref05_Size [.int .i64 60] [] = some (.int .i64 4, []) := refSize_tab 60 (by decide)
  have hN : evI pg .val n_undertowref05_Name [.int .i64 60] [] = some (.str [97, 109, 111, 120, 111, 114, 46, 119], []) := refName_tab 60 (by decide)
  have hw : IntKind.i64.wrap (8 * 4) = 32 := by rfl
  have hw2 : IntKind.i64.wrap 32 = 32 := by rfl
  have hw3 : IntKind.i64.wrap (8 - 1) = 7 := by rfl
  have hw4 : IntKind.i64.wrap 7 = 7 := by rfl
  have hst : ldS 60 a = sx a 32 := rfl
  rw [hst]
  constructor
  · rw [s_fn fn_alu_Loaded]
    simp [ir_alu_Loaded, go_sem, hS, hZ, hw, hw2, Zext_ok a 32 ha, Sext_ok a 32 ha]
  · rw [s_fn fn_undertowref08_Loaded]
    simp [ir_undertowref08_Loaded, go_sem, rS, rZ, hN, hw, hw2, hw3, hw4, refZext_ok a 32 ha, refSext_ok a 32 ha]
theorem Loaded_61 : evI pg .val n_alu_Loaded [.int .i64 61, .int .u64 (a : Int)] [] = some (.int .u64 (ldS 61 a : Nat), []) ∧ evI pg .val n_undertowref08_Loaded [.int .i64 61, .int .u64 (a : Int)] [] = some (.int .u64 (ldS 61 a : Nat), []) := by
  have hS : evI pg .val n_ops_Sort [.int .i64 61] [] = some (.int .i64 12, []) := Sort_tab 61 (by decide)
  have hZ : evI pg .val n_ops_Size [.int .i64 61] [] = some (.int .i64 4, []) := Size_tab 61 (by decide)
  have rS : evI pg .val n_undertowref05_Sort [.int .i64 61] [] = some (.int .i64 12, []) := refSort_tab 61 (by decide)
  have rZ : evI pg .val n_undertowref05_Size [.int .i64 61] [] = some (.int .i64 4, []) := refSize_tab 61 (by decide)
  have hN : evI pg .val n_undertowref05_Name [.int .i64 61] [] = some (.str [97, 109, 111, 97, 110, 100, 46, 119], []) := refName_tab 61 (by decide)
  have hw : IntKind.i64.wrap (8 * 4) = 32 := by rfl
  have hw2 : IntKind.i64.wrap 32 = 32 := by rfl
  have hw3 : IntKind.i64.wrap (8 - 1) = 7 := by rfl
  have hw4 : IntKind.i64.wrap 7 = 7 := by rfl
  have hst : ldS 61 a = sx a 32 := rfl
  rw [hst]
  constructor
  · rw [s_fn fn_alu_Loaded]
    simp [ir_alu_Loaded, go_sem, hS, hZ, hw, hw2, Zext_ok a 32 ha, Sext_ok a 32 ha]
  · rw [s_fn fn_undertowref08_Loaded]
    simp [ir_undertowref08_Loaded, go_sem, rS, rZ, hN, hw, hw2, hw3, hw4, refZext_ok a 32 ha, refSext_ok a 32 ha]
theorem Loaded_62 : evI pg .val n_alu_Loaded [.int .i64 62, .int .u64 (a : Int)] [] = some (.int .u64 (ldS 62 a : Nat), []) ∧ evI pg .val n_undertowref08_Loaded [.int .i64 62, .int .u64 (a : Int)] [] = some (.int .u64 (ldS 62 a : Nat), []) := by
  have hS : evI pg .val n_ops_Sort [.int .i64 62] [] = some (.int .i64 12, []) := Sort_tab 62 (by decide)
  have hZ : evI pg .val n_ops_Size [.int .i64 62] [] = some (.int .i64 4, []) := Size_tab 62 (by decide)
  have rS : evI pg .val n_undertowref05_Sort [.int .i64 62] [] = some (.int .i64 12, []) := refSort_tab 62 (by decide)
  have rZ : evI pg .val n_undertowref05_Size [.int .i64 62] [] = some (.int .i64 4, []) := refSize_tab 62 (by decide)
  have hN : evI pg .val n_undertowref05_Name [.int .i64 62] [] = some (.str [97, 109, 111, 111, 114, 46, 119], []) := refName_tab 62 (by decide)
  have hw : IntKind.i64.wrap (8 * 4) = 32 := by rfl
  have hw2 : IntKind.i64.wrap 32 = 32 := by rfl
  have hw3 : IntKind.i64.wrap (7 - 1) = 6 := by rfl
  have hw4 : IntKind.i64.wrap 6 = 6 := by rfl
  have hst : ldS 62 a = sx a 32 := rfl
  rw [hst]
  constructor
  · rw [s_fn fn_alu_Loaded]
    simp [ir_alu_Loaded, go_sem, hS, hZ, hw, hw2, Zext_ok a 32 ha, Sext_ok a 32 ha]
  · rw [s_fn fn_undertowref08_Loaded]
    simp [ir_undertowref08_Loaded, go_sem, rS, rZ, hN, hw, hw2, hw3, hw4, refZext_ok a 32 ha, refSext_ok a 32 ha]
theorem Loaded_63 : evI pg .val n_alu_Loaded [.int .i64 63, .int .u64 (a : Int)] [] = some (.int .u64 (ldS 63 a : Nat), []) ∧ evI pg .val n_undertowref08_Loaded [.int .i64 63, .int .u64 (a : Int)] [] = some (.int .u64 (ldS 63 a : Nat), []) := by
  have hS : evI pg .val n_ops_Sort [.int .i64 63] [] = some (.int .i64 12, []) := Sort_tab 63 (by decide)
  have hZ : evI pg .val n_ops_Size [.int .i64 63] [] = some (.int .i64 4, []) := Size_tab 63 (by decide)
  have rS : evI pg .val n_undertowref05_Sort [.int .i64 63] [] = some (.int .i64 12, []) := refSort_tab 63 (by decide)
  have rZ : evI pg .val n_undertowref05_Size [.int .i64 63] [] = some (.int .i64 4, []) := refSize_tab 63 (by decide)
  have hN : evI pg .val n_undertowref05_Name [.int .i64 63] [] = some (.str [97, 109, 111, 109, 105, 110, 46, 119], []) := refName_tab 63 (by decide)
  have hw : IntKind.i64.wrap (8 * 4) = 32 := by rfl
  have hw2 : IntKind.i64.wrap 32 = 32 := by rfl
  have hw3 : IntKind.i64.wrap (8 - 1) = 7 := by rfl
  have hw4 : IntKind.i64.wrap 7 = 7 := by rfl
  have hst : ldS 63 a = sx a 32 := rfl
  rw [hst]
  constructor
  · rw [s_fn fn_alu_Loaded]
    simp [ir_alu_Loaded, go_sem, hS, hZ, hw, hw2, Zext_ok a 32 ha, Sext_ok a 32 ha]
  · rw [s_fn fn_undertowref08_Loaded]
    simp [ir_undertowref08_Loaded, go_sem, rS, rZ, hN, hw, hw2, hw3, hw4, refZext_ok a 32 ha, refSext_ok a 32 ha]
theorem Loaded_64 : evI pg .val n_alu_Loaded [.int .i64 64, .int .u64 (a : Int)] [] = some (.int .u64 (ldS 64 a : Nat), []) ∧ evI pg .val n_undertowref08_Loaded [.int .i64 64, .int .u64 (a : Int)] [] = some (.int .u64 (ldS 64 a : Nat), []) := by
  have hS : evI pg .val n_ops_Sort [.int .i64 64] [] = some (.int .i64 12, []) := Sort_tab 64 (by decide)
  have hZ : evI pg .val n_ops_Size [.int .i64 64] [] = some (.int .i64 4, []) := Size_tab 64 (by decide)
  have rS : evI pg .val n_undertowref05_Sort [.int .i64 64] [] = some (.int .i64 12, []) := refSort_tab 64 (by decide)
  have rZ : evI pg .val n_undertowref05_Size [.int .i64 64] [] = some (.int .i64 4, []) := refSize_tab 64 (by decide)
  have hN : evI pg .val n_undertowref05_Name [.int .i64 64] [] = some (.str [97, 109, 111, 109, 97, 120, 46, 119], []) := refName_tab 64 (by decide)
  have hw : IntKind.i64.wrap (8 * 4) = 32 := by rfl
  have hw2 : IntKind.i64.wrap 32 = 32 := by rfl
  have hw3 : IntKind.i64.wrap (8 - 1) = 7 := by rfl
  have hw4 : IntKind.i64.wrap 7 = 7 := by rfl
  have hst : ldS 64 a = sx a 32 := rfl
  rw [hst]
  constructor
  · rw [s_fn fn_alu_Loaded]
    simp [ir_alu_Loaded, go_sem, hS, hZ, hw, hw2, Zext_ok a 32 ha, Sext_ok a 32 ha]
  · rw [s_fn fn_undertowref08_Loaded]
    simp [ir_undertowref08_Loaded, go_sem, rS, rZ, hN, hw, hw2, hw3, hw4, refZext_ok a 32 ha, refSext_ok a 32 ha]
theorem Loaded_65 : evI pg .val n_alu_Loaded [.int .i64 65, .int .u64 (a : Int)] [] = some (.int .u64 (ldS 65 a : Nat), []) ∧ evI pg .val n_undertowref08_Loaded [.int .i64 65, .int .u64 (a : Int)] [] = some (.int .u64 (ldS 65 a : Nat), []) := by
  have hS : evI pg .val n_ops_Sort [.int .i64 65] [] = some (.int .i64 12, []) := Sort_tab 65 (by decide)
  have hZ : evI pg .val n_ops_Size [.int .i64 65] [] = some (.int .i64 4, []) := Size_tab 65 (by decide)
  have rS : evI pg .val n_undertowref05_Sort [.int .i64 65] [] = some (.int .i64 12, []) := refSort_tab 65 (by decide)
  have rZ : evI pg .val n_undertowref05_Size [.int .i64 65] [] = some (.int .i64 4, []) := refSize_tab 65 (by decide)
  have hN : evI pg .val n_undertowref05_Name [.int .i64 65] [] = some (.str [97, 109, 111, 109, 105, 110, 117, 46, 119], []) := refName_tab 65 (by decide)
  have hw : IntKind.i64.wrap (8 * 4) = 32 := by rfl
  have hw2 : IntKind.i64.wrap 32 = 32 := by rfl
  have hw3 : IntKind.i64.wrap (9 - 1) = 8 := by rfl
  have hw4 : IntKind.i64.wrap 8 = 8 := by rfl
  have hst : ldS 65 a = sx a 32 := rfl
  rw [hst]
  constructor
  · rw [s_fn fn_alu_Loaded]
    simp [ir_alu_Loaded, go_sem, hS, hZ, hw, hw2, Zext_ok a 32 ha, Sext_ok a 32 ha]
  · rw [s_fn fn_undertowref08_Loaded]
    simp [ir_undertowref08_Loaded, go_sem, rS, rZ, hN, hw, hw2, hw3, hw4, refZext_ok a 32 ha, refSext_ok a 32 ha]
theorem Loaded_66 : evI pg .val n_alu_Loaded [.int .i64 66, .int .u64 (a : Int)] [] = some (.int .u64 (ldS 66 a : Nat), []) ∧ evI pg .val n_undertowref08_Loaded [.int .i64 66, .int .u64 (a : Int)] [] = some (.int .u64 (ldS 66 a : Nat), []) := by
  have hS : evI pg .val n_ops_Sort [.int .i64 66] [] = some (.int .i64 12, []) := Sort_tab 66 (by decide)
  have hZ : evI pg .val n_ops_Size [.int .i64 66] [] = some (.int .i64 4, []) := Size_tab 66 (by decide)
  have rS : evI pg .val n_undertowref05_Sort [.int .i64 66] [] = some (.int .i64 12, []) := refSort_tab 66 (by decide)
  have rZ : evI pg .val n_undertowref05_Size [.int .i64 66] [] = some (.int .i64 4, []) := refSize_tab 66 (by decide)
  have hN : evI pg .val n_undertowref05_Name [.int .i64 66] [] = some (.str [97, 109, 111, 109, 97, 120, 117, 46, 119], []) := refName_tab 66 (by decide)
  have hw : IntKind.i64.wrap (8 * 4) = 32 := by rfl
  have hw2 : IntKind.i64.wrap 32 = 32 := by rfl
  have hw3 : IntKind.i64.wrap (9 - 1) = 8 := by rfl
  have hw4 : IntKind.i64.wrap 8 = 8 := by rfl
  have hst : ldS 66 a = sx a 32 := rfl
  rw [hst]
  constructor
  · rw [s_fn fn_alu_Loaded]
    simp [ir_alu_Loaded, go_sem, hS, hZ, hw, hw2, Zext_ok a 32 ha, Sext_ok a 32 ha]
  · rw [s_fn fn_undertowref08_Loaded]
    simp [ir_undertowref08_Loaded, go_sem, rS, rZ, hN, hw, hw2, hw3, hw4, refZext_ok a 32 ha, refSext_ok a 32 ha]
theorem Loaded_67 : evI pg .val n_alu_Loaded [.int .i64 67, .int .u64 (a : Int)] [] = some (.int .u64 (ldS 67 a : Nat), []) ∧ evI pg .val n_undertowref08_Loaded [.int .i64 67, .int .u64 (a : Int)] [] = some (.int .u64 (ldS 67 a : Nat), []) := by
  have hS : evI pg .val n_ops_Sort [.int .i64 67] [] = some (.int .i64 12, []) := Sort_tab 67 (by decide)
  have hZ : evI pg .val n_ops_Size [.int .i64 67] [] = some (.int .i64 8, []) := Size_tab 67 (by decide)
  have rS : evI pg .val n_undertowref05_Sort [.int .i64 67] [] = some (.int .i64 12, []) := refSort_tab 67 (by decide)
  have rZ : evI pg .val n_undertowref05_Size [.int .i64 67] [] = some (.int .i64 8, []) := refSize_tab 67 (by decide)
  have hN : evI pg .val n_undertowref05_Name [.int .i64 67] [] = some (.str [97, 109, 111, 115, 119, 97, 112, 46, 100], []) := refName_tab 67 (by decide)
  have hw : IntKind.i64.wrap (8 * 8) = 64 := by rfl
  have hw2 : IntKind.i64.wrap 64 = 64 := by rfl
  have hw3 : IntKind.i64.wrap (9 - 1) = 8 := by rfl
  have hw4 : IntKind.i64.wrap 8 = 8 := by rfl
  have hst : ldS 67 a = sx a 64 := rfl
  rw [hst]
  constructor
  · rw [s_fn fn_alu_Loaded]
    simp [ir_alu_Loaded, go_sem, hS, hZ, hw, hw2, Zext_ok a 64 ha, Sext_ok a 64 ha]
  · rw [s_fn fn_undertowref08_Loaded]
    simp [ir_undertowref08_Loaded, go_sem, rS, rZ, hN, hw, hw2, hw3, hw4, refZext_ok a 64 ha, refSext_ok a 64 ha]
theorem Loaded_68 : evI pg .val n_alu_Loaded [.int .i64 68, .int .u64 (a : Int)] [] = some (.int .u64 (ldS 68 a : Nat), []) ∧ evI pg .val n_undertowref08_Loaded [.int .i64 68, .int .u64 (a : Int)] [] = some (.int .u64 (ldS 68 a : Nat), []) := by
  have hS : evI pg .val n_ops_Sort [.int .i64 68] [] = some (.int .i64 12, []) := Sort_tab 68 (by decide)
  have hZ : evI pg .val n_ops_Size [.int .i64 68] [] = some (.int .i64 8, []) := Size_tab 68 (by decide)
  have rS : evI pg .val n_undertowref05_Sort [.int .i64 68] [] = some (.int .i64 12, []) := refSort_tab 68 (by decide)
  have rZ : evI pg .val n_undertowref05_Size [.int .i64 68] [] = some (.int .i64 8, []) := refSize_tab 68 (by decide)
  have hN : evI pg .val n_undertowref05_Name [.int .i64 68] [] = some (.str [97, 109, 111, 97, 100, 100, 46, 100], []) := refName_tab 68 (by decide)
  have hw : IntKind.i64.wrap (8 * 8) = 64 := by rfl
  have hw2 : IntKind.i64.wrap 64 = 64 := by rfl
  have hw3 : IntKind.i64.wrap (8 - 1) = 7 := by rfl
  have hw4 : IntKind.i64.wrap 7 = 7 := by rfl
  have hst : ldS 68 a = sx a 64 := rfl
  rw [hst]
  constructor
  · rw [s_fn fn_alu_Loaded]
    simp [ir_alu_Loaded, go_sem, hS, hZ, hw, hw2, Zext_ok a 64 ha, Sext_ok a 64 ha]
  · rw [s_fn fn_undertowref08_Loaded]
    simp [ir_undertowref08_Loaded, go_sem, rS, rZ, hN, hw, hw2, hw3, hw4, refZext_ok a 64 ha, refSext_ok a 64 ha]
theorem Loaded_69 : evI pg .val n_alu_Loaded [.int .i64 69, .int .u64 (a : Int)] [] = some (.int .u64 (ldS 69 a : Nat), []) ∧ evI pg .val n_undertowref08_Loaded [.int .i64 69, .int .u64 (a : Int)] [] = some (.int .u64 (ldS 69 a : Nat), []) := by
  have hS : evI pg .val n_ops_Sort [.int .i64 69] [] = some (.int .i64 12, []) := Sort_tab 69 (by decide)
  have hZ : evI pg .val n_ops_Size [.int .i64 69] [] = some (.int .i64 8, []) := Size_tab 69 (by decide)
  have rS : evI pg .val n_undertowref05_Sort [.int .i64 69] [] = some (.int .i64 12, []) := refSort_tab 69 (by decide)
  have rZ : evI pg .val n_undertowref05_Size [.int .i64 69] [] = some (.int .i64 8, []) := refSize_tab 69 (by decide)
  have hN : evI pg .val n_undertowref05_Name [.int .i64 69] [] = some (.str [97, 109, 111, 120, 111, 114, 46, 100], []) := refName_tab 69 (by decide)
  have hw : IntKind.i64.wrap (8 * 8) = 64 := by rfl
  have hw2 : IntKind.i64.wrap 64 = 64 := by rfl
  have hw3 : IntKind.i64.wrap (8 - 1) = 7 := by rfl
  have hw4 : IntKind.i64.wrap 7 = 7 := by rfl
  have hst : ldS 69 a = sx a 64 := rfl
  rw [hst]
  constructor
  · rw [s_fn fn_alu_Loaded]
    simp [ir_alu_Loaded, go_sem, hS, hZ, hw, hw2, Zext_ok a 64 ha, Sext_ok a 64 ha]
  · rw [s_fn fn_undertowref08_Loaded]
    simp [ir_undertowref08_Loaded, go_sem, rS, rZ, hN, hw, hw2, hw3, hw4, refZext_ok a 64 ha, refSext_ok a 64 ha]
theorem Loaded_70 : evI pg .val n_alu_Loaded [.int .i64 70, .int .u64 (a : Int)] [] = some (.int .u64 (ldS 70 a : Nat), []) ∧ evI pg .val n_undertowref08_Loaded [.int .i64 70, .int .u64 (a : Int)] [] = some (.int .u64 (ldS 70 a : Nat), []) := by
  have hS : evI pg .val n_ops_Sort [.int .i64 70] [] = some (.int .i64 12, []) := Sort_tab 70 (by decide)
  have hZ : evI pg .val n_ops_Size [.int .i64 70] [] = some (.int .i64 8, []) := Size_tab 70 (by decide)
  have rS : evI pg .val n_undertowref05_Sort [.int .i64 70] [] = some (.int .i64 12, []) := refSort_tab 70 (by decide)
  have rZ : evI pg .val n_undertowref05_Size [.int .i64 70] [] = some (.int .i64 8, []) := refSize_tab 70 (by decide)
  have hN : evI pg .val n_undertowref05_Name [.int .i64 70] [] = some (.str [97, 109, 111, 97, 110, 100, 46, 100], []) := refName_tab 70 (by decide)
  have hw : IntKind.i64.wrap (8 * 8) = 64 := by rfl
  have hw2 : IntKind.i64.wrap 64 = 64 := by rfl
  have hw3 : IntKind.i64.wrap (8 - 1) = 7 := by rfl
  have hw4 : IntKind.i64.wrap 7 = 7 := by rfl
  have hst : ldS 70 a = sx a 64 := rfl
  rw [hst]
  constructor
  · rw [s_fn fn_alu_Loaded]
    simp [ir_alu_Loaded, go_sem, hS, hZ, hw, hw2, Zext_ok a 64 ha, Sext_ok a 64 ha]
  · rw [s_fn fn_undertowref08_Loaded]
    simp [ir_undertowref08_Loaded, go_sem, rS, rZ, hN, hw, hw2, hw3, hw4, refZext_ok a 64 ha, refSext_ok a 64 ha]
theorem Loaded_71 : evI pg .val n_alu_Loaded [.int .i64 71, .int .u64 (a : Int)] [] = some (.int .u64 (ldS 71 a : Nat), []) ∧ evI pg .val n_undertowref08_Loaded [.int .i64 71, .int .u64 (a : Int)] [] = some (.int .u64 (ldS 71 a : Nat), []) := by
  have hS : evI pg .val n_ops_Sort [.int .i64 71] [] = some (.int .i64 12, []) := Sort_tab 71 (by decide)
  have hZ : evI pg .val n_ops_Size [.int .i64 71] [] = some (.int .i64 8, []) := Size_tab 71 (by decide)
  have rS : evI pg .val n_undertowref05_Sort [.int .i64 71] [] = some (.int .i64 12, []) := refSort_tab 71 (by decide)
  have rZ : evI pg .val n_undertowref05_Size [.int .i64 71] [] = some (.int .i64 8, []) := refSize_tab 71 (by decide)
  have hN : evI pg .val n_undertowref05_Name [.int .i64 71] [] = some (.str [97, 109, 111, 111, 114, 46, 100], []) := refName_tab 71 (by decide)
  have hw : IntKind.i64.wrap (8 * 8) = 64 := by rfl
  have hw2 : IntKind.i64.wrap 64 = 64 := by rfl
  have hw3 : IntKind.i64.wrap (7 - 1) = 6 := by rfl
  have hw4 : IntKind.i64.wrap 6 = 6 := by rfl
  have hst : ldS 71 a = sx a 64 := rfl
  rw [hst]
  constructor
  · rw [s_fn fn_alu_Loaded]
    simp [ir_alu_Loaded, go_sem, hS, hZ, hw, hw2, Zext_ok a 64 ha, Sext_ok a 64 ha]
  · rw [s_fn fn_undertowref08_Loaded]
    simp [ir_undertowref08_Loaded, go_sem, rS, rZ, hN, hw, hw2, hw3, hw4, refZext_ok a 64 ha, refSext_ok a 64 ha]
theorem Loaded_72 : evI pg .val n_alu_Loaded [.int .i64 72, .int .u64 (a : Int)] [] = some (.int .u64 (ldS 72 a : Nat), []) ∧ evI pg .val n_undertowref08_Loaded [.int .i64 72, .int .u64 (a : Int)] [] = some (.int .u64 (ldS 72 a : Nat), []) := by
  have hS : evI pg .val n_ops_Sort [.int .i64 72] [] = some (.int .i64 12, []) := Sort_tab 72 (by decide)
  have hZ : evI pg .val n_ops_Size [.int .i64 72] [] = some (.int .i64 8, []) := Size_tab 72 (by decide)
  have rS : evI pg .val n_undertowref05_Sort [.int .i64 72] [] = some (.int .i64 12, []) := refSort_tab 72 (by decide)
  have rZ : evI pg .val n_undertowref05_Size [.int .i64 72] [] = some (.int .i64 8, []) := refSize_tab 72 (by decide)
  have hN : evI pg .val n_undertowref05_Name [.int .i64 72] [] = some (.str [97, 109, 111, 109, 105, 110, 46, 100], []) := refName_tab 72 (by decide)
  have hw : IntKind.i64.wrap (8 * 8) = 64 := by rfl
  have hw2 : IntKind.i64.wrap 64 = 64 := by rfl
  have hw3 : IntKind.i64.wrap (8 - 1) = 7 := by rfl
  have hw4 : IntKind.i64.wrap 7 = 7 := by rfl
  have hst : ldS 72 a = sx a 64 := rfl
  rw [hst]
  constructor
  · rw [s_fn fn_alu_Loaded]
    simp [ir_alu_Loaded, go_sem, hS, hZ, hw, hw2, Zext_ok a 64 ha, Sext_ok a 64 ha]
  · rw [s_fn fn_undertowref08_Loaded]
    simp [ir_undertowref08_Loaded, go_sem, rS, rZ, hN, hw, hw2, hw3, hw4, refZext_ok a 64 ha, refSext_ok a 64 ha]
theorem Loaded_73 : evI pg .val n_alu_Loaded [.int .i64 73, .int .u64 (a : Int)] [] = some (.int .u64 (ldS 73 a : Nat), []) ∧ evI pg .val n_undertowref08_Loaded [.int .i64 73, .int .u64 (a : Int)] [] = some (.int .u64 (ldS 73 a : Nat), []) := by
  have hS : evI pg .val n_ops_Sort [.int .i64 73] [] = some (.int .i64 12, []) := Sort_tab 73 (by decide)
  have hZ : evI pg .val n_ops_Size [.int .i64 73] [] = some (.int .i64 8, []) := Size_tab 73 (by decide)
  have rS : evI pg .val n_undertowref05_Sort [.int .i64 73] [] = some (.int .i64 12, []) := refSort_tab 73 (by decide)
  have rZ : evI pg .val n_undertowref05_Size [.int .i64 73] [] = some (.int .i64 8, []) := refSize_tab 73 (by decide)
  have hN : evI pg .val n_undertowref05_Name [.int .i64 73] [] = some (.str [97, 109, 111, 109, 97, 120, 46, 100], []) := refName_tab 73 (by decide)
  have hw : IntKind.i64.wrap (8 * 8) = 64 := by rfl
  have hw2 : IntKind.i64.wrap 64 = 64 := by rfl
  have hw3 : IntKind.i64.wrap (8 - 1) = 7 := by rfl
  have hw4 : IntKind.i64.wrap 7 = 7 := by rfl
  have hst : ldS 73 a = sx a 64 := rfl
  rw [hst]
  constructor
  · rw [s_fn fn_alu_Loaded]
    simp [ir_alu_Loaded, go_sem, hS, hZ, hw, hw2, Zext_ok a 64 ha, Sext_ok a 64 ha]
  · rw [s_fn fn_undertowref08_Loaded]
    simp [ir_undertowref08_Loaded, go_sem, rS, rZ, hN, hw, hw2, hw3, hw4, refZext_ok a 64 ha, refSext_ok a 64 ha]
theorem Loaded_74 : evI pg .val n_alu_Loaded [.int .i64 74, .int .u64 (a : Int)] [] = some (.int .u64 (ldS 74 a : Nat), []) ∧ evI pg .val n_undertowref08_Loaded [.int .i64 74, .int .u64 (a : Int)] [] = some (.int .u64 (ldS 74 a : Nat), []) := by
  have hS : evI pg .val n_ops_Sort [.int .i64 74] [] = some (.int .i64 12, []) := Sort_tab 74 (by decide)
  have hZ : evI pg .val n_ops_Size [.int .i64 74] [] = some (.int .i64 8, []) := Size_tab 74 (by decide)
  have rS : evI pg .val n_undertowref05_Sort [.int .i64 74] [] = some (.int .i64 12, []) := refSort_tab 74 (by decide)
  have rZ : evI pg .val n_undertowref05_Size [.int .i64 74] [] = some (.int .i64 8, []) := refSize_tab 74 (by decide)
  have hN : evI pg .val n_undertowref05_Name [.int .i64 74] [] = some (.str [97, 109, 111, 109, 105, 110, 117, 46, 100], []) := refName_tab 74 (by decide)
  have hw : IntKind.i64.wrap (8 * 8) = 64 := by rfl
  have hw2 : IntKind.i64.wrap 64 = 64 := by rfl
  have hw3 : IntKind.i64.wrap (9 - 1) = 8 := by rfl
  have hw4 : IntKind.i64.wrap 8 = 8 := by rfl
  have hst : ldS 74 a = sx a 64 := rfl
  rw [hst]
  constructor
  · rw [s_fn fn_alu_Loaded]
    simp [ir_alu_Loaded, go_sem, hS, hZ, hw, hw2, Zext_ok a 64 ha, Sext_ok a 64 ha]
  · rw [s_fn fn_undertowref08_Loaded]
    simp [ir_undertowref08_Loaded, go_sem, rS, rZ, hN, hw, hw2, hw3, hw4, refZext_ok a 64 ha, refSext_ok a 64 ha]
theorem Loaded_75 : evI pg .val n_alu_Loaded [.int .i64 75, .int .u64 (a : Int)] [] = some (.int .u64 (ldS 75 a : Nat), []) ∧ evI pg .val n_undertowref08_Loaded [.int .i64 75, .int .u64 (a : Int)] [] = some (.int .u64 (ldS 75 a : Nat), []) := by
  have hS : evI pg .val n_ops_Sort [.int .i64 75] [] = some (.int .i64 12, []) := Sort_tab 75 (by decide)
  have hZ : evI pg .val n_ops_Size [.int .i64 75] [] = some (.int .i64 8, []) := Size_tab 75 (by decide)
  have rS : evI pg .val n_undertowref05_Sort [.int .i64 75] [] = some (.int .i64 12, []) := refSort_tab 75 (by decide)
  have rZ : evI pg .val n_undertowref05_Size [.int .i64 75] [] = some (.int .i64 8, []) := refSize_tab 75 (by decide)
  have hN : evI pg .val n_undertowref05_Name [.int .i64 75] [] = some (.str [97, 109, 111, 109, 97, 120, 117, 46, 100], []) := refName_tab 75 (by decide)
  have hw : IntKind.i64.wrap (8 * 8) = 64 := by rfl
  have hw2 : IntKind.i64.wrap 64 = 64 := by rfl
  have hw3 : IntKind.i64.wrap (9 - 1) = 8 := by rfl
  have hw4 : IntKind.i64.wrap 8 = 8 := by rfl
  have hst : ldS 75 a = sx a 64 := rfl
  rw [hst]
  constructor
  · rw [s_fn fn_alu_Loaded]
    simp [ir_alu_Loaded, go_sem, hS, hZ, hw, hw2, Zext_ok a 64 ha, Sext_ok a 64 ha]
  · rw [s_fn fn_undertowref08_Loaded]
    simp [ir_undertowref08_Loaded, go_sem, rS, rZ, hN, hw, hw2, hw3, hw4, refZext_ok a 64 ha, refSext_ok a 64 ha]
theorem Loaded_no {op z : Int} {q : Nat} (hS : evI pg .val n_ops_Sort [.int .i64 op] [] = some (.int .i64 (q : Nat), [])) (hZ : evI pg .val n_ops_Size [.int .i64 op] [] = some (.int .i64 z, []))
    (rS : evI pg .val n_undertowref05_Sort [.int .i64 op] [] = some (.int .i64 (q : Nat), [])) (h4 : q ≠ 4) (h10 : q ≠ 10) (h12 : q ≠ 12) :
    evI pg .val n_alu_Loaded [.int .i64 op, .int .u64 (a : Int)] [] = some (.int .u64 0, []) ∧ evI pg .val n_undertowref08_Loaded [.int .i64 op, .int .u64 (a : Int)] [] = some (.int .u64 0, []) := by
  have e4 : ¬ ((q : Int) = 4) := by omega
  have e10 : ¬ ((q : Int) = 10) := by omega
  have e12 : ¬ ((q : Int) = 12) := by omega
  constructor
  · rw [s_fn fn_alu_Loaded]
    simp [ir_alu_Loaded, go_sem, hS, hZ, e4, e10, e12]
  · rw [s_fn fn_undertowref08_Loaded]
    simp [ir_undertowref08_Loaded, go_sem, rS, e4, e10, e12]
end
end Go.Proofs.Ytffbhbjnkecieaa
