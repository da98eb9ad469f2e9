/- Layer 8: what an instruction's register becomes, both ways (no claim; lemmas). -/
import Derived.Test.YtffbhbjnkecieaaK08f
set_option linter.unusedSimpArgs false
set_option linter.unusedVariables false
set_option linter.unusedSectionVars false
namespace Go.Proofs.Ytffbhbjnkecieaa
open Go Go.Vm

def rNames : List (List UInt8) := [[108, 117, 105], [97, 117, 105, 112, 99], [106, 97, 108], [106, 97, 108, 114], [97, 100, 100, 105], [115, 108, 116, 105], [115, 108, 116, 105, 117], [120, 111, 114, 105], [111, 114, 105], [97, 110, 100, 105], [115, 108, 108, 105], [115, 114, 108, 105], [115, 114, 97, 105], [97, 100, 100, 105, 119], [115, 108, 108, 105, 119], [115, 114, 108, 105, 119], [115, 114, 97, 105, 119], [97, 100, 100], [115, 117, 98], [115, 108, 108], [115, 108, 116], [115, 108, 116, 117], [120, 111, 114], [115, 114, 108], [115, 114, 97], [111, 114], [97, 110, 100], [97, 100, 100, 119], [115, 117, 98, 119], [115, 108, 108, 119], [115, 114, 108, 119], [115, 114, 97, 119]]
theorem no_name : (List.range 76).all (fun k => (decide (1 ≤ k) && decide (k ≤ 4)) || (decide (22 ≤ k) && decide (k ≤ 49)) || rNames.all fun x => !(nm k == x)) = true := by kernel_rfl
theorem no_sort : (List.range 76).all (fun k => (decide (22 ≤ k) && decide (k ≤ 34)) || !(srt k == 6)) = true := by kernel_rfl
theorem pairs_ok : evI pg .val n_alu_pairs [] [] = some (.agg [.int .i64 35, .int .i64 38, .int .i64 39, .int .i64 40, .int .i64 43, .int .i64 44, .int .i64 37, .int .i64 41, .int .i64 42, .int .i64 45, .int .i64 47, .int .i64 48, .int .i64 49], []) := closed irL_ok 40 (by kernel_rfl)
section
variable {a b pc m : Nat} (ha : a < 18446744073709551616) (hb : b < 18446744073709551616) (hp : pc < 18446744073709551616) (hm : m < 18446744073709551616)
include ha hb hp hm
set_option maxHeartbeats 2000000 in
theorem Result_ok (k : Nat) (h1 : 1 ≤ k) (h2 : k < 76) (rd rs1 rs2 imm : Int) (aq rl : Bool) (pr su : Int) (hI : IntKind.u64.wrap imm = (m : Int)) : evI pg .val n_alu_Result [.agg [.int .i64 (k : Int), .int .i64 rd, .int .i64 rs1, .int .i64 rs2, .int .i64 imm, .bool aq, .bool rl, .int .i64 pr, .int .i64 su], .int .u64 (pc : Int), .int .u64 (a : Int), .int .u64 (b : Int)] [] = some (.int .u64 (resS k m pc a b : Nat), []) := by
  have s1 := add_u (a := pc) (b := m)
  have s2 := add_u (a := pc) (b := 4)
  rw [show ((4 : Nat) : Int) = 4 from rfl] at s2
  have P : ∀ (j : Nat) (x : Nat), 35 ≤ j → j ≤ 49 → x < 18446744073709551616 → evI pg .val n_alu_pair [.int .i64 (j : Int), .int .u64 (a : Int), .int .u64 (x : Int)] [] = some (.int .u64 (prs j a x : Nat), []) := fun j x h3 h4 h5 => pair_ok ha h5 j h3 h4
  rcases (show k = 1 ∨ k = 2 ∨ k = 3 ∨ k = 4 ∨ k = 5 ∨ k = 6 ∨ k = 7 ∨ k = 8 ∨ k = 9 ∨ k = 10 ∨ k = 11 ∨ k = 12 ∨ k = 13 ∨ k = 14 ∨ k = 15 ∨ k = 16 ∨ k = 17 ∨ k = 18 ∨ k = 19 ∨ k = 20 ∨ k = 21 ∨ k = 22 ∨ k = 23 ∨ k = 24 ∨ k = 25 ∨ k = 26 ∨ k = 27 ∨ k = 28 ∨ k = 29 ∨ k = 30 ∨ k = 31 ∨ k = 32 ∨ k = 33 ∨ k = 34 ∨ k = 35 ∨ k = 36 ∨ k = 37 ∨ k = 38 ∨ k = 39 ∨ k = 40 ∨ k = 41 ∨ k = 42 ∨ k = 43 ∨ k = 44 ∨ k = 45 ∨ k = 46 ∨ k = 47 ∨ k = 48 ∨ k = 49 ∨ k = 50 ∨ k = 51 ∨ k = 52 ∨ k = 53 ∨ k = 54 ∨ k = 55 ∨ k = 56 ∨ k = 57 ∨ k = 58 ∨ k = 59 ∨ k = 60 ∨ k = 61 ∨ k = 62 ∨ k = 63 ∨ k = 64 ∨ k = 65 ∨ k = 66 ∨ k = 67 ∨ k = 68 ∨ k = 69 ∨ k = 70 ∨ k = 71 ∨ k = 72 ∨ k = 73 ∨ k = 74 ∨ k = 75 by omega) with rfl | rfl | rfl | rfl | rfl | rfl | rfl | rfl | rfl | rfl | rfl | rfl | rfl | rfl | rfl | rfl | rfl | rfl | rfl | rfl | rfl | rfl | rfl | rfl | rfl | rfl | rfl | rfl | rfl | rfl | rfl | rfl | rfl | rfl | rfl | rfl | rfl | rfl | rfl | rfl | rfl | rfl | rfl | rfl | rfl | rfl | rfl | rfl | rfl | rfl | rfl | rfl | rfl | rfl | rfl | rfl | rfl | rfl | rfl | rfl | rfl | rfl | rfl | rfl | rfl | rfl | rfl | rfl | rfl | rfl | rfl | rfl | rfl | rfl | rfl
  · have hS : evI pg .val n_ops_Sort [.int .i64 1] [] = some (.int .i64 1, []) := Sort_tab 1 (by decide)
    rw [s_fn fn_alu_Result]
    simp [ir_alu_Result, go_sem, resS, hS, hI, s1, s2, -Int.natCast_emod, -Int.natCast_ediv, -Int.natCast_mul, -Int.natCast_pow, -Int.natCast_add]
  · have hS : evI pg .val n_ops_Sort [.int .i64 2] [] = some (.int .i64 1, []) := Sort_tab 2 (by decide)
    rw [s_fn fn_alu_Result]
    simp [ir_alu_Result, go_sem, resS, hS, hI, s1, s2, -Int.natCast_emod, -Int.natCast_ediv, -Int.natCast_mul, -Int.natCast_pow, -Int.natCast_add]
  · have hS : evI pg .val n_ops_Sort [.int .i64 3] [] = some (.int .i64 2, []) := Sort_tab 3 (by decide)
    rw [s_fn fn_alu_Result]
    simp [ir_alu_Result, go_sem, resS, hS, hI, s1, s2, -Int.natCast_emod, -Int.natCast_ediv, -Int.natCast_mul, -Int.natCast_pow, -Int.natCast_add]
  · have hS : evI pg .val n_ops_Sort [.int .i64 4] [] = some (.int .i64 2, []) := Sort_tab 4 (by decide)
    rw [s_fn fn_alu_Result]
    simp [ir_alu_Result, go_sem, resS, hS, hI, s1, s2, -Int.natCast_emod, -Int.natCast_ediv, -Int.natCast_mul, -Int.natCast_pow, -Int.natCast_add]
  · have hS : evI pg .val n_ops_Sort [.int .i64 5] [] = some (.int .i64 3, []) := Sort_tab 5 (by decide)
    rw [s_fn fn_alu_Result]
    simp [ir_alu_Result, go_sem, resS, hS, hI, s1, s2, -Int.natCast_emod, -Int.natCast_ediv, -Int.natCast_mul, -Int.natCast_pow, -Int.natCast_add]
  · have hS : evI pg .val n_ops_Sort [.int .i64 6] [] = some (.int .i64 3, []) := Sort_tab 6 (by decide)
    rw [s_fn fn_alu_Result]
    simp [ir_alu_Result, go_sem, resS, hS, hI, s1, s2, -Int.natCast_emod, -Int.natCast_ediv, -Int.natCast_mul, -Int.natCast_pow, -Int.natCast_add]
  · have hS : evI pg .val n_ops_Sort [.int .i64 7] [] = some (.int .i64 3, []) := Sort_tab 7 (by decide)
    rw [s_fn fn_alu_Result]
    simp [ir_alu_Result, go_sem, resS, hS, hI, s1, s2, -Int.natCast_emod, -Int.natCast_ediv, -Int.natCast_mul, -Int.natCast_pow, -Int.natCast_add]
  · have hS : evI pg .val n_ops_Sort [.int .i64 8] [] = some (.int .i64 3, []) := Sort_tab 8 (by decide)
    rw [s_fn fn_alu_Result]
    simp [ir_alu_Result, go_sem, resS, hS, hI, s1, s2, -Int.natCast_emod, -Int.natCast_ediv, -Int.natCast_mul, -Int.natCast_pow, -Int.natCast_add]
  · have hS : evI pg .val n_ops_Sort [.int .i64 9] [] = some (.int .i64 3, []) := Sort_tab 9 (by decide)
    rw [s_fn fn_alu_Result]
    simp [ir_alu_Result, go_sem, resS, hS, hI, s1, s2, -Int.natCast_emod, -Int.natCast_ediv, -Int.natCast_mul, -Int.natCast_pow, -Int.natCast_add]
  · have hS : evI pg .val n_ops_Sort [.int .i64 10] [] = some (.int .i64 3, []) := Sort_tab 10 (by decide)
    rw [s_fn fn_alu_Result]
    simp [ir_alu_Result, go_sem, resS, hS, hI, s1, s2, -Int.natCast_emod, -Int.natCast_ediv, -Int.natCast_mul, -Int.natCast_pow, -Int.natCast_add]
  · have hS : evI pg .val n_ops_Sort [.int .i64 11] [] = some (.int .i64 4, []) := Sort_tab 11 (by decide)
    rw [s_fn fn_alu_Result]
    simp [ir_alu_Result, go_sem, resS, hS, hI, s1, s2, -Int.natCast_emod, -Int.natCast_ediv, -Int.natCast_mul, -Int.natCast_pow, -Int.natCast_add]
  · have hS : evI pg .val n_ops_Sort [.int .i64 12] [] = some (.int .i64 4, []) := Sort_tab 12 (by decide)
    rw [s_fn fn_alu_Result]
    simp [ir_alu_Result, go_sem, resS, hS, hI, s1, s2, -Int.natCast_emod, -Int.natCast_ediv, -Int.natCast_mul, -Int.natCast_pow, -Int.natCast_add]
  · have hS : evI pg .val n_ops_Sort [.int .i64 13] [] = some (.int .i64 4, []) := Sort_tab 13 (by decide)
    rw [s_fn fn_alu_Result]
    simp [ir_alu_Result, go_sem, resS, hS, hI, s1, s2, -Int.natCast_emod, -Int.natCast_ediv, -Int.natCast_mul, -Int.natCast_pow, -Int.natCast_add]
  · have hS : evI pg .val n_ops_Sort [.int .i64 14] [] = some (.int .i64 4, []) := Sort_tab 14 (by decide)
    rw [s_fn fn_alu_Result]
    simp [ir_alu_Result, go_sem, resS, hS, hI, s1, s2, -Int.natCast_emod, -Int.natCast_ediv, -Int.natCast_mul, -Int.natCast_pow, -Int.natCast_add]
  · have hS : evI pg .val n_ops_Sort [.int .i64 15] [] = some (.int .i64 4, []) := Sort_tab 15 (by decide)
    rw [s_fn fn_alu_Result]
    simp [ir_alu_Result, go_sem, resS, hS, hI, s1, s2, -Int.natCast_emod, -Int.natCast_ediv, -Int.natCast_mul, -Int.natCast_pow, -Int.natCast_add]
  · have hS : evI pg .val n_ops_Sort [.int .i64 16] [] = some (.int .i64 4, []) := Sort_tab 16 (by decide)
    rw [s_fn fn_alu_Result]
    simp [ir_alu_Result, go_sem, resS, hS, hI, s1, s2, -Int.natCast_emod, -Int.natCast_ediv, -Int.natCast_mul, -Int.natCast_pow, -Int.natCast_add]
  · have hS : evI pg .val n_ops_Sort [.int .i64 17] [] = some (.int .i64 4, []) := Sort_tab 17 (by decide)
    rw [s_fn fn_alu_Result]
    simp [ir_alu_Result, go_sem, resS, hS, hI, s1, s2, -Int.natCast_emod, -Int.natCast_ediv, -Int.natCast_mul, -Int.natCast_pow, -Int.natCast_add]
  · have hS : evI pg .val n_ops_Sort [.int .i64 18] [] = some (.int .i64 5, []) := Sort_tab 18 (by decide)
    rw [s_fn fn_alu_Result]
    simp [ir_alu_Result, go_sem, resS, hS, hI, s1, s2, -Int.natCast_emod, -Int.natCast_ediv, -Int.natCast_mul, -Int.natCast_pow, -Int.natCast_add]
  · have hS : evI pg .val n_ops_Sort [.int .i64 19] [] = some (.int .i64 5, []) := Sort_tab 19 (by decide)
    rw [s_fn fn_alu_Result]
    simp [ir_alu_Result, go_sem, resS, hS, hI, s1, s2, -Int.natCast_emod, -Int.natCast_ediv, -Int.natCast_mul, -Int.natCast_pow, -Int.natCast_add]
  · have hS : evI pg .val n_ops_Sort [.int .i64 20] [] = some (.int .i64 5, []) := Sort_tab 20 (by decide)
    rw [s_fn fn_alu_Result]
    simp [ir_alu_Result, go_sem, resS, hS, hI, s1, s2, -Int.natCast_emod, -Int.natCast_ediv, -Int.natCast_mul, -Int.natCast_pow, -Int.natCast_add]
  · have hS : evI pg .val n_ops_Sort [.int .i64 21] [] = some (.int .i64 5, []) := Sort_tab 21 (by decide)
    rw [s_fn fn_alu_Result]
    simp [ir_alu_Result, go_sem, resS, hS, hI, s1, s2, -Int.natCast_emod, -Int.natCast_ediv, -Int.natCast_mul, -Int.natCast_pow, -Int.natCast_add]
  · have hS : evI pg .val n_ops_Sort [.int .i64 22] [] = some (.int .i64 6, []) := Sort_tab 22 (by decide)
    have hP : evI pg .val n_alu_pair [.int .i64 35, .int .u64 (a : Int), .int .u64 (m : Int)] [] = some (.int .u64 (prs 35 a m : Nat), []) := P 35 m (by decide) (by decide) hm
    have hw : IntKind.i64.wrap (22 - 22) = 0 := by rfl
    rw [s_fn fn_alu_Result]
    simp [ir_alu_Result, go_sem, resS, hS, hI, hP, pairs_ok, pairOf, hw, s1, s2, -Int.natCast_emod, -Int.natCast_ediv, -Int.natCast_mul, -Int.natCast_pow, -Int.natCast_add]
  · have hS : evI pg .val n_ops_Sort [.int .i64 23] [] = some (.int .i64 6, []) := Sort_tab 23 (by decide)
    have hP : evI pg .val n_alu_pair [.int .i64 38, .int .u64 (a : Int), .int .u64 (m : Int)] [] = some (.int .u64 (prs 38 a m : Nat), []) := P 38 m (by decide) (by decide) hm
    have hw : IntKind.i64.wrap (23 - 22) = 1 := by rfl
    rw [s_fn fn_alu_Result]
    simp [ir_alu_Result, go_sem, resS, hS, hI, hP, pairs_ok, pairOf, hw, s1, s2, -Int.natCast_emod, -Int.natCast_ediv, -Int.natCast_mul, -Int.natCast_pow, -Int.natCast_add]
  · have hS : evI pg .val n_ops_Sort [.int .i64 24] [] = some (.int .i64 6, []) := Sort_tab 24 (by decide)
    have hP : evI pg .val n_alu_pair [.int .i64 39, .int .u64 (a : Int), .int .u64 (m : Int)] [] = some (.int .u64 (prs 39 a m : Nat), []) := P 39 m (by decide) (by decide) hm
    have hw : IntKind.i64.wrap (24 - 22) = 2 := by rfl
    rw [s_fn fn_alu_Result]
    simp [ir_alu_Result, go_sem, resS, hS, hI, hP, pairs_ok, pairOf, hw, s1, s2, -Int.natCast_emod, -Int.natCast_ediv, -Int.natCast_mul, -Int.natCast_pow, -Int.natCast_add]
  · have hS : evI pg .val n_ops_Sort [.int .i64 25] [] = some (.int .i64 6, []) := Sort_tab 25 (by decide)
    have hP : evI pg .val n_alu_pair [.int .i64 40, .int .u64 (a : Int), .int .u64 (m : Int)] [] = some (.int .u64 (prs 40 a m : Nat), []) := P 40 m (by decide) (by decide) hm
    have hw : IntKind.i64.wrap (25 - 22) = 3 := by rfl
    rw [s_fn fn_alu_Result]
    simp [ir_alu_Result, go_sem, resS, hS, hI, hP, pairs_ok, pairOf, hw, s1, s2, -Int.natCast_emod, -Int.natCast_ediv, -Int.natCast_mul, -Int.natCast_pow, -Int.natCast_add]
  · have hS : evI pg .val n_ops_Sort [.int .i64 26] [] = some (.int .i64 6, []) := Sort_tab 26 (by decide)
    have hP : evI pg .val n_alu_pair [.int .i64 43, .int .u64 (a : Int), .int .u64 (m : Int)] [] = some (.int .u64 (prs 43 a m : Nat), []) := P 43 m (by decide) (by decide) hm
    have hw : IntKind.i64.wrap (26 - 22) = 4 := by rfl
    rw [s_fn fn_alu_Result]
    simp [ir_alu_Result, go_sem, resS, hS, hI, hP, pairs_ok, pairOf, hw, s1, s2, -Int.natCast_emod, -Int.natCast_ediv, -Int.natCast_mul, -Int.natCast_pow, -Int.natCast_add]
  · have hS : evI pg .val n_ops_Sort [.int .i64 27] [] = some (.int .i64 6, []) := Sort_tab 27 (by decide)
    have hP : evI pg .val n_alu_pair [.int .i64 44, .int .u64 (a : Int), .int .u64 (m : Int)] [] = some (.int .u64 (prs 44 a m : Nat), []) := P 44 m (by decide) (by decide) hm
    have hw : IntKind.i64.wrap (27 - 22) = 5 := by rfl
    rw [s_fn fn_alu_Result]
    simp [ir_alu_Result, go_sem, resS, hS, hI, hP, pairs_ok, pairOf, hw, s1, s2, -Int.natCast_emod, -Int.natCast_ediv, -Int.natCast_mul, -Int.natCast_pow, -Int.natCast_add]
  · have hS : evI pg .val n_ops_Sort [.int .i64 28] [] = some (.int .i64 6, []) := Sort_tab 28 (by decide)
    have hP : evI pg .val n_alu_pair [.int .i64 37, .int .u64 (a : Int), .int .u64 (m : Int)] [] = some (.int .u64 (prs 37 a m : Nat), []) := P 37 m (by decide) (by decide) hm
    have hw : IntKind.i64.wrap (28 - 22) = 6 := by rfl
    rw [s_fn fn_alu_Result]
    simp [ir_alu_Result, go_sem, resS, hS, hI, hP, pairs_ok, pairOf, hw, s1, s2, -Int.natCast_emod, -Int.natCast_ediv, -Int.natCast_mul, -Int.natCast_pow, -Int.natCast_add]
  · have hS : evI pg .val n_ops_Sort [.int .i64 29] [] = some (.int .i64 6, []) := Sort_tab 29 (by decide)
    have hP : evI pg .val n_alu_pair [.int .i64 41, .int .u64 (a : Int), .int .u64 (m : Int)] [] = some (.int .u64 (prs 41 a m : Nat), []) := P 41 m (by decide) (by decide) hm
    have hw : IntKind.i64.wrap (29 - 22) = 7 := by rfl
    rw [s_fn fn_alu_Result]
    simp [ir_alu_Result, go_sem, resS, hS, hI, hP, pairs_ok, pairOf, hw, s1, s2, -Int.natCast_emod, -Int.natCast_ediv, -Int.natCast_mul, -Int.natCast_pow, -Int.natCast_add]
  · have hS : evI pg .val n_ops_Sort [.int .i64 30] [] = some (.int .i64 6, []) := Sort_tab 30 (by decide)
    have hP : evI pg .val n_alu_pair [.int .i64 42, .int .u64 (a : Int), .int .u64 (m : Int)] [] = some (.int .u64 (prs 42 a m : Nat), []) := P 42 m (by decide) (by decide) hm
    have hw : IntKind.i64.wrap (30 - 22) = 8 := by rfl
    rw [s_fn fn_alu_Result]
    simp [ir_alu_Result, go_sem, resS, hS, hI, hP, pairs_ok, pairOf, hw, s1, s2, -Int.natCast_emod, -Int.natCast_ediv, -Int.natCast_mul, -Int.natCast_pow, -Int.natCast_add]
  · have hS : evI pg .val n_ops_Sort [.int .i64 31] [] = some (.int .i64 6, []) := Sort_tab 31 (by decide)
    have hP : evI pg .val n_alu_pair [.int .i64 45, .int .u64 (a : Int), .int .u64 (m : Int)] [] = some (.int .u64 (prs 45 a m : Nat), []) := P 45 m (by decide) (by decide) hm
    have hw : IntKind.i64.wrap (31 - 22) = 9 := by rfl
    rw [s_fn fn_alu_Result]
    simp [ir_alu_Result, go_sem, resS, hS, hI, hP, pairs_ok, pairOf, hw, s1, s2, -Int.natCast_emod, -Int.natCast_ediv, -Int.natCast_mul, -Int.natCast_pow, -Int.natCast_add]
  · have hS : evI pg .val n_ops_Sort [.int .i64 32] [] = some (.int .i64 6, []) := Sort_tab 32 (by decide)
    have hP : evI pg .val n_alu_pair [.int .i64 47, .int .u64 (a : Int), .int .u64 (m : Int)] [] = some (.int .u64 (prs 47 a m : Nat), []) := P 47 m (by decide) (by decide) hm
    have hw : IntKind.i64.wrap (32 - 22) = 10 := by rfl
    rw [s_fn fn_alu_Result]
    simp [ir_alu_Result, go_sem, resS, hS, hI, hP, pairs_ok, pairOf, hw, s1, s2, -Int.natCast_emod, -Int.natCast_ediv, -Int.natCast_mul, -Int.natCast_pow, -Int.natCast_add]
  · have hS : evI pg .val n_ops_Sort [.int .i64 33] [] = some (.int .i64 6, []) := Sort_tab 33 (by decide)
    have hP : evI pg .val n_alu_pair [.int .i64 48, .int .u64 (a : Int), .int .u64 (m : Int)] [] = some (.int .u64 (prs 48 a m : Nat), []) := P 48 m (by decide) (by decide) hm
    have hw : IntKind.i64.wrap (33 - 22) = 11 := by rfl
    rw [s_fn fn_alu_Result]
    simp [ir_alu_Result, go_sem, resS, hS, hI, hP, pairs_ok, pairOf, hw, s1, s2, -Int.natCast_emod, -Int.natCast_ediv, -Int.natCast_mul, -Int.natCast_pow, -Int.natCast_add]
  · have hS : evI pg .val n_ops_Sort [.int .i64 34] [] = some (.int .i64 6, []) := Sort_tab 34 (by decide)
    have hP : evI pg .val n_alu_pair [.int .i64 49, .int .u64 (a : Int), .int .u64 (m : Int)] [] = some (.int .u64 (prs 49 a m : Nat), []) := P 49 m (by decide) (by decide) hm
    have hw : IntKind.i64.wrap (34 - 22) = 12 := by rfl
    rw [s_fn fn_alu_Result]
    simp [ir_alu_Result, go_sem, resS, hS, hI, hP, pairs_ok, pairOf, hw, s1, s2, -Int.natCast_emod, -Int.natCast_ediv, -Int.natCast_mul, -Int.natCast_pow, -Int.natCast_add]
  · have hS : evI pg .val n_ops_Sort [.int .i64 35] [] = some (.int .i64 7, []) := Sort_tab 35 (by decide)
    have hP : evI pg .val n_alu_pair [.int .i64 35, .int .u64 (a : Int), .int .u64 (b : Int)] [] = some (.int .u64 (prs 35 a b : Nat), []) := P 35 b (by decide) (by decide) hb
    rw [s_fn fn_alu_Result]
    simp [ir_alu_Result, go_sem, resS, hS, hI, hP, s1, s2, -Int.natCast_emod, -Int.natCast_ediv, -Int.natCast_mul, -Int.natCast_pow, -Int.natCast_add]
  · have hS : evI pg .val n_ops_Sort [.int .i64 36] [] = some (.int .i64 7, []) := Sort_tab 36 (by decide)
    have hP : evI pg .val n_alu_pair [.int .i64 36, .int .u64 (a : Int), .int .u64 (b : Int)] [] = some (.int .u64 (prs 36 a b : Nat), []) := P 36 b (by decide) (by decide) hb
    rw [s_fn fn_alu_Result]
    simp [ir_alu_Result, go_sem, resS, hS, hI, hP, s1, s2, -Int.natCast_emod, -Int.natCast_ediv, -Int.natCast_mul, -Int.natCast_pow, -Int.natCast_add]
  · have hS : evI pg .val n_ops_Sort [.int .i64 37] [] = some (.int .i64 7, []) := Sort_tab 37 (by decide)
    have hP : evI pg .val n_alu_pair [.int .i64 37, .int .u64 (a : Int), .int .u64 (b : Int)] [] = some (.int .u64 (prs 37 a b : Nat), []) := P 37 b (by decide) (by decide) hb
    rw [s_fn fn_alu_Result]
    simp [ir_alu_Result, go_sem, resS, hS, hI, hP, s1, s2, -Int.natCast_emod, -Int.natCast_ediv, -Int.natCast_mul, -Int.natCast_pow, -Int.natCast_add]
  · have hS : evI pg .val n_ops_Sort [.int .i64 38] [] = some (.int .i64 7, []) := Sort_tab 38 (by decide)
    have hP : evI pg .val n_alu_pair [.int .i64 38, .int .u64 (a : Int), .int .u64 (b : Int)] [] = some (.int .u64 (prs 38 a b : Nat), []) := P 38 b (by decide) (by decide) hb
    rw [s_fn fn_alu_Result]
    simp [ir_alu_Result, go_sem, resS, hS, hI, hP, s1, s2, -Int.natCast_emod, -Int.natCast_ediv, -Int.natCast_mul, -Int.natCast_pow, -Int.natCast_add]
  · have hS : evI pg .val n_ops_Sort [.int .i64 39] [] = some (.int .i64 7, []) := Sort_tab 39 (by decide)
    have hP : evI pg .val n_alu_pair [.int .i64 39, .int .u64 (a : Int), .int .u64 (b : Int)] [] = some (.int .u64 (prs 39 a b : Nat), []) := P 39 b (by decide) (by decide) hb
    rw [s_fn fn_alu_Result]
    simp [ir_alu_Result, go_sem, resS, hS, hI, hP, s1, s2, -Int.natCast_emod, -Int.natCast_ediv, -Int.natCast_mul, -Int.natCast_pow, -Int.natCast_add]
  · have hS : evI pg .val n_ops_Sort [.int .i64 40] [] = some (.int .i64 7, []) := Sort_tab 40 (by decide)
    have hP : evI pg .val n_alu_pair [.int .i64 40, .int .u64 (a : Int), .int .u64 (b : Int)] [] = some (.int .u64 (prs 40 a b : Nat), []) := P 40 b (by decide) (by decide) hb
    rw [s_fn fn_alu_Result]
    simp [ir_alu_Result, go_sem, resS, hS, hI, hP, s1, s2, -Int.natCast_emod, -Int.natCast_ediv, -Int.natCast_mul, -Int.natCast_pow, -Int.natCast_add]
  · have hS : evI pg .val n_ops_Sort [.int .i64 41] [] = some (.int .i64 7, []) := Sort_tab 41 (by decide)
    have hP : evI pg .val n_alu_pair [.int .i64 41, .int .u64 (a : Int), .int .u64 (b : Int)] [] = some (.int .u64 (prs 41 a b : Nat), []) := P 41 b (by decide) (by decide) hb
    rw [s_fn fn_alu_Result]
    simp [ir_alu_Result, go_sem, resS, hS, hI, hP, s1, s2, -Int.natCast_emod, -Int.natCast_ediv, -Int.natCast_mul, -Int.natCast_pow, -Int.natCast_add]
  · have hS : evI pg .val n_ops_Sort [.int .i64 42] [] = some (.int .i64 7, []) := Sort_tab 42 (by decide)
    have hP : evI pg .val n_alu_pair [.int .i64 42, .int .u64 (a : Int), .int .u64 (b : Int)] [] = some (.int .u64 (prs 42 a b : Nat), []) := P 42 b (by decide) (by decide) hb
    rw [s_fn fn_alu_Result]
    simp [ir_alu_Result, go_sem, resS, hS, hI, hP, s1, s2, -Int.natCast_emod, -Int.natCast_ediv, -Int.natCast_mul, -Int.natCast_pow, -Int.natCast_add]
  · have hS : evI pg .val n_ops_Sort [.int .i64 43] [] = some (.int .i64 7, []) := Sort_tab 43 (by decide)
    have hP : evI pg .val n_alu_pair [.int .i64 43, .int .u64 (a : Int), .int .u64 (b : Int)] [] = some (.int .u64 (prs 43 a b : Nat), []) := P 43 b (by decide) (by decide) hb
    rw [s_fn fn_alu_Result]
    simp [ir_alu_Result, go_sem, resS, hS, hI, hP, s1, s2, -Int.natCast_emod, -Int.natCast_ediv, -Int.natCast_mul, -Int.natCast_pow, -Int.natCast_add]
  · have hS : evI pg .val n_ops_Sort [.int .i64 44] [] = some (.int .i64 7, []) := Sort_tab 44 (by decide)
    have hP : evI pg .val n_alu_pair [.int .i64 44, .int .u64 (a : Int), .int .u64 (b : Int)] [] = some (.int .u64 (prs 44 a b : Nat), []) := P 44 b (by decide) (by decide) hb
    rw [s_fn fn_alu_Result]
    simp [ir_alu_Result, go_sem, resS, hS, hI, hP, s1, s2, -Int.natCast_emod, -Int.natCast_ediv, -Int.natCast_mul, -Int.natCast_pow, -Int.natCast_add]
  · have hS : evI pg .val n_ops_Sort [.int .i64 45] [] = some (.int .i64 7, []) := Sort_tab 45 (by decide)
    have hP : evI pg .val n_alu_pair [.int .i64 45, .int .u64 (a : Int), .int .u64 (b : Int)] [] = some (.int .u64 (prs 45 a b : Nat), []) := P 45 b (by decide) (by decide) hb
    rw [s_fn fn_alu_Result]
    simp [ir_alu_Result, go_sem, resS, hS, hI, hP, s1, s2, -Int.natCast_emod, -Int.natCast_ediv, -Int.natCast_mul, -Int.natCast_pow, -Int.natCast_add]
  · have hS : evI pg .val n_ops_Sort [.int .i64 46] [] = some (.int .i64 7, []) := Sort_tab 46 (by decide)
    have hP : evI pg .val n_alu_pair [.int .i64 46, .int .u64 (a : Int), .int .u64 (b : Int)] [] = some (.int .u64 (prs 46 a b : Nat), []) := P 46 b (by decide) (by decide) hb
    rw [s_fn fn_alu_Result]
    simp [ir_alu_Result, go_sem, resS, hS, hI, hP, s1, s2, -Int.natCast_emod, -Int.natCast_ediv, -Int.natCast_mul, -Int.natCast_pow, -Int.natCast_add]
  · have hS : evI pg .val n_ops_Sort [.int .i64 47] [] = some (.int .i64 7, []) := Sort_tab 47 (by decide)
    have hP : evI pg .val n_alu_pair [.int .i64 47, .int .u64 (a : Int), .int .u64 (b : Int)] [] = some (.int .u64 (prs 47 a b : Nat), []) := P 47 b (by decide) (by decide) hb
    rw [s_fn fn_alu_Result]
    simp [ir_alu_Result, go_sem, resS, hS, hI, hP, s1, s2, -Int.natCast_emod, -Int.natCast_ediv, -Int.natCast_mul, -Int.natCast_pow, -Int.natCast_add]
  · have hS : evI pg .val n_ops_Sort [.int .i64 48] [] = some (.int .i64 7, []) := Sort_tab 48 (by decide)
    have hP : evI pg .val n_alu_pair [.int .i64 48, .int .u64 (a : Int), .int .u64 (b : Int)] [] = some (.int .u64 (prs 48 a b : Nat), []) := P 48 b (by decide) (by decide) hb
    rw [s_fn fn_alu_Result]
    simp [ir_alu_Result, go_sem, resS, hS, hI, hP, s1, s2, -Int.natCast_emod, -Int.natCast_ediv, -Int.natCast_mul, -Int.natCast_pow, -Int.natCast_add]
  · have hS : evI pg .val n_ops_Sort [.int .i64 49] [] = some (.int .i64 7, []) := Sort_tab 49 (by decide)
    have hP : evI pg .val n_alu_pair [.int .i64 49, .int .u64 (a : Int), .int .u64 (b : Int)] [] = some (.int .u64 (prs 49 a b : Nat), []) := P 49 b (by decide) (by decide) hb
    rw [s_fn fn_alu_Result]
    simp [ir_alu_Result, go_sem, resS, hS, hI, hP, s1, s2, -Int.natCast_emod, -Int.natCast_ediv, -Int.natCast_mul, -Int.natCast_pow, -Int.natCast_add]
  · have hS : evI pg .val n_ops_Sort [.int .i64 50] [] = some (.int .i64 8, []) := Sort_tab 50 (by decide)
    rw [s_fn fn_alu_Result]
    simp [ir_alu_Result, go_sem, resS, hS, hI, s1, s2, -Int.natCast_emod, -Int.natCast_ediv, -Int.natCast_mul, -Int.natCast_pow, -Int.natCast_add]
  · have hS : evI pg .val n_ops_Sort [.int .i64 51] [] = some (.int .i64 8, []) := Sort_tab 51 (by decide)
    rw [s_fn fn_alu_Result]
    simp [ir_alu_Result, go_sem, resS, hS, hI, s1, s2, -Int.natCast_emod, -Int.natCast_ediv, -Int.natCast_mul, -Int.natCast_pow, -Int.natCast_add]
  · have hS : evI pg .val n_ops_Sort [.int .i64 52] [] = some (.int .i64 9, []) := Sort_tab 52 (by decide)
    rw [s_fn fn_alu_Result]
    simp [ir_alu_Result, go_sem, resS, hS, hI, s1, s2, -Int.natCast_emod, -Int.natCast_ediv, -Int.natCast_mul, -Int.natCast_pow, -Int.natCast_add]
  · have hS : evI pg .val n_ops_Sort [.int .i64 53] [] = some (.int .i64 9, []) := Sort_tab 53 (by decide)
    rw [s_fn fn_alu_Result]
    simp [ir_alu_Result, go_sem, resS, hS, hI, s1, s2, -Int.natCast_emod, -Int.natCast_ediv, -Int.natCast_mul, -Int.natCast_pow, -Int.natCast_add]
  · have hS : evI pg .val n_ops_Sort [.int .i64 54] [] = some (.int .i64 10, []) := Sort_tab 54 (by decide)
    rw [s_fn fn_alu_Result]
    simp [ir_alu_Result, go_sem, resS, hS, hI, s1, s2, -Int.natCast_emod, -Int.natCast_ediv, -Int.natCast_mul, -Int.natCast_pow, -Int.natCast_add]
  · have hS : evI pg .val n_ops_Sort [.int .i64 55] [] = some (.int .i64 10, []) := Sort_tab 55 (by decide)
    rw [s_fn fn_alu_Result]
    simp [ir_alu_Result, go_sem, resS, hS, hI, s1, s2, -Int.natCast_emod, -Int.natCast_ediv, -Int.natCast_mul, -Int.natCast_pow, -Int.natCast_add]
  · have hS : evI pg .val n_ops_Sort [.int .i64 56] [] = some (.int .i64 11, []) := Sort_tab 56 (by decide)
    rw [s_fn fn_alu_Result]
    simp [ir_alu_Result, go_sem, resS, hS, hI, s1, s2, -Int.natCast_emod, -Int.natCast_ediv, -Int.natCast_mul, -Int.natCast_pow, -Int.natCast_add]
  · have hS : evI pg .val n_ops_Sort [.int .i64 57] [] = some (.int .i64 11, []) := Sort_tab 57 (by decide)
    rw [s_fn fn_alu_Result]
    simp [ir_alu_Result, go_sem, resS, hS, hI, s1, s2, -Int.natCast_emod, -Int.natCast_ediv, -Int.natCast_mul, -Int.natCast_pow, -Int.natCast_add]
  · have hS : evI pg .val n_ops_Sort [.int .i64 58] [] = some (.int .i64 12, []) := Sort_tab 58 (by decide)
    rw [s_fn fn_alu_Result]
    simp [ir_alu_Result, go_sem, resS, hS, hI, s1, s2, -Int.natCast_emod, -Int.natCast_ediv, -Int.natCast_mul, -Int.natCast_pow, -Int.natCast_add]
  · have hS : evI pg .val n_ops_Sort [.int .i64 59] [] = some (.int .i64 12, []) := Sort_tab 59 (by decide)
    rw [s_fn fn_alu_Result]
    simp [ir_alu_Result, go_sem, resS, hS, hI, s1, s2, -Int.natCast_emod, -Int.natCast_ediv, -Int.natCast_mul, -Int.natCast_pow, -Int.natCast_add]
  · have hS : evI pg .val n_ops_Sort [.int .i64 60] [] = some (.int .i64 12, []) := Sort_tab 60 (by decide)
    rw [s_fn fn_alu_Result]
    simp [ir_alu_Result, go_sem, resS, hS, hI, s1, s2, -Int.natCast_emod, -Int.natCast_ediv, -Int.natCast_mul, -Int.natCast_pow, -Int.natCast_add]
  · have hS : evI pg .val n_ops_Sort [.int .i64 61] [] = some (.int .i64 12, []) := Sort_tab 61 (by decide)
    rw [s_fn fn_alu_Result]
    simp [ir_alu_Result, go_sem, resS, hS, hI, s1, s2, -Int.natCast_emod, -Int.natCast_ediv, -Int.natCast_mul, -Int.natCast_pow, -Int.natCast_add]
  · have hS : evI pg .val n_ops_Sort [.int .i64 62] [] = some (.int .i64 12, []) := Sort_tab 62 (by decide)
    rw [s_fn fn_alu_Result]
    simp [ir_alu_Result, go_sem, resS, hS, hI, s1, s2, -Int.natCast_emod, -Int.natCast_ediv, -Int.natCast_mul, -Int.natCast_pow, -Int.natCast_add]
  · have hS : evI pg .val n_ops_Sort [.int .i64 63] [] = some (.int .i64 12, []) := Sort_tab 63 (by decide)
    rw [s_fn fn_alu_Result]
    simp [ir_alu_Result, go_sem, resS, hS, hI, s1, s2, -Int.natCast_emod, -Int.natCast_ediv, -Int.natCast_mul, -Int.natCast_pow, -Int.natCast_add]
  · have hS : evI pg .val n_ops_Sort [.int .i64 64] [] = some (.int .i64 12, []) := Sort_tab 64 (by decide)
    rw [s_fn fn_alu_Result]
    simp [ir_alu_Result, go_sem, resS, hS, hI, s1, s2, -Int.natCast_emod, -Int.natCast_ediv, -Int.natCast_mul, -Int.natCast_pow, -Int.natCast_add]
  · have hS : evI pg .val n_ops_Sort [.int .i64 65] [] = some (.int .i64 12, []) := Sort_tab 65 (by decide)
    rw [s_fn fn_alu_Result]
    simp [ir_alu_Result, go_sem, resS, hS, hI, s1, s2, -Int.natCast_emod, -Int.natCast_ediv, -Int.natCast_mul, -Int.natCast_pow, -Int.natCast_add]
  · have hS : evI pg .val n_ops_Sort [.int .i64 66] [] = some (.int .i64 12, []) := Sort_tab 66 (by decide)
    rw [s_fn fn_alu_Result]
    simp [ir_alu_Result, go_sem, resS, hS, hI, s1, s2, -Int.natCast_emod, -Int.natCast_ediv, -Int.natCast_mul, -Int.natCast_pow, -Int.natCast_add]
  · have hS : evI pg .val n_ops_Sort [.int .i64 67] [] = some (.int .i64 12, []) := Sort_tab 67 (by decide)
    rw [s_fn fn_alu_Result]
    simp [ir_alu_Result, go_sem, resS, hS, hI, s1, s2, -Int.natCast_emod, -Int.natCast_ediv, -Int.natCast_mul, -Int.natCast_pow, -Int.natCast_add]
  · have hS : evI pg .val n_ops_Sort [.int .i64 68] [] = some (.int .i64 12, []) := Sort_tab 68 (by decide)
    rw [s_fn fn_alu_Result]
    simp [ir_alu_Result, go_sem, resS, hS, hI, s1, s2, -Int.natCast_emod, -Int.natCast_ediv, -Int.natCast_mul, -Int.natCast_pow, -Int.natCast_add]
  · have hS : evI pg .val n_ops_Sort [.int .i64 69] [] = some (.int .i64 12, []) := Sort_tab 69 (by decide)
    rw [s_fn fn_alu_Result]
    simp [ir_alu_Result, go_sem, resS, hS, hI, s1, s2, -Int.natCast_emod, -Int.natCast_ediv, -Int.natCast_mul, -Int.natCast_pow, -Int.natCast_add]
  · have hS : evI pg .val n_ops_Sort [.int .i64 70] [] = some (.int .i64 12, []) := Sort_tab 70 (by decide)
    rw [s_fn fn_alu_Result]
    simp [ir_alu_Result, go_sem, resS, hS, hI, s1, s2, -Int.natCast_emod, -Int.natCast_ediv, -Int.natCast_mul, -Int.natCast_pow, -Int.natCast_add]
  · have hS : evI pg .val n_ops_Sort [.int .i64 71] [] = some (.int .i64 12, []) := Sort_tab 71 (by decide)
    rw [s_fn fn_alu_Result]
    simp [ir_alu_Result, go_sem, resS, hS, hI, s1, s2, -Int.natCast_emod, -Int.natCast_ediv, -Int.natCast_mul, -Int.natCast_pow, -Int.natCast_add]
  · have hS : evI pg .val n_ops_Sort [.int .i64 72] [] = some (.int .i64 12, []) := Sort_tab 72 (by decide)
    rw [s_fn fn_alu_Result]
    simp [ir_alu_Result, go_sem, resS, hS, hI, s1, s2, -Int.natCast_emod, -Int.natCast_ediv, -Int.natCast_mul, -Int.natCast_pow, -Int.natCast_add]
  · have hS : evI pg .val n_ops_Sort [.int .i64 73] [] = some (.int .i64 12, []) := Sort_tab 73 (by decide)
    rw [s_fn fn_alu_Result]
    simp [ir_alu_Result, go_sem, resS, hS, hI, s1, s2, -Int.natCast_emod, -Int.natCast_ediv, -Int.natCast_mul, -Int.natCast_pow, -Int.natCast_add]
  · have hS : evI pg .val n_ops_Sort [.int .i64 74] [] = some (.int .i64 12, []) := Sort_tab 74 (by decide)
    rw [s_fn fn_alu_Result]
    simp [ir_alu_Result, go_sem, resS, hS, hI, s1, s2, -Int.natCast_emod, -Int.natCast_ediv, -Int.natCast_mul, -Int.natCast_pow, -Int.natCast_add]
  · have hS : evI pg .val n_ops_Sort [.int .i64 75] [] = some (.int .i64 12, []) := Sort_tab 75 (by decide)
    rw [s_fn fn_alu_Result]
    simp [ir_alu_Result, go_sem, resS, hS, hI, s1, s2, -Int.natCast_emod, -Int.natCast_ediv, -Int.natCast_mul, -Int.natCast_pow, -Int.natCast_add]
theorem Result_out {op : Int} (h : noOp op) (rd rs1 rs2 imm : Int) (aq rl : Bool) (pr su : Int) (hI : IntKind.u64.wrap imm = (m : Int)) : evI pg .val n_alu_Result [.agg [.int .i64 op, .int .i64 rd, .int .i64 rs1, .int .i64 rs2, .int .i64 imm, .bool aq, .bool rl, .int .i64 pr, .int .i64 su], .int .u64 (pc : Int), .int .u64 (a : Int), .int .u64 (b : Int)] [] = some (.int .u64 0, []) := by
  have hS := Sort_out h
  rw [s_fn fn_alu_Result]
  simp [ir_alu_Result, go_sem, hS, hI]
theorem refResult_none {op : Int} {s : List UInt8} {q : Int} (hS : evI pg .val n_undertowref05_Sort [.int .i64 op] [] = some (.int .i64 q, [])) (hq : ¬ q = 6) (hN : evI pg .val n_undertowref05_Name [.int .i64 op] [] = some (.str s, []))
    (hs : rNames.all (fun x => !(s == x)) = true) (rd rs1 rs2 imm : Int) (aq rl : Bool) (pr su : Int) (hI : IntKind.u64.wrap imm = (m : Int)) : evI pg .val n_undertowref08_Result [.agg [.int .i64 op, .int .i64 rd, .int .i64 rs1, .int .i64 rs2, .int .i64 imm, .bool aq, .bool rl, .int .i64 pr, .int .i64 su], .int .u64 (pc : Int), .int .u64 (a : Int), .int .u64 (b : Int)] [] = some (.int .u64 0, []) := by
  have z1 := refZext_ok a 32 ha
  simp only [rNames, List.all_cons, List.all_nil, Bool.and_true, Bool.and_eq_true, Bool.not_eq_true'] at hs
  obtain ⟨e0, e1, e2, e3, e4, e5, e6, e7, e8, e9, e10, e11, e12, e13, e14, e15, e16, e17, e18, e19, e20, e21, e22, e23, e24, e25, e26, e27, e28, e29, e30, e31⟩ := hs
  rw [s_fn fn_undertowref08_Result]
  simp only [beq_eq_false_iff_ne, ne_eq] at e0 e1 e2 e3 e4 e5 e6 e7 e8 e9 e10 e11 e12 e13 e14 e15 e16 e17 e18 e19 e20 e21 e22 e23 e24 e25 e26 e27 e28 e29 e30 e31
  simp [ir_undertowref08_Result, go_sem, strV, hS, hN, hq, hI, z1, e0, e1, e2, e3, e4, e5, e6, e7, e8, e9, e10, e11, e12, e13, e14, e15, e16, e17, e18, e19, e20, e21, e22, e23, e24, e25, e26, e27, e28, e29, e30, e31]
theorem refResult_1 (rd rs1 rs2 imm : Int) (aq rl : Bool) (pr su : Int) (hI : IntKind.u64.wrap imm = (m : Int)) : evI pg .val n_undertowref08_Result [.agg [.int .i64 1, .int .i64 rd, .int .i64 rs1, .int .i64 rs2, .int .i64 imm, .bool aq, .bool rl, .int .i64 pr, .int .i64 su], .int .u64 (pc : Int), .int .u64 (a : Int), .int .u64 (b : Int)] [] = some (.int .u64 (m : Nat), []) := by
  have hN : evI pg .val n_undertowref05_Name [.int .i64 1] [] = some (.str [108, 117, 105], []) := refName_tab 1 (by decide)
  have hS : evI pg .val n_undertowref05_Sort [.int .i64 1] [] = some (.int .i64 1, []) := refSort_tab 1 (by decide)
  have s1 := add_u (a := pc) (b := m)
  have s2 := add_u (a := pc) (b := 4)
  rw [show ((4 : Nat) : Int) = 4 from rfl] at s2
  have z1 := refZext_ok a 32 ha
  rw [s_fn fn_undertowref08_Result]
  simp [ir_undertowref08_Result, go_sem, strV, hS, hN, hI, z1, s1, s2, -Int.natCast_emod, -Int.natCast_ediv, -Int.natCast_mul, -Int.natCast_pow, -Int.natCast_add]
theorem refResult_2 (rd rs1 rs2 imm : Int) (aq rl : Bool) (pr su : Int) (hI : IntKind.u64.wrap imm = (m : Int)) : evI pg .val n_undertowref08_Result [.agg [.int .i64 2, .int .i64 rd, .int .i64 rs1, .int .i64 rs2, .int .i64 imm, .bool aq, .bool rl, .int .i64 pr, .int .i64 su], .int .u64 (pc : Int), .int .u64 (a : Int), .int .u64 (b : Int)] [] = some (.int .u64 ((pc + m) % 18446744073709551616 : Nat), []) := by
  have hN : evI pg .val n_undertowref05_Name [.int .i64 2] [] = some (.str [97, 117, 105, 112, 99], []) := refName_tab 2 (by decide)
  have hS : evI pg .val n_undertowref05_Sort [.int .i64 2] [] = some (.int .i64 1, []) := refSort_tab 2 (by decide)
  have s1 := add_u (a := pc) (b := m)
  have s2 := add_u (a := pc) (b := 4)
  rw [show ((4 : Nat) : Int) = 4 from rfl] at s2
  have z1 := refZext_ok a 32 ha
  rw [s_fn fn_undertowref08_Result]
  simp [ir_undertowref08_Result, go_sem, strV, hS, hN, hI, z1, s1, s2, -Int.natCast_emod, -Int.natCast_ediv, -Int.natCast_mul, -Int.natCast_pow, -Int.natCast_add]
theorem refResult_3 (rd rs1 rs2 imm : Int) (aq rl : Bool) (pr su : Int) (hI : IntKind.u64.wrap imm = (m : Int)) : evI pg .val n_undertowref08_Result [.agg [.int .i64 3, .int .i64 rd, .int .i64 rs1, .int .i64 rs2, .int .i64 imm, .bool aq, .bool rl, .int .i64 pr, .int .i64 su], .int .u64 (pc : Int), .int .u64 (a : Int), .int .u64 (b : Int)] [] = some (.int .u64 ((pc + 4) % 18446744073709551616 : Nat), []) := by
  have hN : evI pg .val n_undertowref05_Name [.int .i64 3] [] = some (.str [106, 97, 108], []) := refName_tab 3 (by decide)
  have hS : evI pg .val n_undertowref05_Sort [.int .i64 3] [] = some (.int .i64 2, []) := refSort_tab 3 (by decide)
  have s1 := add_u (a := pc) (b := m)
  have s2 := add_u (a := pc) (b := 4)
  rw [show ((4 : Nat) : Int) = 4 from rfl] at s2
  have z1 := refZext_ok a 32 ha
  rw [s_fn fn_undertowref08_Result]
  simp [ir_undertowref08_Result, go_sem, strV, hS, hN, hI, z1, s1, s2, -Int.natCast_emod, -Int.natCast_ediv, -Int.natCast_mul, -Int.natCast_pow, -Int.natCast_add]
theorem refResult_4 (rd rs1 rs2 imm : Int) (aq rl : Bool) (pr su : Int) (hI : IntKind.u64.wrap imm = (m : Int)) : evI pg .val n_undertowref08_Result [.agg [.int .i64 4, .int .i64 rd, .int .i64 rs1, .int .i64 rs2, .int .i64 imm, .bool aq, .bool rl, .int .i64 pr, .int .i64 su], .int .u64 (pc : Int), .int .u64 (a : Int), .int .u64 (b : Int)] [] = some (.int .u64 ((pc + 4) % 18446744073709551616 : Nat), []) := by
  have hN : evI pg .val n_undertowref05_Name [.int .i64 4] [] = some (.str [106, 97, 108, 114], []) := refName_tab 4 (by decide)
  have hS : evI pg .val n_undertowref05_Sort [.int .i64 4] [] = some (.int .i64 2, []) := refSort_tab 4 (by decide)
  have s1 := add_u (a := pc) (b := m)
  have s2 := add_u (a := pc) (b := 4)
  rw [show ((4 : Nat) : Int) = 4 from rfl] at s2
  have z1 := refZext_ok a 32 ha
  rw [s_fn fn_undertowref08_Result]
  simp [ir_undertowref08_Result, go_sem, strV, hS, hN, hI, z1, s1, s2, -Int.natCast_emod, -Int.natCast_ediv, -Int.natCast_mul, -Int.natCast_pow, -Int.natCast_add]
theorem refResult_ok (k : Nat) (h1 : 1 ≤ k) (h2 : k < 76) (rd rs1 rs2 imm : Int) (aq rl : Bool) (pr su : Int) (hI : IntKind.u64.wrap imm = (m : Int)) : evI pg .val n_undertowref08_Result [.agg [.int .i64 (k : Int), .int .i64 rd, .int .i64 rs1, .int .i64 rs2, .int .i64 imm, .bool aq, .bool rl, .int .i64 pr, .int .i64 su], .int .u64 (pc : Int), .int .u64 (a : Int), .int .u64 (b : Int)] [] = some (.int .u64 (resS k m pc a b : Nat), []) := by
  by_cases c1 : k ≤ 4
  · rcases (show k = 1 ∨ k = 2 ∨ k = 3 ∨ k = 4 by omega) with rfl | rfl | rfl | rfl
    · exact refResult_1 ha hb hp hm rd rs1 rs2 imm aq rl pr su hI
    · exact refResult_2 ha hb hp hm rd rs1 rs2 imm aq rl pr su hI
    · exact refResult_3 ha hb hp hm rd rs1 rs2 imm aq rl pr su hI
    · exact refResult_4 ha hb hp hm rd rs1 rs2 imm aq rl pr su hI
  · by_cases c2 : 22 ≤ k ∧ k ≤ 49
    · rcases (show k = 22 ∨ k = 23 ∨ k = 24 ∨ k = 25 ∨ k = 26 ∨ k = 27 ∨ k = 28 ∨ k = 29 ∨ k = 30 ∨ k = 31 ∨ k = 32 ∨ k = 33 ∨ k = 34 ∨ k = 35 ∨ k = 36 ∨ k = 37 ∨ k = 38 ∨ k = 39 ∨ k = 40 ∨ k = 41 ∨ k = 42 ∨ k = 43 ∨ k = 44 ∨ k = 45 ∨ k = 46 ∨ k = 47 ∨ k = 48 ∨ k = 49 by omega) with rfl | rfl | rfl | rfl | rfl | rfl | rfl | rfl | rfl | rfl | rfl | rfl | rfl | rfl | rfl | rfl | rfl | rfl | rfl | rfl | rfl | rfl | rfl | rfl | rfl | rfl | rfl | rfl
      · exact refResult_22 ha hb hp hm rd rs1 rs2 imm aq rl pr su hI
      · exact refResult_23 ha hb hp hm rd rs1 rs2 imm aq rl pr su hI
      · exact refResult_24 ha hb hp hm rd rs1 rs2 imm aq rl pr su hI
      · exact refResult_25 ha hb hp hm rd rs1 rs2 imm aq rl pr su hI
      · exact refResult_26 ha hb hp hm rd rs1 rs2 imm aq rl pr su hI
      · exact refResult_27 ha hb hp hm rd rs1 rs2 imm aq rl pr su hI
      · exact refResult_28 ha hb hp hm rd rs1 rs2 imm aq rl pr su hI
      · exact refResult_29 ha hb hp hm rd rs1 rs2 imm aq rl pr su hI
      · exact refResult_30 ha hb hp hm rd rs1 rs2 imm aq rl pr su hI
      · exact refResult_31 ha hb hp hm rd rs1 rs2 imm aq rl pr su hI
      · exact refResult_32 ha hb hp hm rd rs1 rs2 imm aq rl pr su hI
      · exact refResult_33 ha hb hp hm rd rs1 rs2 imm aq rl pr su hI
      · exact refResult_34 ha hb hp hm rd rs1 rs2 imm aq rl pr su hI
      · exact refResult_35 ha hb hp hm rd rs1 rs2 imm aq rl pr su hI
      · exact refResult_36 ha hb hp hm rd rs1 rs2 imm aq rl pr su hI
      · exact refResult_37 ha hb hp hm rd rs1 rs2 imm aq rl pr su hI
      · exact refResult_38 ha hb hp hm rd rs1 rs2 imm aq rl pr su hI
      · exact refResult_39 ha hb hp hm rd rs1 rs2 imm aq rl pr su hI
      · exact refResult_40 ha hb hp hm rd rs1 rs2 imm aq rl pr su hI
      · exact refResult_41 ha hb hp hm rd rs1 rs2 imm aq rl pr su hI
      · exact refResult_42 ha hb hp hm rd rs1 rs2 imm aq rl pr su hI
      · exact refResult_43 ha hb hp hm rd rs1 rs2 imm aq rl pr su hI
      · exact refResult_44 ha hb hp hm rd rs1 rs2 imm aq rl pr su hI
      · exact refResult_45 ha hb hp hm rd rs1 rs2 imm aq rl pr su hI
      · exact refResult_46 ha hb hp hm rd rs1 rs2 imm aq rl pr su hI
      · exact refResult_47 ha hb hp hm rd rs1 rs2 imm aq rl pr su hI
      · exact refResult_48 ha hb hp hm rd rs1 rs2 imm aq rl pr su hI
      · exact refResult_49 ha hb hp hm rd rs1 rs2 imm aq rl pr su hI
    · have n1 := List.all_eq_true.1 no_name k (List.mem_range.2 h2)
      have n2 := List.all_eq_true.1 no_sort k (List.mem_range.2 h2)
      have d1 : (decide (1 ≤ k) && decide (k ≤ 4)) = false := by simp; omega
      have d2 : (decide (22 ≤ k) && decide (k ≤ 49)) = false := by simp; omega
      have d3 : (decide (22 ≤ k) && decide (k ≤ 34)) = false := by simp; omega
      simp only [d1, d2, Bool.false_or] at n1
      simp only [d3, Bool.false_or, Bool.not_eq_true', beq_eq_false_iff_ne, ne_eq] at n2
      rw [refResult_none ha hb hp hm (refSort_tab k h2) (by omega) (refName_tab k h2) n1 rd rs1 rs2 imm aq rl pr su hI]
      unfold resS
      rw [if_neg (by omega), if_neg (by omega), if_neg (by omega), if_neg (by omega), if_neg (by omega)]
      rfl
/-- Both become the same. -/
theorem Result_both (op : Int) (h64 : op ≤ 9223372036854775807) (rd rs1 rs2 imm : Int) (aq rl : Bool) (pr su : Int) (hI : IntKind.u64.wrap imm = (m : Int)) : ∃ r : Nat, evI pg .val n_alu_Result [.agg [.int .i64 op, .int .i64 rd, .int .i64 rs1, .int .i64 rs2, .int .i64 imm, .bool aq, .bool rl, .int .i64 pr, .int .i64 su], .int .u64 (pc : Int), .int .u64 (a : Int), .int .u64 (b : Int)] [] = some (.int .u64 (r : Int), []) ∧ evI pg .val n_undertowref08_Result [.agg [.int .i64 op, .int .i64 rd, .int .i64 rs1, .int .i64 rs2, .int .i64 imm, .bool aq, .bool rl, .int .i64 pr, .int .i64 su], .int .u64 (pc : Int), .int .u64 (a : Int), .int .u64 (b : Int)] [] = some (.int .u64 (r : Int), []) := by
  rcases op_cases (op := op) with h | ⟨k, rfl, k1, k2⟩
  · refine ⟨0, Result_out ha hb hp hm h rd rs1 rs2 imm aq rl pr su hI, ?_⟩
    exact refResult_none ha hb hp hm (refSort_out h h64) (by omega) (refName_out h) (by kernel_rfl) rd rs1 rs2 imm aq rl pr su hI
  · exact ⟨_, Result_ok ha hb hp hm k k1 k2 rd rs1 rs2 imm aq rl pr su hI, refResult_ok ha hb hp hm k k1 k2 rd rs1 rs2 imm aq rl pr su hI⟩
end
end Go.Proofs.Ytffbhbjnkecieaa
