/- Every operation's address, what is loaded, and what is stored, are the document's: the law AluMemory returns true whatever it is handed. No condition. -/
import Derived.Test.YtffbhbjnkecieaaK08k
import Derived.Test.YtffbhbjnkecieaaL08r
set_option linter.unusedSimpArgs false
set_option linter.unusedVariables false
set_option linter.unusedSectionVars false
namespace Go.Proofs.Ytffbhbjnkecieaa
open Go Go.Vm

theorem srt_le : (List.range 76).all (fun k => decide (srt k ≤ 12)) = true := by kernel_rfl
theorem srt_12 : (List.range 76).all (fun k => !(srt k == 12) || (decide (58 ≤ k) && decide (k ≤ 75))) = true := by kernel_rfl
theorem srt_ld : (List.range 76).all (fun k => !(srt k == 4 || srt k == 10 || srt k == 12) || (decide (11 ≤ k) && decide (k ≤ 17)) || k == 54 || k == 55 || (decide (58 ≤ k) && decide (k ≤ 75))) = true := by kernel_rfl
section
variable {a old b m : Nat} (ha : a < 18446744073709551616) (ho : old < 18446744073709551616) (hb : b < 18446744073709551616) (hm : m < 18446744073709551616)
include ha ho hb hm
theorem refStored_at (k : Nat) (h1 : 58 ≤ k) (h2 : k ≤ 75) : evI pg .val n_undertowref08_Stored [.int .i64 (k : Int), .int .u64 (old : Int), .int .u64 (b : Int)] [] = some (.int .u64 (stI k old b : Nat), []) := by
  rcases (show k = 58 ∨ k = 59 ∨ k = 60 ∨ k = 61 ∨ k = 62 ∨ k = 63 ∨ k = 64 ∨ k = 65 ∨ k = 66 ∨ k = 67 ∨ k = 68 ∨ k = 69 ∨ k = 70 ∨ k = 71 ∨ k = 72 ∨ k = 73 ∨ k = 74 ∨ k = 75 by omega) with rfl | rfl | rfl | rfl | rfl | rfl | rfl | rfl | rfl | rfl | rfl | rfl | rfl | rfl | rfl | rfl | rfl | rfl
  · exact refStored_58 ho hb
  · exact refStored_59 ho hb
  · exact refStored_60 ho hb
  · exact refStored_61 ho hb
  · exact refStored_62 ho hb
  · exact refStored_63 ho hb
  · exact refStored_64 ho hb
  · exact refStored_65 ho hb
  · exact refStored_66 ho hb
  · exact refStored_67 ho hb
  · exact refStored_68 ho hb
  · exact refStored_69 ho hb
  · exact refStored_70 ho hb
  · exact refStored_71 ho hb
  · exact refStored_72 ho hb
  · exact refStored_73 ho hb
  · exact refStored_74 ho hb
  · exact refStored_75 ho hb
theorem Loaded_at (k : Nat) (h : (11 ≤ k ∧ k ≤ 17) ∨ k = 54 ∨ k = 55 ∨ (58 ≤ k ∧ k ≤ 75)) : evI pg .val n_alu_Loaded [.int .i64 (k : Int), .int .u64 (old : Int)] [] = some (.int .u64 (ldS k old : Nat), []) ∧ evI pg .val n_undertowref08_Loaded [.int .i64 (k : Int), .int .u64 (old : Int)] [] = some (.int .u64 (ldS k old : Nat), []) := by
  rcases (show k = 11 ∨ k = 12 ∨ k = 13 ∨ k = 14 ∨ k = 15 ∨ k = 16 ∨ k = 17 ∨ k = 54 ∨ k = 55 ∨ k = 58 ∨ k = 59 ∨ k = 60 ∨ k = 61 ∨ k = 62 ∨ k = 63 ∨ k = 64 ∨ k = 65 ∨ k = 66 ∨ k = 67 ∨ k = 68 ∨ k = 69 ∨ k = 70 ∨ k = 71 ∨ k = 72 ∨ k = 73 ∨ k = 74 ∨ k = 75 by omega) with rfl | rfl | rfl | rfl | rfl | rfl | rfl | rfl | rfl | rfl | rfl | rfl | rfl | rfl | rfl | rfl | rfl | rfl | rfl | rfl | rfl | rfl | rfl | rfl | rfl | rfl | rfl
  · exact Loaded_11 ho
  · exact Loaded_12 ho
  · exact Loaded_13 ho
  · exact Loaded_14 ho
  · exact Loaded_15 ho
  · exact Loaded_16 ho
  · exact Loaded_17 ho
  · exact Loaded_54 ho
  · exact Loaded_55 ho
  · exact Loaded_58 ho
  · exact Loaded_59 ho
  · exact Loaded_60 ho
  · exact Loaded_61 ho
  · exact Loaded_62 ho
  · exact Loaded_63 ho
  · exact Loaded_64 ho
  · exact Loaded_65 ho
  · exact Loaded_66 ho
  · exact Loaded_67 ho
  · exact Loaded_68 ho
  · exact Loaded_69 ho
  · exact Loaded_70 ho
  · exact Loaded_71 ho
  · exact Loaded_72 ho
  · exact Loaded_73 ho
  · exact Loaded_74 ho
  · exact Loaded_75 ho
theorem mem_both (op : Int) (hop : op ≤ 9223372036854775807) (rd rs1 rs2 imm : Int) (aq rl : Bool) (pr su : Int) (hI : IntKind.u64.wrap imm = (m : Int)) : ∃ x y z : Nat,
    evI pg .val n_alu_Address [.agg [.int .i64 op, .int .i64 rd, .int .i64 rs1, .int .i64 rs2, .int .i64 imm, .bool aq, .bool rl, .int .i64 pr, .int .i64 su], .int .u64 (a : Int)] [] = some (.int .u64 (x : Int), []) ∧
    evI pg .val n_undertowref08_Address [.agg [.int .i64 op, .int .i64 rd, .int .i64 rs1, .int .i64 rs2, .int .i64 imm, .bool aq, .bool rl, .int .i64 pr, .int .i64 su], .int .u64 (a : Int)] [] = some (.int .u64 (x : Int), []) ∧
    evI pg .val n_alu_Loaded [.int .i64 op, .int .u64 (old : Int)] [] = some (.int .u64 (y : Int), []) ∧ evI pg .val n_undertowref08_Loaded [.int .i64 op, .int .u64 (old : Int)] [] = some (.int .u64 (y : Int), []) ∧
    evI pg .val n_alu_Stored [.int .i64 op, .int .u64 (old : Int), .int .u64 (b : Int)] [] = some (.int .u64 (z : Int), []) ∧ evI pg .val n_undertowref08_Stored [.int .i64 op, .int .u64 (old : Int), .int .u64 (b : Int)] [] = some (.int .u64 (z : Int), []) := by
  rcases op_cases (op := op) with h | ⟨k, rfl, k1, k2⟩
  · obtain ⟨l1, l2⟩ := Loaded_no ho (q := 0) (Sort_out h) (Size_out h) (refSort_out h hop) (by decide) (by decide) (by decide)
    obtain ⟨z, s1, s2⟩ := Stored_no ho hb (q := 0) (Sort_out h) (Size_out h) (refSort_out h hop) (refSize_out h hop) (by decide)
    exact ⟨_, 0, z, Address_s ha hm (q := 0) (Sort_out h) (by omega) rd rs1 rs2 imm aq rl pr su hI, refAddress_s ha hm (q := 0) (refSort_out h hop) (by omega) rd rs1 rs2 imm aq rl pr su hI, l1, l2, s1, s2⟩
  · have q1 := List.all_eq_true.1 srt_le k (List.mem_range.2 k2)
    have q2 := List.all_eq_true.1 srt_12 k (List.mem_range.2 k2)
    have q3 := List.all_eq_true.1 srt_ld k (List.mem_range.2 k2)
    simp at q1 q2 q3
    have hL : ∃ y : Nat, evI pg .val n_alu_Loaded [.int .i64 (k : Int), .int .u64 (old : Int)] [] = some (.int .u64 (y : Int), []) ∧ evI pg .val n_undertowref08_Loaded [.int .i64 (k : Int), .int .u64 (old : Int)] [] = some (.int .u64 (y : Int), []) := by
      by_cases c : (11 ≤ k ∧ k ≤ 17) ∨ k = 54 ∨ k = 55 ∨ (58 ≤ k ∧ k ≤ 75)
      · exact ⟨_, Loaded_at ha ho hb hm k c⟩
      · exact ⟨0, Loaded_no ho (Sort_tab k k2) (Size_tab k k2) (refSort_tab k k2) (by omega) (by omega) (by omega)⟩
    have hS : ∃ z : Nat, evI pg .val n_alu_Stored [.int .i64 (k : Int), .int .u64 (old : Int), .int .u64 (b : Int)] [] = some (.int .u64 (z : Int), []) ∧ evI pg .val n_undertowref08_Stored [.int .i64 (k : Int), .int .u64 (old : Int), .int .u64 (b : Int)] [] = some (.int .u64 (z : Int), []) := by
      by_cases c : 58 ≤ k ∧ k ≤ 75
      · exact ⟨_, Stored_at ho hb k c.1 c.2, refStored_at ha ho hb hm k c.1 c.2⟩
      · exact Stored_no ho hb (Sort_tab k k2) (Size_tab k k2) (refSort_tab k k2) (refSize_tab k k2) (by omega)
    obtain ⟨y, l1, l2⟩ := hL
    obtain ⟨z, s1, s2⟩ := hS
    exact ⟨_, y, z, Address_s ha hm (Sort_tab k k2) q1 rd rs1 rs2 imm aq rl pr su hI, refAddress_s ha hm (refSort_tab k k2) q1 rd rs1 rs2 imm aq rl pr su hI, l1, l2, s1, s2⟩
end
section
variable {a old b : Nat} (ha : a < 18446744073709551616) (ho : old < 18446744073709551616) (hb : b < 18446744073709551616) (op : Int) (hop : op ≤ 9223372036854775807) (rd rs1 rs2 imm : Int) (aq rl : Bool) (pr su : Int)
include ha ho hb hop
theorem mem_loop (k : Nat) (hk : k ≤ 76) :
    evCI pg (.loop ir_undertowlaw08_AluMemoryl0) ⟨[.undef, .int .u64 (a : Int), .int .u64 (old : Int), .int .u64 (b : Int), .lp 0 0, .undef, .int .i64 (k : Int), .undef, .undef, .undef, .undef, .undef], ⟨[[.int .i64 op, .int .i64 rd, .int .i64 rs1, .int .i64 rs2, .int .i64 imm, .bool aq, .bool rl, .int .i64 pr, .int .i64 su], []], [], []⟩⟩ =
      some (.exit 0, ⟨[.undef, .int .u64 (a : Int), .int .u64 (old : Int), .int .u64 (b : Int), .lp 0 0, .undef, .int .i64 76, .undef, .undef, .bool false, .undef, .undef], ⟨[[.int .i64 op, .int .i64 rd, .int .i64 rs1, .int .i64 rs2, .int .i64 imm, .bool aq, .bool rl, .int .i64 pr, .int .i64 su], []], [], []⟩⟩) := by
  by_cases c : k ≤ 75
  · have ih := mem_loop (k + 1) (by omega)
    have e6 : IntKind.i64.wrap ((k : Int) + 1) = ((k + 1 : Nat) : Int) := by rw [wrap_i64 (by omega) (by omega)]; rfl
    have c2 : (k : Int) ≤ 75 := by omega
    obtain ⟨B, hB⟩ : ∃ B, B = C.loop ir_undertowlaw08_AluMemoryl0 := ⟨_, rfl⟩
    rw [← hB] at ih
    rw [← hB, s_loop_at hB]
    by_cases d : 0 < k
    · obtain ⟨x, y, z, r1, r2, r3, r4, r5, r6⟩ := mem_both ha ho hb (imU_lt imm) (k : Int) (by omega) rd rs1 rs2 imm aq rl pr su (imU_eq imm)
      simp [ir_undertowlaw08_AluMemoryl0, go_sem, c, c2, d, r1, r2, r3, r4, r5, r6, e6, ih, -Int.natCast_add]
    · obtain rfl : k = 0 := by omega
      obtain ⟨x, y, z, r1, r2, r3, r4, r5, r6⟩ := mem_both ha ho hb (imU_lt imm) op hop rd rs1 rs2 imm aq rl pr su (imU_eq imm)
      simp at ih e6
      simp [ir_undertowlaw08_AluMemoryl0, go_sem, r1, r2, r3, r4, r5, r6, e6, ih]
  · obtain rfl : k = 76 := by omega
    rw [s_loop]
    simp [ir_undertowlaw08_AluMemoryl0, go_sem]
termination_by 76 - k
theorem AluMemory_true : evI pg .val n_undertowlaw08_AluMemory [.agg [.int .i64 op, .int .i64 rd, .int .i64 rs1, .int .i64 rs2, .int .i64 imm, .bool aq, .bool rl, .int .i64 pr, .int .i64 su], .int .u64 (a : Int), .int .u64 (old : Int), .int .u64 (b : Int)] [] = some (.bool true, []) := by
  have hl := mem_loop ha ho hb op hop rd rs1 rs2 imm aq rl pr su 0 (by omega)
  rw [show ((0 : Nat) : Int) = 0 from rfl] at hl
  rw [s_fn fn_undertowlaw08_AluMemory]
  simp [ir_undertowlaw08_AluMemory, go_sem, alive8, hl]
end
theorem law_memory : ∀ vs, PArgs Try.prog 8 Try.f5.params.toList vs → ∃ k, evF pg k .val 5 vs [] = some (.bool true, []) := by
  intro vs h
  obtain ⟨v1, _, rfl, h1, v2, _, rfl, h2, v3, _, rfl, h3, v4, _, rfl, h4, rfl⟩ := h
  obtain ⟨op, rd, rs1, rs2, imm, aq, rl, pr, su, rfl, q1, _⟩ := arg_ins h1
  obtain ⟨a, rfl, q2⟩ := arg_u64 Try.underlying24 h2
  obtain ⟨old, rfl, q3⟩ := arg_u64 Try.underlying24 h3
  obtain ⟨b, rfl, q4⟩ := arg_u64 Try.underlying24 h4
  exact (evI_iff (hx _ _)).1 (AluMemory_true q2 q3 q4 op q1 rd rs1 rs2 imm aq rl pr su)
end Go.Proofs.Ytffbhbjnkecieaa
