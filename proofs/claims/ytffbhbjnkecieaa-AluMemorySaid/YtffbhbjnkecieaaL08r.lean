/- What every instruction makes of all numbers is the document's: the law AluResults returns true whatever it is handed. No condition. -/
import Derived.Test.YtffbhbjnkecieaaK08g
import Derived.Test.YtffbhbjnkecieaaRows
set_option linter.unusedSimpArgs false
set_option linter.unusedVariables false
set_option linter.unusedSectionVars false
namespace Go.Proofs.Ytffbhbjnkecieaa
open Go Go.Vm

theorem alive8 : evI pg .val n_undertowlaw08_alive [] [] = some (.bool true, []) := closed irL_ok 300 (by kernel_rfl)
def imU (imm : Int) : Nat := (imm % 18446744073709551616).toNat
theorem imU_eq (imm : Int) : IntKind.u64.wrap imm = (imU imm : Int) := by rw [wrap_u64_eq]; unfold imU; omega
theorem imU_lt (imm : Int) : imU imm < 18446744073709551616 := by unfold imU; omega
section
variable {a b pc : Nat} (ha : a < 18446744073709551616) (hb : b < 18446744073709551616) (hp : pc < 18446744073709551616) (op : Int) (hop : op ≤ 9223372036854775807) (rd rs1 rs2 imm : Int) (aq rl : Bool) (pr su : Int)
include ha hb hp hop
theorem res_loop (k : Nat) (hk : k ≤ 54) :
    evCI pg (.loop ir_undertowlaw08_AluResultsl0) ⟨[.undef, .int .u64 (pc : Int), .int .u64 (a : Int), .int .u64 (b : Int), .lp 0 0, .undef, .int .i64 (k : Int), .undef, .undef, .undef, .undef, .undef], ⟨[[.int .i64 op, .int .i64 rd, .int .i64 rs1, .int .i64 rs2, .int .i64 imm, .bool aq, .bool rl, .int .i64 pr, .int .i64 su], []], [], []⟩⟩ =
      some (.exit 0, ⟨[.undef, .int .u64 (pc : Int), .int .u64 (a : Int), .int .u64 (b : Int), .lp 0 0, .undef, .int .i64 54, .undef, .undef, .bool false, .undef, .undef], ⟨[[.int .i64 op, .int .i64 rd, .int .i64 rs1, .int .i64 rs2, .int .i64 imm, .bool aq, .bool rl, .int .i64 pr, .int .i64 su], []], [], []⟩⟩) := by
  by_cases c : k < 54
  · have ih := res_loop (k + 1) (by omega)
    have e6 : IntKind.i64.wrap ((k : Int) + 1) = ((k + 1 : Nat) : Int) := by rw [wrap_i64 (by omega) (by omega)]; rfl
    have c2 : (k : Int) < 54 := by omega
    obtain ⟨B, hB⟩ : ∃ B, B = C.loop ir_undertowlaw08_AluResultsl0 := ⟨_, rfl⟩
    rw [← hB] at ih
    rw [← hB, s_loop_at hB]
    by_cases d : 0 < k
    · obtain ⟨r, r1, r2⟩ := Result_both ha hb hp (imU_lt imm) (k : Int) (by omega) rd rs1 rs2 imm aq rl pr su (imU_eq imm)
      simp [ir_undertowlaw08_AluResultsl0, go_sem, c, c2, d, r1, r2, e6, ih, -Int.natCast_add]
    · obtain rfl : k = 0 := by omega
      obtain ⟨r, r1, r2⟩ := Result_both ha hb hp (imU_lt imm) op hop rd rs1 rs2 imm aq rl pr su (imU_eq imm)
      simp at ih e6
      simp [ir_undertowlaw08_AluResultsl0, go_sem, r1, r2, e6, ih]
  · obtain rfl : k = 54 := by omega
    rw [s_loop]
    simp [ir_undertowlaw08_AluResultsl0, go_sem]
termination_by 54 - k
theorem AluResults_true : evI pg .val n_undertowlaw08_AluResults [.agg [.int .i64 op, .int .i64 rd, .int .i64 rs1, .int .i64 rs2, .int .i64 imm, .bool aq, .bool rl, .int .i64 pr, .int .i64 su], .int .u64 (pc : Int), .int .u64 (a : Int), .int .u64 (b : Int)] [] = some (.bool true, []) := by
  have hl := res_loop ha hb hp op hop rd rs1 rs2 imm aq rl pr su 0 (by omega)
  rw [show ((0 : Nat) : Int) = 0 from rfl] at hl
  rw [s_fn fn_undertowlaw08_AluResults]
  simp [ir_undertowlaw08_AluResults, go_sem, alive8, hl]
end
theorem arg_ins {n : Nat} {v : V} (h : ArgPV Try.prog (n + 2) 23 v) : ∃ op rd rs1 rs2 imm aq rl pr su, v = .agg [.int .i64 op, .int .i64 rd, .int .i64 rs1, .int .i64 rs2, .int .i64 imm, .bool aq, .bool rl, .int .i64 pr, .int .i64 su] ∧ op ≤ 9223372036854775807 ∧ -9223372036854775808 ≤ op := by
  simp only [ArgPV, Try.underlying23] at h
  obtain ⟨vs, rfl, h⟩ := h
  obtain ⟨_, _, rfl, h1, _, _, rfl, h2, _, _, rfl, h3, _, _, rfl, h4, _, _, rfl, h5, _, _, rfl, h6, _, _, rfl, h7, _, _, rfl, h8, _, _, rfl, h9, rfl⟩ := pv_struct Try.underlying23 h
  obtain ⟨x1, rfl, q1⟩ := pv_i64 Try.underlying3 h1
  obtain ⟨x2, rfl, q2⟩ := pv_i64 Try.underlying3 h2
  obtain ⟨x3, rfl, q3⟩ := pv_i64 Try.underlying3 h3
  obtain ⟨x4, rfl, q4⟩ := pv_i64 Try.underlying3 h4
  obtain ⟨x5, rfl, q5⟩ := pv_i64 Try.underlying2 h5
  obtain ⟨x6, rfl⟩ := pv_bool Try.underlying4 h6
  obtain ⟨x7, rfl⟩ := pv_bool Try.underlying4 h7
  obtain ⟨x8, rfl, q8⟩ := pv_i64 Try.underlying3 h8
  obtain ⟨x9, rfl, q9⟩ := pv_i64 Try.underlying3 h9
  exact ⟨x1, x2, x3, x4, x5, x6, x7, x8, x9, rfl, q1.2, q1.1⟩
theorem law_results : ∀ vs, PArgs Try.prog 8 Try.f3.params.toList vs → ∃ k, evF pg k .val 3 vs [] = some (.bool true, []) := by
  intro vs h
  obtain ⟨v1, _, rfl, h1, v2, _, rfl, h2, v3, _, rfl, h3, v4, _, rfl, h4, rfl⟩ := h
  obtain ⟨op, rd, rs1, rs2, imm, aq, rl, pr, su, rfl, q1, _⟩ := arg_ins h1
  obtain ⟨pc, rfl, q2⟩ := arg_u64 Try.underlying24 h2
  obtain ⟨a, rfl, q3⟩ := arg_u64 Try.underlying24 h3
  obtain ⟨b, rfl, q4⟩ := arg_u64 Try.underlying24 h4
  exact (evI_iff (hx _ _)).1 (AluResults_true q3 q4 q2 op q1 rd rs1 rs2 imm aq rl pr su)
end Go.Proofs.Ytffbhbjnkecieaa
