/- Whether every branch is taken, and what comes next, is the document's: the law AluNext returns true whatever it is handed. No condition. -/
import Derived.Test.YtffbhbjnkecieaaK08h
import Derived.Test.YtffbhbjnkecieaaL08r
set_option linter.unusedSimpArgs false
set_option linter.unusedVariables false
set_option linter.unusedSectionVars false
namespace Go.Proofs.Ytffbhbjnkecieaa
open Go Go.Vm

section
variable {a b pc : Nat} (ha : a < 18446744073709551616) (hb : b < 18446744073709551616) (hp : pc < 18446744073709551616) (op : Int) (rd rs1 rs2 imm : Int) (aq rl : Bool) (pr su : Int)
include ha hb hp
theorem next_loop (k : Nat) (hk : k ≤ 12) :
    evCI pg (.loop ir_undertowlaw08_AluNextl0) ⟨[.undef, .int .u64 (pc : Int), .int .u64 (a : Int), .int .u64 (b : Int), .lp 0 0, .undef, .int .i64 (k : Int), .undef, .undef, .undef, .undef, .undef], ⟨[[.int .i64 op, .int .i64 rd, .int .i64 rs1, .int .i64 rs2, .int .i64 imm, .bool aq, .bool rl, .int .i64 pr, .int .i64 su], []], [], []⟩⟩ =
      some (.exit 0, ⟨[.undef, .int .u64 (pc : Int), .int .u64 (a : Int), .int .u64 (b : Int), .lp 0 0, .undef, .int .i64 12, .undef, .undef, .bool false, .undef, .undef], ⟨[[.int .i64 op, .int .i64 rd, .int .i64 rs1, .int .i64 rs2, .int .i64 imm, .bool aq, .bool rl, .int .i64 pr, .int .i64 su], []], [], []⟩⟩) := by
  by_cases c : k < 12
  · have ih := next_loop (k + 1) (by omega)
    have e6 : IntKind.i64.wrap ((k : Int) + 1) = ((k + 1 : Nat) : Int) := by rw [wrap_i64 (by omega) (by omega)]; rfl
    have c2 : (k : Int) < 12 := by omega
    obtain ⟨B, hB⟩ : ∃ B, B = C.loop ir_undertowlaw08_AluNextl0 := ⟨_, rfl⟩
    rw [← hB] at ih
    rw [← hB, s_loop_at hB]
    by_cases d : 0 < k
    · have r1 := Taken_ok ha hb (k : Int) rd rs1 rs2 imm aq rl pr su
      have r2 := refTaken_ok ha hb (k : Int) rd rs1 rs2 imm aq rl pr su
      have r3 := Next_ok ha hb hp (imU_lt imm) (k : Int) rd rs1 rs2 imm aq rl pr su (imU_eq imm)
      have r4 := refNext_ok ha hb hp (imU_lt imm) (k : Int) rd rs1 rs2 imm aq rl pr su (imU_eq imm)
      simp [ir_undertowlaw08_AluNextl0, go_sem, c, c2, d, r1, r2, r3, r4, e6, ih, -Int.natCast_add]
    · obtain rfl : k = 0 := by omega
      have r1 := Taken_ok ha hb op rd rs1 rs2 imm aq rl pr su
      have r2 := refTaken_ok ha hb op rd rs1 rs2 imm aq rl pr su
      have r3 := Next_ok ha hb hp (imU_lt imm) op rd rs1 rs2 imm aq rl pr su (imU_eq imm)
      have r4 := refNext_ok ha hb hp (imU_lt imm) op rd rs1 rs2 imm aq rl pr su (imU_eq imm)
      simp at ih e6
      simp [ir_undertowlaw08_AluNextl0, go_sem, r1, r2, r3, r4, e6, ih]
  · obtain rfl : k = 12 := by omega
    rw [s_loop]
    simp [ir_undertowlaw08_AluNextl0, go_sem]
termination_by 12 - k
theorem AluNext_true : evI pg .val n_undertowlaw08_AluNext [.agg [.int .i64 op, .int .i64 rd, .int .i64 rs1, .int .i64 rs2, .int .i64 imm, .bool aq, .bool rl, .int .i64 pr, .int .i64 su], .int .u64 (pc : Int), .int .u64 (a : Int), .int .u64 (b : Int)] [] = some (.bool true, []) := by
  have hl := next_loop ha hb hp op rd rs1 rs2 imm aq rl pr su 0 (by omega)
  rw [show ((0 : Nat) : Int) = 0 from rfl] at hl
  rw [s_fn fn_undertowlaw08_AluNext]
  simp [ir_undertowlaw08_AluNext, go_sem, alive8, hl]
end
theorem law_next : ∀ vs, PArgs Try.prog 8 Try.f4.params.toList vs → ∃ k, evF pg k .val 4 vs [] = some (.bool true, []) := by
  intro vs h
  obtain ⟨v1, _, rfl, h1, v2, _, rfl, h2, v3, _, rfl, h3, v4, _, rfl, h4, rfl⟩ := h
  obtain ⟨op, rd, rs1, rs2, imm, aq, rl, pr, su, rfl, _, _⟩ := arg_ins h1
  obtain ⟨pc, rfl, q2⟩ := arg_u64 Try.underlying24 h2
  obtain ⟨a, rfl, q3⟩ := arg_u64 Try.underlying24 h3
  obtain ⟨b, rfl, q4⟩ := arg_u64 Try.underlying24 h4
  exact (evI_iff (hx _ _)).1 (AluNext_true q3 q4 q2 op rd rs1 rs2 imm aq rl pr su)
end Go.Proofs.Ytffbhbjnkecieaa
