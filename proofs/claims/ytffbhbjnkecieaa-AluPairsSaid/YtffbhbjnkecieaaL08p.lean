/- An immediate's operation is the pair's with it, of a branch and its opposite just one is taken, and SUB turns ADD back: the law AluPairs returns true whatever it is handed. No condition. -/
import Derived.Test.YtffbhbjnkecieaaK08h
import Derived.Test.YtffbhbjnkecieaaL08r
set_option linter.unusedSimpArgs false
set_option linter.unusedVariables false
set_option linter.unusedSectionVars false
namespace Go.Proofs.Ytffbhbjnkecieaa
open Go Go.Vm

def numV : List (List V) := [[.int .i64 22], [.int .i64 23], [.int .i64 24], [.int .i64 25], [.int .i64 26], [.int .i64 27], [.int .i64 28], [.int .i64 29], [.int .i64 30], [.int .i64 31], [.int .i64 32], [.int .i64 33], [.int .i64 34]]
def parV : List (List V) := [[.int .i64 35], [.int .i64 38], [.int .i64 39], [.int .i64 40], [.int .i64 43], [.int .i64 44], [.int .i64 37], [.int .i64 41], [.int .i64 42], [.int .i64 45], [.int .i64 47], [.int .i64 48], [.int .i64 49]]
section
variable {a b : Nat} (ha : a < 18446744073709551616) (hb : b < 18446744073709551616) (imm : Int)
include ha hb
theorem pl13 : evCI pg (.loop ir_undertowlaw08_AluPairsl0) ⟨[.int .i64 imm, .int .u64 (a : Int), .int .u64 (b : Int), .undef, .isl false numV, .isl false parV, .int .i64 13, .undef, .undef, .undef, .undef, .undef, .undef], ⟨[], [], []⟩⟩ = some (.exit 0, ⟨[.int .i64 imm, .int .u64 (a : Int), .int .u64 (b : Int), .undef, .isl false numV, .isl false parV, .int .i64 13, .undef, .undef, .bool false, .undef, .undef, .undef], ⟨[], [], []⟩⟩) := by
  rw [s_loop]
  simp [ir_undertowlaw08_AluPairsl0, go_sem, parV]
theorem pl12 : evCI pg (.loop ir_undertowlaw08_AluPairsl0) ⟨[.int .i64 imm, .int .u64 (a : Int), .int .u64 (b : Int), .undef, .isl false numV, .isl false parV, .int .i64 12, .undef, .undef, .undef, .undef, .undef, .undef], ⟨[], [], []⟩⟩ = some (.exit 0, ⟨[.int .i64 imm, .int .u64 (a : Int), .int .u64 (b : Int), .undef, .isl false numV, .isl false parV, .int .i64 13, .undef, .undef, .bool false, .undef, .undef, .undef], ⟨[], [], []⟩⟩) := by
  have ih := pl13 ha hb imm
  have r1 : evI pg .val n_alu_Result [.agg [.int .i64 34, .int .i64 0, .int .i64 0, .int .i64 0, .int .i64 imm, .bool false, .bool false, .int .i64 0, .int .i64 0], .int .u64 0, .int .u64 (a : Int), .int .u64 (b : Int)] [] = some (.int .u64 (prs 49 a (imU imm) : Nat), []) :=
    Result_ok (pc := 0) ha hb (by decide) (imU_lt imm) 34 (by decide) (by decide) 0 0 0 imm false false 0 0 (imU_eq imm)
  have r2 : evI pg .val n_alu_Result [.agg [.int .i64 49, .int .i64 0, .int .i64 0, .int .i64 0, .int .i64 0, .bool false, .bool false, .int .i64 0, .int .i64 0], .int .u64 0, .int .u64 (a : Int), .int .u64 (imU imm : Int)] [] = some (.int .u64 (prs 49 a (imU imm) : Nat), []) :=
    Result_ok (pc := 0) (m := 0) ha (imU_lt imm) (by decide) (by decide) 49 (by decide) (by decide) 0 0 0 0 false false 0 0 rfl
  have w := imU_eq imm
  have e6 : IntKind.i64.wrap (12 + 1) = 13 := by rfl
  generalize prs 49 a (imU imm) = x at r1 r2
  obtain ⟨B, hB⟩ : ∃ B, B = C.loop ir_undertowlaw08_AluPairsl0 := ⟨_, rfl⟩
  rw [← hB] at ih
  rw [← hB, s_loop_at hB]
  unfold numV parV at *
  simp [ir_undertowlaw08_AluPairsl0, go_sem, r1, r2, w, e6, ih]
theorem pl11 : evCI pg (.loop ir_undertowlaw08_AluPairsl0) ⟨[.int .i64 imm, .int .u64 (a : Int), .int .u64 (b : Int), .undef, .isl false numV, .isl false parV, .int .i64 11, .undef, .undef, .undef, .undef, .undef, .undef], ⟨[], [], []⟩⟩ = some (.exit 0, ⟨[.int .i64 imm, .int .u64 (a : Int), .int .u64 (b : Int), .undef, .isl false numV, .isl false parV, .int .i64 13, .undef, .undef, .bool false, .undef, .undef, .undef], ⟨[], [], []⟩⟩) := by
  have ih := pl12 ha hb imm
  have r1 : evI pg .val n_alu_Result [.agg [.int .i64 33, .int .i64 0, .int .i64 0, .int .i64 0, .int .i64 imm, .bool false, .bool false, .int .i64 0, .int .i64 0], .int .u64 0, .int .u64 (a : Int), .int .u64 (b : Int)] [] = some (.int .u64 (prs 48 a (imU imm) : Nat), []) :=
    Result_ok (pc := 0) ha hb (by decide) (imU_lt imm) 33 (by decide) (by decide) 0 0 0 imm false false 0 0 (imU_eq imm)
  have r2 : evI pg .val n_alu_Result [.agg [.int .i64 48, .int .i64 0, .int .i64 0, .int .i64 0, .int .i64 0, .bool false, .bool false, .int .i64 0, .int .i64 0], .int .u64 0, .int .u64 (a : Int), .int .u64 (imU imm : Int)] [] = some (.int .u64 (prs 48 a (imU imm) : Nat), []) :=
    Result_ok (pc := 0) (m := 0) ha (imU_lt imm) (by decide) (by decide) 48 (by decide) (by decide) 0 0 0 0 false false 0 0 rfl
  have w := imU_eq imm
  have e6 : IntKind.i64.wrap (11 + 1) = 12 := by rfl
  generalize prs 48 a (imU imm) = x at r1 r2
  obtain ⟨B, hB⟩ : ∃ B, B = C.loop ir_undertowlaw08_AluPairsl0 := ⟨_, rfl⟩
  rw [← hB] at ih
  rw [← hB, s_loop_at hB]
  unfold numV parV at *
  simp [ir_undertowlaw08_AluPairsl0, go_sem, r1, r2, w, e6, ih]
theorem pl10 : evCI pg (.loop ir_undertowlaw08_AluPairsl0) ⟨[.int .i64 imm, .int .u64 (a : Int), .int .u64 (b : Int), .undef, .isl false numV, .isl false parV, .int .i64 10, .undef, .undef, .undef, .undef, .undef, .undef], ⟨[], [], []⟩⟩ = some (.exit 0, ⟨[.int .i64 imm, .int .u64 (a : Int), .int .u64 (b : Int), .undef, .isl false numV, .isl false parV, .int .i64 13, .undef, .undef, .bool false, .undef, .undef, .undef], ⟨[], [], []⟩⟩) := by
  have ih := pl11 ha hb imm
  have r1 : evI pg .val n_alu_Result [.agg [.int .i64 32, .int .i64 0, .int .i64 0, .int .i64 0, .int .i64 imm, .bool false, .bool false, .int .i64 0, .int .i64 0], .int .u64 0, .int .u64 (a : Int), .int .u64 (b : Int)] [] = some (.int .u64 (prs 47 a (imU imm) : Nat), []) :=
    Result_ok (pc := 0) ha hb (by decide) (imU_lt imm) 32 (by decide) (by decide) 0 0 0 imm false false 0 0 (imU_eq imm)
  have r2 : evI pg .val n_alu_Result [.agg [.int .i64 47, .int .i64 0, .int .i64 0, .int .i64 0, .int .i64 0, .bool false, .bool false, .int .i64 0, .int .i64 0], .int .u64 0, .int .u64 (a : Int), .int .u64 (imU imm : Int)] [] = some (.int .u64 (prs 47 a (imU imm) : Nat), []) :=
    Result_ok (pc := 0) (m := 0) ha (imU_lt imm) (by decide) (by decide) 47 (by decide) (by decide) 0 0 0 0 false false 0 0 rfl
  have w := imU_eq imm
  have e6 : IntKind.i64.wrap (10 + 1) = 11 := by rfl
  generalize prs 47 a (imU imm) = x at r1 r2
  obtain ⟨B, hB⟩ : ∃ B, B = C.loop ir_undertowlaw08_AluPairsl0 := ⟨_, rfl⟩
  rw [← hB] at ih
  rw [← hB, s_loop_at hB]
  unfold numV parV at *
  simp [ir_undertowlaw08_AluPairsl0, go_sem, r1, r2, w, e6, ih]
theorem pl9 : evCI pg (.loop ir_undertowlaw08_AluPairsl0) ⟨[.int .i64 imm, .int .u64 (a : Int), .int .u64 (b : Int), .undef, .isl false numV, .isl false parV, .int .i64 9, .undef, .undef, .undef, .undef, .undef, .undef], ⟨[], [], []⟩⟩ = some (.exit 0, ⟨[.int .i64 imm, .int .u64 (a : Int), .int .u64 (b : Int), .undef, .isl false numV, .isl false parV, .int .i64 13, .undef, .undef, .bool false, .undef, .undef, .undef], ⟨[], [], []⟩⟩) := by
  have ih := pl10 ha hb imm
  have r1 : evI pg .val n_alu_Result [.agg [.int .i64 31, .int .i64 0, .int .i64 0, .int .i64 0, .int .i64 imm, .bool false, .bool false, .int .i64 0, .int .i64 0], .int .u64 0, .int .u64 (a : Int), .int .u64 (b : Int)] [] = some (.int .u64 (prs 45 a (imU imm) : Nat), []) :=
    Result_ok (pc := 0) ha hb (by decide) (imU_lt imm) 31 (by decide) (by decide) 0 0 0 imm false false 0 0 (imU_eq imm)
  have r2 : evI pg .val n_alu_Result [.agg [.int .i64 45, .int .i64 0, .int .i64 0, .int .i64 0, .int .i64 0, .bool false, .bool false, .int .i64 0, .int .i64 0], .int .u64 0, .int .u64 (a : Int), .int .u64 (imU imm : Int)] [] = some (.int .u64 (prs 45 a (imU imm) : Nat), []) :=
    Result_ok (pc := 0) (m := 0) ha (imU_lt imm) (by decide) (by decide) 45 (by decide) (by decide) 0 0 0 0 false false 0 0 rfl
  have w := imU_eq imm
  have e6 : IntKind.i64.wrap (9 + 1) = 10 := by rfl
  generalize prs 45 a (imU imm) = x at r1 r2
  obtain ⟨B, hB⟩ : ∃ B, B = C.loop ir_undertowlaw08_AluPairsl0 := ⟨_, rfl⟩
  rw [← hB] at ih
  rw [← hB, s_loop_at hB]
  unfold numV parV at *
  simp [ir_undertowlaw08_AluPairsl0, go_sem, r1, r2, w, e6, ih]
theorem pl8 : evCI pg (.loop ir_undertowlaw08_AluPairsl0) ⟨[.int .i64 imm, .int .u64 (a : Int), .int .u64 (b : Int), .undef, .isl false numV, .isl false parV, .int .i64 8, .undef, .undef, .undef, .undef, .undef, .undef], ⟨[], [], []⟩⟩ = some (.exit 0, ⟨[.int .i64 imm, .int .u64 (a : Int), .int .u64 (b : Int), .undef, .isl false numV, .isl false parV, .int .i64 13, .undef, .undef, .bool false, .undef, .undef, .undef], ⟨[], [], []⟩⟩) := by
  have ih := pl9 ha hb imm
  have r1 : evI pg .val n_alu_Result [.agg [.int .i64 30, .int .i64 0, .int .i64 0, .int .i64 0, .int .i64 imm, .bool false, .bool false, .int .i64 0, .int .i64 0], .int .u64 0, .int .u64 (a : Int), .int .u64 (b : Int)] [] = some (.int .u64 (prs 42 a (imU imm) : Nat), []) :=
    Result_ok (pc := 0) ha hb (by decide) (imU_lt imm) 30 (by decide) (by decide) 0 0 0 imm false false 0 0 (imU_eq imm)
  have r2 : evI pg .val n_alu_Result [.agg [.int .i64 42, .int .i64 0, .int .i64 0, .int .i64 0, .int .i64 0, .bool false, .bool false, .int .i64 0, .int .i64 0], .int .u64 0, .int .u64 (a : Int), .int .u64 (imU imm : Int)] [] = some (.int .u64 (prs 42 a (imU imm) : Nat), []) :=
    Result_ok (pc := 0) (m := 0) ha (imU_lt imm) (by decide) (by decide) 42 (by decide) (by decide) 0 0 0 0 false false 0 0 rfl
  have w := imU_eq imm
  have e6 : IntKind.i64.wrap (8 + 1) = 9 := by rfl
  generalize prs 42 a (imU imm) = x at r1 r2
  obtain ⟨B, hB⟩ : ∃ B, B = C.loop ir_undertowlaw08_AluPairsl0 := ⟨_, rfl⟩
  rw [← hB] at ih
  rw [← hB, s_loop_at hB]
  unfold numV parV at *
  simp [ir_undertowlaw08_AluPairsl0, go_sem, r1, r2, w, e6, ih]
theorem pl7 : evCI pg (.loop ir_undertowlaw08_AluPairsl0) ⟨[.int .i64 imm, .int .u64 (a : Int), .int .u64 (b : Int), .undef, .isl false numV, .isl false parV, .int .i64 7, .undef, .undef, .undef, .undef, .undef, .undef], ⟨[], [], []⟩⟩ = some (.exit 0, ⟨[.int .i64 imm, .int .u64 (a : Int), .int .u64 (b : Int), .undef, .isl false numV, .isl false parV, .int .i64 13, .undef, .undef, .bool false, .undef, .undef, .undef], ⟨[], [], []⟩⟩) := by
  have ih := pl8 ha hb imm
  have r1 : evI pg .val n_alu_Result [.agg [.int .i64 29, .int .i64 0, .int .i64 0, .int .i64 0, .int .i64 imm, .bool false, .bool false, .int .i64 0, .int .i64 0], .int .u64 0, .int .u64 (a : Int), .int .u64 (b : Int)] [] = some (.int .u64 (prs 41 a (imU imm) : Nat), []) :=
    Result_ok (pc := 0) ha hb (by decide) (imU_lt imm) 29 (by decide) (by decide) 0 0 0 imm false false 0 0 (imU_eq imm)
  have r2 : evI pg .val n_alu_Result [.agg [.int .i64 41, .int .i64 0, .int .i64 0, .int .i64 0, .int .i64 0, .bool false, .bool false, .int .i64 0, .int .i64 0], .int .u64 0, .int .u64 (a : Int), .int .u64 (imU imm : Int)] [] = some (.int .u64 (prs 41 a (imU imm) : Nat), []) :=
    Result_ok (pc := 0) (m := 0) ha (imU_lt imm) (by decide) (by decide) 41 (by decide) (by decide) 0 0 0 0 false false 0 0 rfl
  have w := imU_eq imm
  have e6 : IntKind.i64.wrap (7 + 1) = 8 := by rfl
  generalize prs 41 a (imU imm) = x at r1 r2
  obtain ⟨B, hB⟩ : ∃ B, B = C.loop ir_undertowlaw08_AluPairsl0 := ⟨_, rfl⟩
  rw [← hB] at ih
  rw [← hB, s_loop_at hB]
  unfold numV parV at *
  simp [ir_undertowlaw08_AluPairsl0, go_sem, r1, r2, w, e6, ih]
theorem pl6 : evCI pg (.loop ir_undertowlaw08_AluPairsl0) ⟨[.int .i64 imm, .int .u64 (a : Int), .int .u64 (b : Int), .undef, .isl false numV, .isl false parV, .int .i64 6, .undef, .undef, .undef, .undef, .undef, .undef], ⟨[], [], []⟩⟩ = some (.exit 0, ⟨[.int .i64 imm, .int .u64 (a : Int), .int .u64 (b : Int), .undef, .isl false numV, .isl false parV, .int .i64 13, .undef, .undef, .bool false, .undef, .undef, .undef], ⟨[], [], []⟩⟩) := by
  have ih := pl7 ha hb imm
  have r1 : evI pg .val n_alu_Result [.agg [.int .i64 28, .int .i64 0, .int .i64 0, .int .i64 0, .int .i64 imm, .bool false, .bool false, .int .i64 0, .int .i64 0], .int .u64 0, .int .u64 (a : Int), .int .u64 (b : Int)] [] = some (.int .u64 (prs 37 a (imU imm) : Nat), []) :=
    Result_ok (pc := 0) ha hb (by decide) (imU_lt imm) 28 (by decide) (by decide) 0 0 0 imm false false 0 0 (imU_eq imm)
  have r2 : evI pg .val n_alu_Result [.agg [.int .i64 37, .int .i64 0, .int .i64 0, .int .i64 0, .int .i64 0, .bool false, .bool false, .int .i64 0, .int .i64 0], .int .u64 0, .int .u64 (a : Int), .int .u64 (imU imm : Int)] [] = some (.int .u64 (prs 37 a (imU imm) : Nat), []) :=
    Result_ok (pc := 0) (m := 0) ha (imU_lt imm) (by decide) (by decide) 37 (by decide) (by decide) 0 0 0 0 false false 0 0 rfl
  have w := imU_eq imm
  have e6 : IntKind.i64.wrap (6 + 1) = 7 := by rfl
  generalize prs 37 a (imU imm) = x at r1 r2
  obtain ⟨B, hB⟩ : ∃ B, B = C.loop ir_undertowlaw08_AluPairsl0 := ⟨_, rfl⟩
  rw [← hB] at ih
  rw [← hB, s_loop_at hB]
  unfold numV parV at *
  simp [ir_undertowlaw08_AluPairsl0, go_sem, r1, r2, w, e6, ih]
theorem pl5 : evCI pg (.loop ir_undertowlaw08_AluPairsl0) ⟨[.int .i64 imm, .int .u64 (a : Int), .int .u64 (b : Int), .undef, .isl false numV, .isl false parV, .int .i64 5, .undef, .undef, .undef, .undef, .undef, .undef], ⟨[], [], []⟩⟩ = some (.exit 0, ⟨[.int .i64 imm, .int .u64 (a : Int), .int .u64 (b : Int), .undef, .isl false numV, .isl false parV, .int .i64 13, .undef, .undef, .bool false, .undef, .undef, .undef], ⟨[], [], []⟩⟩) := by
  have ih := pl6 ha hb imm
  have r1 : evI pg .val n_alu_Result [.agg [.int .i64 27, .int .i64 0, .int .i64 0, .int .i64 0, .int .i64 imm, .bool false, .bool false, .int .i64 0, .int .i64 0], .int .u64 0, .int .u64 (a : Int), .int .u64 (b : Int)] [] = some (.int .u64 (prs 44 a (imU imm) : Nat), []) :=
    Result_ok (pc := 0) ha hb (by decide) (imU_lt imm) 27 (by decide) (by decide) 0 0 0 imm false false 0 0 (imU_eq imm)
  have r2 : evI pg .val n_alu_Result [.agg [.int .i64 44, .int .i64 0, .int .i64 0, .int .i64 0, .int .i64 0, .bool false, .bool false, .int .i64 0, .int .i64 0], .int .u64 0, .int .u64 (a : Int), .int .u64 (imU imm : Int)] [] = some (.int .u64 (prs 44 a (imU imm) : Nat), []) :=
    Result_ok (pc := 0) (m := 0) ha (imU_lt imm) (by decide) (by decide) 44 (by decide) (by decide) 0 0 0 0 false false 0 0 rfl
  have w := imU_eq imm
  have e6 : IntKind.i64.wrap (5 + 1) = 6 := by rfl
  generalize prs 44 a (imU imm) = x at r1 r2
  obtain ⟨B, hB⟩ : ∃ B, B = C.loop ir_undertowlaw08_AluPairsl0 := ⟨_, rfl⟩
  rw [← hB] at ih
  rw [← hB, s_loop_at hB]
  unfold numV parV at *
  simp [ir_undertowlaw08_AluPairsl0, go_sem, r1, r2, w, e6, ih]
theorem pl4 : evCI pg (.loop ir_undertowlaw08_AluPairsl0) ⟨[.int .i64 imm, .int .u64 (a : Int), .int .u64 (b : Int), .undef, .isl false numV, .isl false parV, .int .i64 4, .undef, .undef, .undef, .undef, .undef, .undef], ⟨[], [], []⟩⟩ = some (.exit 0, ⟨[.int .i64 imm, .int .u64 (a : Int), .int .u64 (b : Int), .undef, .isl false numV, .isl false parV, .int .i64 13, .undef, .undef, .bool false, .undef, .undef, .undef], ⟨[], [], []⟩⟩) := by
  have ih := pl5 ha hb imm
  have r1 : evI pg .val n_alu_Result [.agg [.int .i64 26, .int .i64 0, .int .i64 0, .int .i64 0, .int .i64 imm, .bool false, .bool false, .int .i64 0, .int .i64 0], .int .u64 0, .int .u64 (a : Int), .int .u64 (b : Int)] [] = some (.int .u64 (prs 43 a (imU imm) : Nat), []) :=
    Result_ok (pc := 0) ha hb (by decide) (imU_lt imm) 26 (by decide) (by decide) 0 0 0 imm false false 0 0 (imU_eq imm)
  have r2 : evI pg .val n_alu_Result [.agg [.int .i64 43, .int .i64 0, .int .i64 0, .int .i64 0, .int .i64 0, .bool false, .bool false, .int .i64 0, .int .i64 0], .int .u64 0, .int .u64 (a : Int), .int .u64 (imU imm : Int)] [] = some (.int .u64 (prs 43 a (imU imm) : Nat), []) :=
    Result_ok (pc := 0) (m := 0) ha (imU_lt imm) (by decide) (by decide) 43 (by decide) (by decide) 0 0 0 0 false false 0 0 rfl
  have w := imU_eq imm
  have e6 : IntKind.i64.wrap (4 + 1) = 5 := by rfl
  generalize prs 43 a (imU imm) = x at r1 r2
  obtain ⟨B, hB⟩ : ∃ B, B = C.loop ir_undertowlaw08_AluPairsl0 := ⟨_, rfl⟩
  rw [← hB] at ih
  rw [← hB, s_loop_at hB]
  unfold numV parV at *
  simp [ir_undertowlaw08_AluPairsl0, go_sem, r1, r2, w, e6, ih]
theorem pl3 : evCI pg (.loop ir_undertowlaw08_AluPairsl0) ⟨[.int .i64 imm, .int .u64 (a : Int), .int .u64 (b : Int), .undef, .isl false numV, .isl false parV, .int .i64 3, .undef, .undef, .undef, .undef, .undef, .undef], ⟨[], [], []⟩⟩ = some (.exit 0, ⟨[.int .i64 imm, .int .u64 (a : Int), .int .u64 (b : Int), .undef, .isl false numV, .isl false parV, .int .i64 13, .undef, .undef, .bool false, .undef, .undef, .undef], ⟨[], [], []⟩⟩) := by
  have ih := pl4 ha hb imm
  have r1 : evI pg .val n_alu_Result [.agg [.int .i64 25, .int .i64 0, .int .i64 0, .int .i64 0, .int .i64 imm, .bool false, .bool false, .int .i64 0, .int .i64 0], .int .u64 0, .int .u64 (a : Int), .int .u64 (b : Int)] [] = some (.int .u64 (prs 40 a (imU imm) : Nat), []) :=
    Result_ok (pc := 0) ha hb (by decide) (imU_lt imm) 25 (by decide) (by decide) 0 0 0 imm false false 0 0 (imU_eq imm)
  have r2 : evI pg .val n_alu_Result [.agg [.int .i64 40, .int .i64 0, .int .i64 0, .int .i64 0, .int .i64 0, .bool false, .bool false, .int .i64 0, .int .i64 0], .int .u64 0, .int .u64 (a : Int), .int .u64 (imU imm : Int)] [] = some (.int .u64 (prs 40 a (imU imm) : Nat), []) :=
    Result_ok (pc := 0) (m := 0) ha (imU_lt imm) (by decide) (by decide) 40 (by decide) (by decide) 0 0 0 0 false false 0 0 rfl
  have w := imU_eq imm
  have e6 : IntKind.i64.wrap (3 + 1) = 4 := by rfl
  generalize prs 40 a (imU imm) = x at r1 r2
  obtain ⟨B, hB⟩ : ∃ B, B = C.loop ir_undertowlaw08_AluPairsl0 := ⟨_, rfl⟩
  rw [← hB] at ih
  rw [← hB, s_loop_at hB]
  unfold numV parV at *
  simp [ir_undertowlaw08_AluPairsl0, go_sem, r1, r2, w, e6, ih]
theorem pl2 : evCI pg (.loop ir_undertowlaw08_AluPairsl0) ⟨[.int .i64 imm, .int .u64 (a : Int), .int .u64 (b : Int), .undef, .isl false numV, .isl false parV, .int .i64 2, .undef, .undef, .undef, .undef, .undef, .undef], ⟨[], [], []⟩⟩ = some (.exit 0, ⟨[.int .i64 imm, .int .u64 (a : Int), .int .u64 (b : Int), .undef, .isl false numV, .isl false parV, .int .i64 13, .undef, .undef, .bool false, .undef, .undef, .undef], ⟨[], [], []⟩⟩) := by
  have ih := pl3 ha hb imm
  have r1 : evI pg .val n_alu_Result [.agg [.int .i64 24, .int .i64 0, .int .i64 0, .int .i64 0, .int .i64 imm, .bool false, .bool false, .int .i64 0, .int .i64 0], .int .u64 0, .int .u64 (a : Int), .int .u64 (b : Int)] [] = some (.int .u64 (prs 39 a (imU imm) : Nat), []) :=
    Result_ok (pc := 0) ha hb (by decide) (imU_lt imm) 24 (by decide) (by decide) 0 0 0 imm false false 0 0 (imU_eq imm)
  have r2 : evI pg .val n_alu_Result [.agg [.int .i64 39, .int .i64 0, .int .i64 0, .int .i64 0, .int .i64 0, .bool false, .bool false, .int .i64 0, .int .i64 0], .int .u64 0, .int .u64 (a : Int), .int .u64 (imU imm : Int)] [] = some (.int .u64 (prs 39 a (imU imm) : Nat), []) :=
    Result_ok (pc := 0) (m := 0) ha (imU_lt imm) (by decide) (by decide) 39 (by decide) (by decide) 0 0 0 0 false false 0 0 rfl
  have w := imU_eq imm
  have e6 : IntKind.i64.wrap (2 + 1) = 3 := by rfl
  generalize prs 39 a (imU imm) = x at r1 r2
  obtain ⟨B, hB⟩ : ∃ B, B = C.loop ir_undertowlaw08_AluPairsl0 := ⟨_, rfl⟩
  rw [← hB] at ih
  rw [← hB, s_loop_at hB]
  unfold numV parV at *
  simp [ir_undertowlaw08_AluPairsl0, go_sem, r1, r2, w, e6, ih]
theorem pl1 : evCI pg (.loop ir_undertowlaw08_AluPairsl0) ⟨[.int .i64 imm, .int .u64 (a : Int), .int .u64 (b : Int), .undef, .isl false numV, .isl false parV, .int .i64 1, .undef, .undef, .undef, .undef, .undef, .undef], ⟨[], [], []⟩⟩ = some (.exit 0, ⟨[.int .i64 imm, .int .u64 (a : Int), .int .u64 (b : Int), .undef, .isl false numV, .isl false parV, .int .i64 13, .undef, .undef, .bool false, .undef, .undef, .undef], ⟨[], [], []⟩⟩) := by
  have ih := pl2 ha hb imm
  have r1 : evI pg .val n_alu_Result [.agg [.int .i64 23, .int .i64 0, .int .i64 0, .int .i64 0, .int .i64 imm, .bool false, .bool false, .int .i64 0, .int .i64 0], .int .u64 0, .int .u64 (a : Int), .int .u64 (b : Int)] [] = some (.int .u64 (prs 38 a (imU imm) : Nat), []) :=
    Result_ok (pc := 0) ha hb (by decide) (imU_lt imm) 23 (by decide) (by decide) 0 0 0 imm false false 0 0 (imU_eq imm)
  have r2 : evI pg .val n_alu_Result [.agg [.int .i64 38, .int .i64 0, .int .i64 0, .int .i64 0, .int .i64 0, .bool false, .bool false, .int .i64 0, .int .i64 0], .int .u64 0, .int .u64 (a : Int), .int .u64 (imU imm : Int)] [] = some (.int .u64 (prs 38 a (imU imm) : Nat), []) :=
    Result_ok (pc := 0) (m := 0) ha (imU_lt imm) (by decide) (by decide) 38 (by decide) (by decide) 0 0 0 0 false false 0 0 rfl
  have w := imU_eq imm
  have e6 : IntKind.i64.wrap (1 + 1) = 2 := by rfl
  generalize prs 38 a (imU imm) = x at r1 r2
  obtain ⟨B, hB⟩ : ∃ B, B = C.loop ir_undertowlaw08_AluPairsl0 := ⟨_, rfl⟩
  rw [← hB] at ih
  rw [← hB, s_loop_at hB]
  unfold numV parV at *
  simp [ir_undertowlaw08_AluPairsl0, go_sem, r1, r2, w, e6, ih]
theorem pl0 : evCI pg (.loop ir_undertowlaw08_AluPairsl0) ⟨[.int .i64 imm, .int .u64 (a : Int), .int .u64 (b : Int), .undef, .isl false numV, .isl false parV, .int .i64 0, .undef, .undef, .undef, .undef, .undef, .undef], ⟨[], [], []⟩⟩ = some (.exit 0, ⟨[.int .i64 imm, .int .u64 (a : Int), .int .u64 (b : Int), .undef, .isl false numV, .isl false parV, .int .i64 13, .undef, .undef, .bool false, .undef, .undef, .undef], ⟨[], [], []⟩⟩) := by
  have ih := pl1 ha hb imm
  have r1 : evI pg .val n_alu_Result [.agg [.int .i64 22, .int .i64 0, .int .i64 0, .int .i64 0, .int .i64 imm, .bool false, .bool false, .int .i64 0, .int .i64 0], .int .u64 0, .int .u64 (a : Int), .int .u64 (b : Int)] [] = some (.int .u64 (prs 35 a (imU imm) : Nat), []) :=
    Result_ok (pc := 0) ha hb (by decide) (imU_lt imm) 22 (by decide) (by decide) 0 0 0 imm false false 0 0 (imU_eq imm)
  have r2 : evI pg .val n_alu_Result [.agg [.int .i64 35, .int .i64 0, .int .i64 0, .int .i64 0, .int .i64 0, .bool false, .bool false, .int .i64 0, .int .i64 0], .int .u64 0, .int .u64 (a : Int), .int .u64 (imU imm : Int)] [] = some (.int .u64 (prs 35 a (imU imm) : Nat), []) :=
    Result_ok (pc := 0) (m := 0) ha (imU_lt imm) (by decide) (by decide) 35 (by decide) (by decide) 0 0 0 0 false false 0 0 rfl
  have w := imU_eq imm
  have e6 : IntKind.i64.wrap (0 + 1) = 1 := by rfl
  generalize prs 35 a (imU imm) = x at r1 r2
  obtain ⟨B, hB⟩ : ∃ B, B = C.loop ir_undertowlaw08_AluPairsl0 := ⟨_, rfl⟩
  rw [← hB] at ih
  rw [← hB, s_loop_at hB]
  unfold numV parV at *
  simp [ir_undertowlaw08_AluPairsl0, go_sem, r1, r2, w, e6, ih]
theorem pb11 : evCI pg (.loop ir_undertowlaw08_AluPairsl1) ⟨[.undef, .int .u64 (a : Int), .int .u64 (b : Int), .undef, .undef, .undef, .undef, .int .i64 11, .undef, .undef, .undef, .undef, .undef], ⟨[], [], []⟩⟩ = some (.exit 2, ⟨[.undef, .int .u64 (a : Int), .int .u64 (b : Int), .undef, .undef, .undef, .undef, .int .i64 11, .undef, .undef, .undef, .bool false, .undef], ⟨[], [], []⟩⟩) := by
  rw [s_loop]
  simp [ir_undertowlaw08_AluPairsl1, go_sem]
theorem pb9 : evCI pg (.loop ir_undertowlaw08_AluPairsl1) ⟨[.undef, .int .u64 (a : Int), .int .u64 (b : Int), .undef, .undef, .undef, .undef, .int .i64 9, .undef, .undef, .undef, .undef, .undef], ⟨[], [], []⟩⟩ = some (.exit 2, ⟨[.undef, .int .u64 (a : Int), .int .u64 (b : Int), .undef, .undef, .undef, .undef, .int .i64 11, .undef, .undef, .undef, .bool false, .undef], ⟨[], [], []⟩⟩) := by
  have ih := pb11 ha hb
  have r1 := Taken_ok ha hb 9 0 0 0 0 false false 0 0
  have r2 := Taken_ok ha hb 10 0 0 0 0 false false 0 0
  have hne : tk 9 a b = !tk 10 a b := by simp [tk]
  rw [hne] at r1
  generalize tk 10 a b = x at r1 r2
  have e1 : IntKind.i64.wrap (9 + 1) = 10 := by rfl
  have e2 : IntKind.i64.wrap (9 + 2) = 11 := by rfl
  obtain ⟨B, hB⟩ : ∃ B, B = C.loop ir_undertowlaw08_AluPairsl1 := ⟨_, rfl⟩
  rw [← hB] at ih
  rw [← hB, s_loop_at hB]
  cases x <;> (simp at r1; simp [ir_undertowlaw08_AluPairsl1, go_sem, r1, r2, e1, e2, ih])
theorem pb7 : evCI pg (.loop ir_undertowlaw08_AluPairsl1) ⟨[.undef, .int .u64 (a : Int), .int .u64 (b : Int), .undef, .undef, .undef, .undef, .int .i64 7, .undef, .undef, .undef, .undef, .undef], ⟨[], [], []⟩⟩ = some (.exit 2, ⟨[.undef, .int .u64 (a : Int), .int .u64 (b : Int), .undef, .undef, .undef, .undef, .int .i64 11, .undef, .undef, .undef, .bool false, .undef], ⟨[], [], []⟩⟩) := by
  have ih := pb9 ha hb
  have r1 := Taken_ok ha hb 7 0 0 0 0 false false 0 0
  have r2 := Taken_ok ha hb 8 0 0 0 0 false false 0 0
  have hne : tk 7 a b = !tk 8 a b := by simp [tk]
  rw [hne] at r1
  generalize tk 8 a b = x at r1 r2
  have e1 : IntKind.i64.wrap (7 + 1) = 8 := by rfl
  have e2 : IntKind.i64.wrap (7 + 2) = 9 := by rfl
  obtain ⟨B, hB⟩ : ∃ B, B = C.loop ir_undertowlaw08_AluPairsl1 := ⟨_, rfl⟩
  rw [← hB] at ih
  rw [← hB, s_loop_at hB]
  cases x <;> (simp at r1; simp [ir_undertowlaw08_AluPairsl1, go_sem, r1, r2, e1, e2, ih])
theorem pb5 : evCI pg (.loop ir_undertowlaw08_AluPairsl1) ⟨[.undef, .int .u64 (a : Int), .int .u64 (b : Int), .undef, .undef, .undef, .undef, .int .i64 5, .undef, .undef, .undef, .undef, .undef], ⟨[], [], []⟩⟩ = some (.exit 2, ⟨[.undef, .int .u64 (a : Int), .int .u64 (b : Int), .undef, .undef, .undef, .undef, .int .i64 11, .undef, .undef, .undef, .bool false, .undef], ⟨[], [], []⟩⟩) := by
  have ih := pb7 ha hb
  have r1 := Taken_ok ha hb 5 0 0 0 0 false false 0 0
  have r2 := Taken_ok ha hb 6 0 0 0 0 false false 0 0
  have hne : tk 5 a b = !tk 6 a b := by simp [tk]
  rw [hne] at r1
  generalize tk 6 a b = x at r1 r2
  have e1 : IntKind.i64.wrap (5 + 1) = 6 := by rfl
  have e2 : IntKind.i64.wrap (5 + 2) = 7 := by rfl
  obtain ⟨B, hB⟩ : ∃ B, B = C.loop ir_undertowlaw08_AluPairsl1 := ⟨_, rfl⟩
  rw [← hB] at ih
  rw [← hB, s_loop_at hB]
  cases x <;> (simp at r1; simp [ir_undertowlaw08_AluPairsl1, go_sem, r1, r2, e1, e2, ih])
theorem AluPairs_true : evI pg .val n_undertowlaw08_AluPairs [.int .i64 imm, .int .u64 (a : Int), .int .u64 (b : Int)] [] = some (.bool true, []) := by
  have hl := pl0 ha hb imm
  have hb5 := pb5 ha hb
  have r1 : evI pg .val n_alu_Result [.agg [.int .i64 35, .int .i64 0, .int .i64 0, .int .i64 0, .int .i64 0, .bool false, .bool false, .int .i64 0, .int .i64 0], .int .u64 0, .int .u64 (a : Int), .int .u64 (b : Int)] [] = some (.int .u64 (prs 35 a b : Nat), []) :=
    Result_ok (pc := 0) (m := 0) ha hb (by decide) (by decide) 35 (by decide) (by decide) 0 0 0 0 false false 0 0 rfl
  have hy : prs 35 a b < 18446744073709551616 := by show (a + b) % 18446744073709551616 < _; omega
  have r2 : evI pg .val n_alu_Result [.agg [.int .i64 36, .int .i64 0, .int .i64 0, .int .i64 0, .int .i64 0, .bool false, .bool false, .int .i64 0, .int .i64 0], .int .u64 0, .int .u64 (prs 35 a b : Nat), .int .u64 (b : Int)] [] = some (.int .u64 (prs 36 (prs 35 a b) b : Nat), []) :=
    Result_ok (pc := 0) (m := 0) hy hb (by decide) (by decide) 36 (by decide) (by decide) 0 0 0 0 false false 0 0 rfl
  have he : prs 36 (prs 35 a b) b = a := by
    show ((a + b) % 18446744073709551616 + (18446744073709551616 - b)) % 18446744073709551616 = a
    omega
  rw [he] at r2
  generalize prs 35 a b = y at *
  rw [s_fn fn_undertowlaw08_AluPairs]
  unfold numV parV at hl
  simp [ir_undertowlaw08_AluPairs, go_sem, litParts, immAll, V.imm, alive8, hl, hb5, r1, r2]
end
theorem law_pairs : ∀ vs, PArgs Try.prog 8 Try.f6.params.toList vs → ∃ k, evF pg k .val 6 vs [] = some (.bool true, []) := by
  intro vs h
  obtain ⟨v1, _, rfl, h1, v2, _, rfl, h2, v3, _, rfl, h3, rfl⟩ := h
  obtain ⟨imm, rfl, _⟩ := arg_i64 Try.underlying2 h1
  obtain ⟨a, rfl, q3⟩ := arg_u64 Try.underlying24 h2
  obtain ⟨b, rfl, q4⟩ := arg_u64 Try.underlying24 h3
  exact (evI_iff (hx _ _)).1 (AluPairs_true q3 q4 imm)
end Go.Proofs.Ytffbhbjnkecieaa
