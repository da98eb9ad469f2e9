/- Layer 21: what instructions read and write, by both (no claim; lemmas). -/
import Derived.Test.YtccdkkgimaajbaaDoorK21a
set_option linter.unusedSimpArgs false
set_option linter.unusedVariables false
namespace Go.Proofs.YtccdkkgimaajbaaDoor
open Go Go.Vm

theorem inV_imm (x : In) : ∀ v ∈ inV x, v.imm = true := by
  intro v hv
  simp only [inV, List.mem_cons, List.not_mem_nil, or_false] at hv
  rcases hv with rfl | rfl | rfl | rfl | rfl | rfl | rfl | rfl | rfl <;> rfl
theorem Target_ok (x : In) : evI pg .val n_ops_Target [.agg (inV x)] [] = some (.int .i64 (tgt x), []) := by
  have hS := SortO x.op
  have r1 := register_ok x.rd
  have G : ∀ s : Nat, srtO x.op = s → (s = 0 ∨ s = 1 ∨ s = 2 ∨ s = 3 ∨ s = 4 ∨ s = 5 ∨ s = 6 ∨ s = 7 ∨ s = 8 ∨ s = 9 ∨ s = 10 ∨ s = 11 ∨ s = 12) → evI pg .val n_ops_Target [.agg (inV x)] [] = some (.int .i64 (tgt x), []) := by
    intro s hs hc
    rw [hs] at hS
    have ht : tgt x = if wrt x.op then rg x.rd else 0 := rfl
    unfold wrt at ht
    rw [hs] at ht
    generalize tgt x = q at *
    generalize rg x.rd = p at *
    rw [s_fn fn_ops_Target]
    rcases hc with rfl | rfl | rfl | rfl | rfl | rfl | rfl | rfl | rfl | rfl | rfl | rfl | rfl <;> simp at ht <;> subst ht <;> simp [ir_ops_Target, go_sem, inV, hS, r1, V.cells, splice]
  exact G _ rfl (le12 (srtO_le _))
/-- Does an instruction give its own? -/
def giv (op : Int) : Bool := let s := srtO op; s == 4 || s == 10 || s == 11 || s == 12
theorem gives_ok (x : In) : evI pg .val n_deps_gives [.agg (inV x)] [] = some (.bool (giv x.op), []) := by
  have hS := SortO x.op
  have G : ∀ s : Nat, srtO x.op = s → (s = 0 ∨ s = 1 ∨ s = 2 ∨ s = 3 ∨ s = 4 ∨ s = 5 ∨ s = 6 ∨ s = 7 ∨ s = 8 ∨ s = 9 ∨ s = 10 ∨ s = 11 ∨ s = 12) → evI pg .val n_deps_gives [.agg (inV x)] [] = some (.bool (giv x.op), []) := by
    intro s hs hc
    rw [hs] at hS
    unfold giv
    rw [hs]
    rw [s_fn fn_deps_gives]
    rcases hc with rfl | rfl | rfl | rfl | rfl | rfl | rfl | rfl | rfl | rfl | rfl | rfl | rfl <;> simp [ir_deps_gives, go_sem, inV, hS, V.cells, splice]
  exact G _ rfl (le12 (srtO_le _))
/-- Does an operation store? -/
def sto (op : Int) : Bool := let s := srtO op; s == 5 || s == 11 || s == 12
theorem Stores_ok (op : Int) : evI pg .val n_ops_Stores [.int .i64 op] [] = some (.bool (sto op), []) := by
  have hS := SortO op
  have G : ∀ s : Nat, srtO op = s → (s = 0 ∨ s = 1 ∨ s = 2 ∨ s = 3 ∨ s = 4 ∨ s = 5 ∨ s = 6 ∨ s = 7 ∨ s = 8 ∨ s = 9 ∨ s = 10 ∨ s = 11 ∨ s = 12) → evI pg .val n_ops_Stores [.int .i64 op] [] = some (.bool (sto op), []) := by
    intro s hs hc
    rw [hs] at hS
    unfold sto
    rw [hs]
    rw [s_fn fn_ops_Stores]
    rcases hc with rfl | rfl | rfl | rfl | rfl | rfl | rfl | rfl | rfl | rfl | rfl | rfl | rfl <;> simp [ir_ops_Stores, go_sem, hS]
  exact G _ rfl (le12 (srtO_le _))
def no2 (x : In) : In := { x with rs2 := 0 }
def no1 (x : In) : In := { x with rs1 := 0 }
theorem first_ok (x : In) : evI pg .val n_deps_first [.agg (inV x)] [] = some (ils (iI (srcs (no2 x))), []) := by
  have h := Sources_ok (no2 x)
  have e : inV (no2 x) = [.int .i64 x.op, .int .i64 x.rd, .int .i64 x.rs1, .int .i64 0, .int .i64 x.imm, .bool x.aq, .bool x.rl, .int .i64 x.pred, .int .i64 x.succ] := rfl
  rw [e] at h
  have hs := Sl.ils (iI (srcs (no2 x)))
  rw [s_fn fn_deps_first]
  generalize iI (srcs (no2 x)) = q at *
  simp [ir_deps_first, go_sem, inV, h, V.cells, splice, evStore, hs.is]
theorem second_ok (x : In) : evI pg .val n_deps_second [.agg (inV x)] [] = some (ils (iI (srcs (no1 x))), []) := by
  have h := Sources_ok (no1 x)
  have e : inV (no1 x) = [.int .i64 x.op, .int .i64 x.rd, .int .i64 0, .int .i64 x.rs2, .int .i64 x.imm, .bool x.aq, .bool x.rl, .int .i64 x.pred, .int .i64 x.succ] := rfl
  rw [e] at h
  have hs := Sl.ils (iI (srcs (no1 x)))
  rw [s_fn fn_deps_second]
  generalize iI (srcs (no1 x)) = q at *
  simp [ir_deps_second, go_sem, inV, h, V.cells, splice, evStore, hs.is]
/-! ### the document's -/
theorem nm_jalr : ∀ k : Fin 76, decide (nm k.1 = [106, 97, 108, 114]) = decide (k.1 = 4) := by decide
theorem srt4 {op : Int} (h : op = 4) : srtO op = 2 := by rw [h]; exact srtO4
theorem rg_pos {r : Int} (h : 0 < rg r) : rg r = r := by
  by_cases c : r < 0 ∨ 31 < r
  · simp [rg, c] at h
  · simp [rg, c]
end Go.Proofs.YtccdkkgimaajbaaDoor
