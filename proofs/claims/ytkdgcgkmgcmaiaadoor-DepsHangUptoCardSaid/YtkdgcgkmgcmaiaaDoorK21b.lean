/- Layer 21: what instructions read and write, by both (no claim; lemmas). -/
import Derived.Test.YtkdgcgkmgcmaiaaDoorK21a
set_option linter.unusedSimpArgs false
set_option linter.unusedVariables false
namespace Go.Proofs.YtkdgcgkmgcmaiaaDoor
open Go Go.Vm

theorem inV_imm (x : In) : ∀ v ∈ inV x, v.imm = true := by
  intro v hv
  simp only [inV, List.mem_cons, List.not_mem_nil, or_false] at hv
  rcases hv with rfl | rfl | rfl | rfl | rfl | rfl | rfl | rfl | rfl <;> rfl
theorem Target_ok (x : In) : evI pg .val n_ops_Target [.agg (inV x)] [] = some (.int .i64 (tgt x), []) := by
  have hS := SortO x.op
  have r1 := register_ok x.rd
  have G : ∀ s : Nat, srtO x.op = s → (s = 0 ∨ s = 1 ∨ s = 2 ∨ s = 3 ∨ s = 4 ∨ s = 5 ∨ s = 6 ∨ s = 7 ∨ s = 8 ∨ s = 9 ∨ s = 10 ∨ s = 11 ∨ s = 12) → evI pg .val n_ops_Target [.agg (inV x)] [] = some (.int .i64 (tgt x), []) := by
    intro s hs hc
    rw [hs] at hS
    have ht : tgt x = if wrt x.op then rg x.rd else 0 := rfl
    unfold wrt at ht
    rw [hs] at ht
    generalize tgt x = q at *
    generalize rg x.rd = p at *
    rw [s_fn fn_ops_Target]
    rcases hc with rfl | rfl | rfl | rfl | rfl | rfl | rfl | rfl | rfl | rfl | rfl | rfl | rfl <;> simp at ht <;> subst ht <;> simp [ir_ops_Target, go_sem, inV, hS, r1, V.cells, splice]
  exact G _ rfl (le12 (srtO_le _))
/-- Does an instruction give its own? -/
def giv (op : Int) : Bool := let s := srtO op; s == 4 || s == 10 || s == 11 || s == 12
theorem gives_ok (x : In) : evI pg .val n_deps_gives [.agg (inV x)] [] = some (.bool (giv x.op), []) := by
  have hS := SortO x.op
  have G : ∀ s : Nat, srtO x.op = s → (s = 0 ∨ s = 1 ∨ s = 2 ∨ s = 3 ∨ s = 4 ∨ s = 5 ∨ s = 6 ∨ s = 7 ∨ s = 8 ∨ s = 9 ∨ s = 10 ∨ s = 11 ∨ s = 12) → evI pg .val n_deps_gives [.agg (inV x)] [] = some (.bool (giv x.op), []) := by
    intro s hs hc
    rw [hs] at hS
    unfold giv
    rw [hs]
    rw [s_fn fn_deps_gives]
    rcases hc with rfl | rfl | rfl | rfl | rfl | rfl | rfl | rfl | rfl | rfl | rfl | rfl | rfl <;> simp [ir_deps_gives, go_sem, inV, hS, V.cells, splice]
  exact G _ rfl (le12 (srtO_le _))
/-- Does an operation store? -/
def sto (op : Int) : Bool := let s := srtO op; s == 5 || s == 11 || s == 12
theorem Stores_ok (op : Int) : evI pg .val n_ops_Stores [.int .i64 op] [] = some (.bool (sto op), []) := by
  have hS := SortO op
  have G : ∀ s : Nat, srtO op = s → (s = 0 ∨ s = 1 ∨ s = 2 ∨ s = 3 ∨ s = 4 ∨ s = 5 ∨ s = 6 ∨ s = 7 ∨ s = 8 ∨ s = 9 ∨ s = 10 ∨ s = 11 ∨ s = 12) → evI pg .val n_ops_Stores [.int .i64 op] [] = some (.bool (sto op), []) := by
    intro s hs hc
    rw [hs] at hS
    unfold sto
    rw [hs]
    rw [s_fn fn_ops_Stores]
    rcases hc with rfl | rfl | rfl | rfl | rfl | rfl | rfl | rfl | rfl | rfl | rfl | rfl | rfl <;> simp [ir_ops_Stores, go_sem, hS]
  exact G _ rfl (le12 (srtO_le _))
def no2 (x : In) : In := { x with rs2 := 0 }
def no1 (x : In) : In := { x with rs1 := 0 }
theorem first_ok (x : In) : evI pg .val n_deps_first [.agg (inV x)] [] = some (ils (iI (srcs (no2 x))), []) := by
  have h := Sources_ok (no2 x)
  have e : inV (no2 x) = [.int .i64 x.op, .int .i64 x.rd, .int .i64 x.rs1, .int .i64 0, .int .i64 x.imm, .bool x.aq, .bool x.rl, .int .i64 x.pred, .int .i64 x.succ] := rfl
  rw [e] at h
  have hs := Sl.ils (iI (srcs (no2 x)))
  rw [s_fn fn_deps_first]
  generalize iI (srcs (no2 x)) = q at *
  simp [ir_deps_first, go_sem, inV, h, V.cells, splice, evStore, hs.is]
theorem second_ok (x : In) : evI pg .val n_deps_second [.agg (inV x)] [] = some (ils (iI (srcs (no1 x))), []) := by
  have h := Sources_ok (no1 x)
  have e : inV (no1 x) = [.int .i64 x.op, .int .i64 x.rd, .int .i64 0, .int .i64 x.rs2, .int .i64 x.imm, .bool x.aq, .bool x.rl, .int .i64 x.pred, .int .i64 x.succ] := rfl
  rw [e] at h
  have hs := Sl.ils (iI (srcs (no1 x)))
  rw [s_fn fn_deps_second]
  generalize iI (srcs (no1 x)) = q at *
  simp [ir_deps_second, go_sem, inV, h, V.cells, splice, evStore, hs.is]
/-! ### the document's -/
theorem nm_jalr : ∀ k : Fin 76, decide (nm k.1 = [106, 97, 108, 114]) = decide (k.1 = 4) := by decide
theorem refNameO (op : Int) : ∃ s, evI pg .val n_undertowref05_Name [.int .i64 op] [] = some (.str s, []) ∧ (s = [106, 97, 108, 114] ↔ op = 4) := by
  rcases op_cases (op := op) with h | ⟨k, rfl, h1, h2⟩
  · exact ⟨[], refName_out h, by simp; unfold noOp at h; omega⟩
  · refine ⟨nm k, refName_tab k h2, ?_⟩
    have := nm_jalr ⟨k, h2⟩
    rw [decide_eq_decide] at this
    exact this.trans ⟨fun h => by have : k = 4 := h; omega, fun h => by show k = 4; omega⟩
theorem srt4 {op : Int} (h : op = 4) : srtO op = 2 := by rw [h]; exact srtO4
theorem refFirst_ok (op : Int) (h64 : op ≤ 9223372036854775807) : evI pg .val n_undertowref05_First [.int .i64 op] [] = some (.bool (rd1 op), []) := by
  have hS := refSortO op h64
  obtain ⟨nme, hN, hj⟩ := refNameO op
  have G : ∀ s : Nat, srtO op = s → (op = 4 → s = 2) → (s = 0 ∨ s = 1 ∨ s = 2 ∨ s = 3 ∨ s = 4 ∨ s = 5 ∨ s = 6 ∨ s = 7 ∨ s = 8 ∨ s = 9 ∨ s = 10 ∨ s = 11 ∨ s = 12) → evI pg .val n_undertowref05_First [.int .i64 op] [] = some (.bool (rd1 op), []) := by
    intro s hs h4 hc
    rw [hs] at hS
    unfold rd1
    rw [hs]
    rw [s_fn fn_undertowref05_First]
    by_cases c4 : op = 4
    · obtain rfl := h4 c4
      have e := hj.2 c4
      subst e
      rw [c4] at hS hN
      rw [c4]
      simp [ir_undertowref05_First, go_sem, hS, hN, strV]
    · have e : ¬ nme = [106, 97, 108, 114] := fun e => c4 (hj.1 e)
      rcases hc with rfl | rfl | rfl | rfl | rfl | rfl | rfl | rfl | rfl | rfl | rfl | rfl | rfl <;> simp [ir_undertowref05_First, go_sem, hS, hN, c4, strV, e]
  exact G _ rfl srt4 (le12 (srtO_le _))
theorem refSecond_ok (op : Int) (h64 : op ≤ 9223372036854775807) : evI pg .val n_undertowref05_Second [.int .i64 op] [] = some (.bool (rd2 op), []) := by
  have hS := refSortO op h64
  have G : ∀ s : Nat, srtO op = s → (s = 0 ∨ s = 1 ∨ s = 2 ∨ s = 3 ∨ s = 4 ∨ s = 5 ∨ s = 6 ∨ s = 7 ∨ s = 8 ∨ s = 9 ∨ s = 10 ∨ s = 11 ∨ s = 12) → evI pg .val n_undertowref05_Second [.int .i64 op] [] = some (.bool (rd2 op), []) := by
    intro s hs hc
    rw [hs] at hS
    unfold rd2
    rw [hs]
    rw [s_fn fn_undertowref05_Second]
    rcases hc with rfl | rfl | rfl | rfl | rfl | rfl | rfl | rfl | rfl | rfl | rfl | rfl | rfl <;> simp [ir_undertowref05_Second, go_sem, hS]
  exact G _ rfl (le12 (srtO_le _))
theorem refWrites_ok (op : Int) (h64 : op ≤ 9223372036854775807) : evI pg .val n_undertowref05_Writes [.int .i64 op] [] = some (.bool (wrt op), []) := by
  have hS := refSortO op h64
  have G : ∀ s : Nat, srtO op = s → (s = 0 ∨ s = 1 ∨ s = 2 ∨ s = 3 ∨ s = 4 ∨ s = 5 ∨ s = 6 ∨ s = 7 ∨ s = 8 ∨ s = 9 ∨ s = 10 ∨ s = 11 ∨ s = 12) → evI pg .val n_undertowref05_Writes [.int .i64 op] [] = some (.bool (wrt op), []) := by
    intro s hs hc
    rw [hs] at hS
    unfold wrt
    rw [hs]
    rw [s_fn fn_undertowref05_Writes]
    rcases hc with rfl | rfl | rfl | rfl | rfl | rfl | rfl | rfl | rfl | rfl | rfl | rfl | rfl <;> simp [ir_undertowref05_Writes, go_sem, hS]
  exact G _ rfl (le12 (srtO_le _))
theorem refTarget_ok (x : In) (h64 : okI x) : evI pg .val n_undertowref05_Target [.agg (inV x)] [] = some (.int .i64 (tgt x), []) := by
  have hW := refWrites_ok x.op h64
  have r1 := refRegister_ok x.rd
  unfold tgt
  rw [s_fn fn_undertowref05_Target]
  cases hw : wrt x.op with
  | true =>
    rw [hw] at hW
    simp [ir_undertowref05_Target, go_sem, inV, hW, r1, V.cells, splice]
  | false =>
    rw [hw] at hW
    simp [ir_undertowref05_Target, go_sem, inV, hW, r1, V.cells, splice]
theorem rg_pos {r : Int} (h : 0 < rg r) : rg r = r := by
  by_cases c : r < 0 ∨ 31 < r
  · simp [rg, c] at h
  · simp [rg, c]
theorem refSources_ok (x : In) (h64 : okI x) : evI pg .val n_undertowref05_Sources [.agg (inV x)] [] = some (ils (iI (srcs x)), []) := by
  have hF := refFirst_ok x.op h64
  have hS := refSecond_ok x.op h64
  have r1 := refRegister_ok x.rs1
  have r2 := refRegister_ok x.rs2
  have p1 := fun h => rg_pos (r := x.rs1) h
  have p2 := fun h => rg_pos (r := x.rs2) h
  have l1 := (rg_le x.rs1).1
  have l2 := (rg_le x.rs2).1
  have hsr : srcs x = ((if rd1 x.op then [rg x.rs1] else []) ++ (if rd2 x.op then [rg x.rs2] else [])).filter fun r => decide (r ≠ 0) := rfl
  generalize srcs x = q at *
  generalize rd1 x.op = b1 at *
  generalize rd2 x.op = b2 at *
  have f1 : ∀ n, n ≤ 2 → fits 8 n = true := fun n hn => fits_of (by omega) (by omega)
  have f11 := f1 1 (by omega)
  have f12 := f1 2 (by omega)
  rw [s_fn fn_undertowref05_Sources]
  by_cases c1 : 0 < rg x.rs1
  · have e1 := p1 c1
    have n1 : ¬ rg x.rs1 = 0 := by omega
    by_cases c2 : 0 < rg x.rs2
    · have e2 := p2 c2
      have n2 : ¬ rg x.rs2 = 0 := by omega
      rw [e1] at hsr r1 c1 n1
      rw [e2] at hsr r2 c2 n2
      cases b1 <;> cases b2 <;> simp [n1, n2] at hsr <;> subst hsr <;> simp [ir_undertowref05_Sources, go_sem, inV, hF, hS, r1, r2, c1, c2, V.cells, splice, litParts, immAll, V.imm, appV, srcV, szAll, f11, f12, iI, ils]
    · have n2 : rg x.rs2 = 0 := by omega
      rw [e1] at hsr r1 c1 n1
      rw [n2] at hsr r2
      cases b1 <;> cases b2 <;> simp [n1, n2] at hsr <;> subst hsr <;> simp [ir_undertowref05_Sources, go_sem, inV, hF, hS, r1, r2, c1, V.cells, splice, litParts, immAll, V.imm, appV, srcV, szAll, f11, f12, iI, ils]
  · have n1 : rg x.rs1 = 0 := by omega
    by_cases c2 : 0 < rg x.rs2
    · have e2 := p2 c2
      have n2 : ¬ rg x.rs2 = 0 := by omega
      rw [n1] at hsr r1
      rw [e2] at hsr r2 c2 n2
      cases b1 <;> cases b2 <;> simp [n1, n2] at hsr <;> subst hsr <;> simp [ir_undertowref05_Sources, go_sem, inV, hF, hS, r1, r2, c2, V.cells, splice, litParts, immAll, V.imm, appV, srcV, szAll, f11, f12, iI, ils]
    · have n2 : rg x.rs2 = 0 := by omega
      rw [n1] at hsr r1
      rw [n2] at hsr r2
      cases b1 <;> cases b2 <;> simp [n1, n2] at hsr <;> subst hsr <;> simp [ir_undertowref05_Sources, go_sem, inV, hF, hS, r1, r2, V.cells, splice, litParts, immAll, V.imm, appV, srcV, szAll, f11, f12, iI, ils]
end Go.Proofs.YtkdgcgkmgcmaiaaDoor
