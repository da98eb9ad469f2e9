/- Layer 21: instructions, and the registers that they read and write (no claim; lemmas). -/
import Derived.Test.YtccdkkgimaajbaaDoorK19j
import Derived.Test.YtccdkkgimaajbaaDoorK08b
set_option linter.unusedSimpArgs false
set_option linter.unusedVariables false
namespace Go.Proofs.YtccdkkgimaajbaaDoor
open Go Go.Vm

/-- An instruction, as it counts here; the rest of its cells. -/
structure In where
  (op rd rs1 rs2 imm pred succ : Int) (aq rl : Bool)
def inV (x : In) : List V := [.int .i64 x.op, .int .i64 x.rd, .int .i64 x.rs1, .int .i64 x.rs2, .int .i64 x.imm, .bool x.aq, .bool x.rl, .int .i64 x.pred, .int .i64 x.succ]
theorem inV_len (x : In) : (inV x).length = 9 := rfl
def okI (x : In) : Prop := x.op ≤ 9223372036854775807
def srtO (op : Int) : Nat := if op < 1 ∨ 75 < op then 0 else srt op.toNat
theorem srt_le : ∀ k, srt k ≤ 12 := by
  intro k
  by_cases h : k < 76
  · have : ∀ k : Fin 76, srt k.1 ≤ 12 := by decide
    exact this ⟨k, h⟩
  · have e : srt k = 0 := by
      unfold srt
      rw [List.getD_eq_getElem?_getD, List.getElem?_eq_none (by change 76 ≤ k; omega)]; rfl
    omega
theorem srtO_le (op : Int) : srtO op ≤ 12 := by
  unfold srtO
  split
  · omega
  · exact srt_le _
theorem SortO (op : Int) : evI pg .val n_ops_Sort [.int .i64 op] [] = some (.int .i64 (srtO op : Nat), []) := by
  rcases op_cases (op := op) with h | ⟨k, rfl, h1, h2⟩
  · have e : srtO op = 0 := by unfold noOp at h; unfold srtO; rw [if_pos h]
    rw [e]; exact Sort_out h
  · have e : srtO (k : Int) = srt k := by unfold srtO; rw [if_neg (by omega)]; simp
    rw [e]; exact Sort_tab k h2
theorem refSortO (op : Int) (h64 : op ≤ 9223372036854775807) : evI pg .val n_undertowref05_Sort [.int .i64 op] [] = some (.int .i64 (srtO op : Nat), []) := by
  rcases op_cases (op := op) with h | ⟨k, rfl, h1, h2⟩
  · have e : srtO op = 0 := by unfold noOp at h; unfold srtO; rw [if_pos h]
    rw [e]; exact refSort_out h h64
  · have e : srtO (k : Int) = srt k := by unfold srtO; rw [if_neg (by omega)]; simp
    rw [e]; exact refSort_tab k h2
/-- Has an operation any memory? -/
def memO (op : Int) : Bool := let s := srtO op; s == 4 || s == 5 || s == 10 || s == 11 || s == 12
theorem sz_mem : ∀ k : Fin 76, (decide (0 < sz k.1)) = (let s := srt k.1; s == 4 || s == 5 || s == 10 || s == 11 || s == 12) := by decide
theorem Memory_ok (op : Int) : evI pg .val n_ops_Memory [.int .i64 op] [] = some (.bool (memO op), []) := by
  rcases op_cases (op := op) with h | ⟨k, rfl, h1, h2⟩
  · have e : srtO op = 0 := by unfold noOp at h; unfold srtO; rw [if_pos h]
    have e1 : memO op = false := by unfold memO; rw [e]; rfl
    have hs := Size_out h
    rw [e1, s_fn fn_ops_Memory]
    simp [ir_ops_Memory, go_sem, hs]
  · have e : srtO (k : Int) = srt k := by unfold srtO; rw [if_neg (by omega)]; simp
    have e1 : memO (k : Int) = decide (0 < sz k) := by unfold memO; rw [e]; exact (sz_mem ⟨k, h2⟩).symm
    have hs := Size_tab k h2
    rw [e1, s_fn fn_ops_Memory]
    simp [ir_ops_Memory, go_sem, hs]
/-- A register that counts. -/
def rg (r : Int) : Int := if r < 0 ∨ 31 < r then 0 else r
theorem rg_le (r : Int) : 0 ≤ rg r ∧ rg r ≤ 31 := by unfold rg; split <;> omega
theorem register_ok (r : Int) : evI pg .val n_ops_register [.int .i64 r] [] = some (.int .i64 (rg r), []) := by
  rw [s_fn fn_ops_register]
  unfold rg
  by_cases c : r < 0
  · simp [ir_ops_register, go_sem, c]
  · by_cases d : 31 < r
    · simp [ir_ops_register, go_sem, c, d]
    · simp [ir_ops_register, go_sem, c, d]
/-- Is rs1 read, is rs2? -/
def rd1 (op : Int) : Bool := let s := srtO op; decide (op = 4) || s == 3 || s == 4 || s == 5 || s == 6 || s == 7 || s == 10 || s == 11 || s == 12
def rd2 (op : Int) : Bool := let s := srtO op; s == 3 || s == 5 || s == 7 || s == 11 || s == 12
def wrt (op : Int) : Bool := let s := srtO op; !(s == 0 || s == 3 || s == 5 || s == 8 || s == 9)
def src0 (x : In) : List Int := (if rd1 x.op then [rg x.rs1] else []) ++ (if rd2 x.op then [rg x.rs2] else [])
/-- What an instruction reads. -/
def srcs (x : In) : List Int := (src0 x).filter fun r => decide (r ≠ 0)
def tgt (x : In) : Int := if wrt x.op then rg x.rd else 0
theorem srtO4 : srtO 4 = 2 := by decide
theorem le12 {s : Nat} (h : s ≤ 12) : s = 0 ∨ s = 1 ∨ s = 2 ∨ s = 3 ∨ s = 4 ∨ s = 5 ∨ s = 6 ∨ s = 7 ∨ s = 8 ∨ s = 9 ∨ s = 10 ∨ s = 11 ∨ s = 12 := by omega
theorem src_loop (u : V) (q : List Int) (hu : Sl u (iI q)) (hq : q.length ≤ 4) (i : Nat) (hi : i ≤ q.length) (l : List Int) (hl : l.length ≤ i) (a0 a1 a2 a3 a6 a7 a8 a9 a10 : V) (vs : List (List V)) :
    evCI pg (.loop ir_ops_Sourcesl0) ⟨[.undef, .undef, .undef, .undef, .osl false 0 (iI l), .undef, .undef, .undef, .undef, .undef, .undef, u, .int .i64 (q.length : Int), .int .i64 (i : Int), .undef, .undef], ⟨vs, [l.length], []⟩⟩ =
      some (.exit 1, ⟨[.undef, .undef, .undef, .undef, .osl false 0 (iI (l ++ (q.drop i).filter fun r => decide (r ≠ 0))), .undef, .undef, .undef, .undef, .undef, .undef, u, .int .i64 (q.length : Int), .int .i64 (q.length : Int), .bool false, .undef],
        ⟨vs, [(l ++ (q.drop i).filter fun r => decide (r ≠ 0)).length], []⟩⟩) := by
  obtain ⟨B, hB⟩ : ∃ B, B = C.loop ir_ops_Sourcesl0 := ⟨_, rfl⟩
  by_cases h : i < q.length
  · have e1 := fun m => hu.ia (sz := 1) m .i64 (i := i) (by rw [iI_len]; exact h) (by simp [iI])
    simp only [iI_el] at e1
    have e3 := succ_i64 h (by omega)
    by_cases c : q[i] = 0
    · have ih := src_loop u q hu hq (i + 1) (by omega) l (by omega) a0 a1 a2 a3 a6 a7 a8 a9 a10 vs
      rw [List.drop_eq_getElem_cons h, List.filter_cons, c]
      simp only [ne_eq, not_true_eq_false, decide_false, Bool.false_eq_true, if_false]
      rw [c] at e1
      simp only [ne_eq] at ih
      rw [← ih, ← hB]
      conv => lhs; rw [s_loop_at hB]
      simp [ir_ops_Sourcesl0, go_sem, h, e1, e3, hu.is, -Int.natCast_add]
    · have ih := src_loop u q hu hq (i + 1) (by omega) (l ++ [q[i]]) (by simp; omega) a0 a1 a2 a3 a6 a7 a8 a9 a10 vs
      have ea := app_oneI (m := ⟨vs, [l.length], []⟩) (l := l) (x := q[i]) rfl (by omega)
      simp only [List.set_cons_zero] at ea
      rw [List.length_append, List.length_singleton] at ih
      rw [List.drop_eq_getElem_cons h, List.filter_cons]
      simp only [ne_eq, c, not_false_eq_true, decide_true, if_true]
      rw [List.append_cons]
      simp only [ne_eq] at ih
      rw [← ih, ← hB]
      conv => lhs; rw [s_loop_at hB]
      simp [ir_ops_Sourcesl0, go_sem, h, e1, e3, c, ea, litParts, hu.is, -Int.natCast_add]
  · obtain rfl : i = q.length := by omega
    rw [← hB, s_loop_at hB, List.drop_length, List.filter_nil, List.append_nil]
    simp [ir_ops_Sourcesl0, go_sem, hu.is]
termination_by q.length - i
theorem Sources_ok (x : In) : evI pg .val n_ops_Sources [.agg (inV x)] [] = some (ils (iI (srcs x)), []) := by
  have hS := SortO x.op
  have r1 := register_ok x.rs1
  have r2 := register_ok x.rs2
  have hle := srtO_le x.op
  have e0 : iI [] = [] := rfl
  have L0 := src_loop .nils [] .nils (by simp) 0 (by omega) [] (by simp) .undef .undef .undef .undef .undef .undef .undef .undef .undef [[]]
  have L1 := src_loop (.isl false (iI [rg x.rs1])) [rg x.rs1] (.isl _ _) (by simp) 0 (by omega) [] (by simp) .undef .undef .undef .undef .undef .undef .undef .undef .undef [[]]
  have L2 := src_loop (.isl false (iI [rg x.rs1, rg x.rs2])) [rg x.rs1, rg x.rs2] (.isl _ _) (by simp) 0 (by omega) [] (by simp) .undef .undef .undef .undef .undef .undef .undef .undef .undef [[]]
  simp only [List.drop_zero, List.nil_append, List.length_singleton, List.length_nil, List.length_cons, e0] at L0 L1 L2
  unfold srcs
  have G : ∀ s : Nat, srtO x.op = s → (x.op = 4 → s = 2) → (s = 0 ∨ s = 1 ∨ s = 2 ∨ s = 3 ∨ s = 4 ∨ s = 5 ∨ s = 6 ∨ s = 7 ∨ s = 8 ∨ s = 9 ∨ s = 10 ∨ s = 11 ∨ s = 12) → evI pg .val n_ops_Sources [.agg (inV x)] [] = some (ils (iI ((src0 x).filter fun r => decide (r ≠ 0))), []) := by
    intro s hs h4 hc
    rw [hs] at hS
    have hsr : src0 x = (if rd1 x.op then [rg x.rs1] else []) ++ (if rd2 x.op then [rg x.rs2] else []) := rfl
    unfold rd1 rd2 at hsr
    rw [hs] at hsr
    generalize src0 x = q at *
    rw [s_fn fn_ops_Sources]
    by_cases c4 : x.op = 4
    · obtain rfl := h4 c4
      rw [c4] at hS hsr
      simp at hsr
      subst hsr
      generalize rg x.rs1 = p1 at *
      simp [ir_ops_Sources, go_sem, inV, c4, hS, r1, litParts, iI, V.cells, splice, immAll, V.imm] at L1 ⊢
      simp [L1, go_sem, clean]
    · simp only [c4, decide_false, Bool.false_or] at hsr
      generalize rg x.rs1 = p1 at *
      generalize rg x.rs2 = p2 at *
      rcases hc with rfl | rfl | rfl | rfl | rfl | rfl | rfl | rfl | rfl | rfl | rfl | rfl | rfl <;> simp at hsr <;> subst hsr <;> simp [ir_ops_Sources, go_sem, inV, c4, hS, r1, r2, litParts, iI, V.cells, splice, immAll, V.imm] at L0 L1 L2 ⊢ <;> simp [L0, L1, L2, go_sem, clean]
  exact G _ rfl (fun h => by rw [h]; exact srtO4) (le12 hle)
end Go.Proofs.YtccdkkgimaajbaaDoor
