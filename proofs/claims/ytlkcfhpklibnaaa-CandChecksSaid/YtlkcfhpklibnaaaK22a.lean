/- Layer 22: what retired, events (no claim; lemmas). -/
import Derived.Test.YtlkcfhpklibnaaaK21b
set_option linter.unusedSimpArgs false
set_option linter.unusedVariables false
namespace Go.Proofs.Ytlkcfhpklibnaaa
open Go Go.Vm

structure Rt where
  (ins : In) (pc cause val addr rdd wro id pair : Int) (fail : Bool) (fl : Nat) (tg : Nat → Int)
def rC (r : Rt) : List V := [.int .u64 r.pc, .int .i64 r.ins.op, .int .i64 r.ins.rd, .int .i64 r.ins.rs1, .int .i64 r.ins.rs2, .int .i64 r.ins.imm, .bool r.ins.aq, .bool r.ins.rl, .int .i64 r.ins.pred, .int .i64 r.ins.succ, .int .i64 r.cause, .int .u64 r.val, .int .u64 r.addr, .int .u64 r.rdd, .int .u64 r.wro, .bool r.fail, .int .i64 r.id, .flt r.fl,
  .int .i64 (r.tg 0), .int .i64 (r.tg 1), .int .i64 (r.tg 2), .int .i64 (r.tg 3), .int .i64 (r.tg 4), .int .i64 (r.tg 5), .int .i64 (r.tg 6), .int .i64 (r.tg 7), .int .i64 r.pair]
theorem rC_len (r : Rt) : (rC r).length = 27 := rfl
theorem rC_op (r : Rt) (h : 1 < (rC r).length) : (rC r)[1] = .int .i64 r.ins.op := rfl
theorem rCq_op (r : Rt) : (rC r)[1]? = some (.int .i64 r.ins.op) := rfl
theorem rC_aq (r : Rt) (h : 6 < (rC r).length) : (rC r)[6] = .bool r.ins.aq := rfl
theorem rCq_aq (r : Rt) : (rC r)[6]? = some (.bool r.ins.aq) := rfl
theorem rC_rl (r : Rt) (h : 7 < (rC r).length) : (rC r)[7] = .bool r.ins.rl := rfl
theorem rCq_rl (r : Rt) : (rC r)[7]? = some (.bool r.ins.rl) := rfl
theorem rC_cause (r : Rt) (h : 10 < (rC r).length) : (rC r)[10] = .int .i64 r.cause := rfl
theorem rCq_cause (r : Rt) : (rC r)[10]? = some (.int .i64 r.cause) := rfl
theorem rC_addr (r : Rt) (h : 12 < (rC r).length) : (rC r)[12] = .int .u64 r.addr := rfl
theorem rCq_addr (r : Rt) : (rC r)[12]? = some (.int .u64 r.addr) := rfl
theorem rC_fail (r : Rt) (h : 15 < (rC r).length) : (rC r)[15] = .bool r.fail := rfl
theorem rCq_fail (r : Rt) : (rC r)[15]? = some (.bool r.fail) := rfl
theorem rC_id (r : Rt) (h : 16 < (rC r).length) : (rC r)[16] = .int .i64 r.id := rfl
theorem rCq_id (r : Rt) : (rC r)[16]? = some (.int .i64 r.id) := rfl
theorem rC_pair (r : Rt) (h : 26 < (rC r).length) : (rC r)[26] = .int .i64 r.pair := rfl
theorem rCq_pair (r : Rt) : (rC r)[26]? = some (.int .i64 r.pair) := rfl
theorem rC_in (r : Rt) : ((rC r).drop 1).take 9 = inV r.ins := rfl
theorem rC_take (r : Rt) : (rC r).take 27 = rC r := rfl
attribute [go_sem] rC_len rC_op rC_aq rC_rl rC_cause rC_addr rC_fail rC_id rC_pair rCq_op rCq_aq rCq_rl rCq_cause rCq_addr rCq_fail rCq_id rCq_pair
theorem rC_all (r : Rt) (P : V → Prop) (hi : ∀ k n, P (.int k n)) (hb : ∀ b, P (.bool b)) (hf : ∀ n, P (.flt n)) : ∀ v ∈ rC r, P v := by
  intro v hv
  simp only [rC, List.mem_cons, List.not_mem_nil, or_false] at hv
  rcases hv with rfl | rfl | rfl | rfl | rfl | rfl | rfl | rfl | rfl | rfl | rfl | rfl | rfl | rfl | rfl | rfl | rfl | rfl | rfl | rfl | rfl | rfl | rfl | rfl | rfl | rfl | rfl <;> first | exact hi _ _ | exact hb _ | exact hf _
def szO (op : Int) : Nat := if op < 1 ∨ 75 < op then 0 else sz op.toNat
theorem szO_le (op : Int) : szO op ≤ 8 := by
  unfold szO
  split
  · omega
  · have : ∀ k : Fin 76, sz k.1 ≤ 8 := by decide
    exact this ⟨op.toNat, by omega⟩
theorem SizeO (op : Int) : evI pg .val n_ops_Size [.int .i64 op] [] = some (.int .i64 (szO op : Nat), []) := by
  rcases op_cases (op := op) with h | ⟨k, rfl, h1, h2⟩
  · have e : szO op = 0 := by unfold noOp at h; unfold szO; rw [if_pos h]
    rw [e]; exact Size_out h
  · have e : szO (k : Int) = sz k := by unfold szO; rw [if_neg (by omega)]; simp
    rw [e]; exact Size_tab k h2
def lod (op : Int) : Bool := let s := srtO op; s == 4 || s == 10 || s == 12
theorem Loads_ok (op : Int) : evI pg .val n_ops_Loads [.int .i64 op] [] = some (.bool (lod op), []) := by
  have hS := SortO op
  have G : ∀ s : Nat, srtO op = s → (s = 0 ∨ s = 1 ∨ s = 2 ∨ s = 3 ∨ s = 4 ∨ s = 5 ∨ s = 6 ∨ s = 7 ∨ s = 8 ∨ s = 9 ∨ s = 10 ∨ s = 11 ∨ s = 12) → evI pg .val n_ops_Loads [.int .i64 op] [] = some (.bool (lod op), []) := by
    intro s hs hc
    rw [hs] at hS
    unfold lod
    rw [hs]
    rw [s_fn fn_ops_Loads]
    rcases hc with rfl | rfl | rfl | rfl | rfl | rfl | rfl | rfl | rfl | rfl | rfl | rfl | rfl <;> simp [ir_ops_Loads, go_sem, hS]
  exact G _ rfl (le12 (srtO_le _))
/-- Is it a load or a store that came to pass? -/
def isE (r : Rt) : Bool := decide (r.cause = 0) && memO r.ins.op && (decide (srtO r.ins.op ≠ 11) || !r.fail)
theorem isEvent_ok (r : Rt) : evI pg .val n_cand_isEvent [.agg (rC r)] [] = some (.bool (isE r), []) := by
  have hM := Memory_ok r.ins.op
  have hS := SortO r.ins.op
  unfold isE
  rw [s_fn fn_cand_isEvent]
  by_cases c : r.cause = 0
  · cases m : memO r.ins.op with
    | true =>
      rw [m] at hM
      by_cases s : srtO r.ins.op = 11
      · rw [s] at hS
        simp [ir_cand_isEvent, go_sem, hM, hS, c, s, V.cells, V.exp, loadAt]
      · have s' : ¬ ((srtO r.ins.op : Nat) : Int) = 11 := by omega
        simp [ir_cand_isEvent, go_sem, hM, hS, c, s, s', V.cells, V.exp, loadAt]
    | false =>
      rw [m] at hM
      simp [ir_cand_isEvent, go_sem, hM, hS, c, V.cells, V.exp, loadAt]
  · simp [ir_cand_isEvent, go_sem, hM, hS, c, V.cells, V.exp, loadAt]
end Go.Proofs.Ytlkcfhpklibnaaa
