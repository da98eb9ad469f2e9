/- Layer 22: what an event returns, what a fence orders (no claim; lemmas). -/
import Derived.Test.YtccdkkgimaajbaaDoorK22b
set_option linter.unusedSimpArgs false
set_option linter.unusedVariables false
namespace Go.Proofs.YtccdkkgimaajbaaDoor
open Go Go.Vm

theorem Index_loop (v : V) (l : List Int) (hv : Sl v (iI l)) (hl : l.length ≤ 1000) (x : Int) (i : Nat) (hi : i ≤ l.length) :
    evCI pg (.loop ir_slices_Index_int_intl0) ⟨[v, .int .i64 x, .undef, .undef, .int .i64 (l.length : Int), .int .i64 (i : Int), .undef, .undef], ⟨[], [], []⟩⟩ =
      some (if (l.drop i).contains x = true then (.ret, ⟨[.undef, .undef, .int .i64 ((i + (l.drop i).idxOf x : Nat) : Int), .undef, .undef, .undef, .undef, .undef], ⟨[], [], []⟩⟩)
        else (.exit 0, ⟨[v, .int .i64 x, .undef, .undef, .int .i64 (l.length : Int), .int .i64 (l.length : Int), .bool false, .undef], ⟨[], [], []⟩⟩)) := by
  obtain ⟨B, hB⟩ : ∃ B, B = C.loop ir_slices_Index_int_intl0 := ⟨_, rfl⟩
  by_cases h : i < l.length
  · have e1 := fun m => hv.ia (sz := 1) m .i64 (i := i) (by rw [iI_len]; exact h) (by simp [iI])
    simp only [iI_el] at e1
    have e3 := succ_i64 h (by omega)
    have ih := Index_loop v l hv hl x (i + 1) (by omega)
    rw [List.drop_eq_getElem_cons h, List.contains_cons, List.idxOf_cons]
    rw [← hB] at ih
    rw [← hB, s_loop_at hB]
    by_cases c : l[i] = x
    · have c1 : (x == l[i]) = true := by simp [c]
      have c2 : (l[i] == x) = true := by simp [c]
      rw [c1, c2]
      simp [ir_slices_Index_int_intl0, go_sem, hv.is, hv.rows, iI_len, h, e1, c]
    · have c0 : ¬ x = l[i] := fun h => c h.symm
      have c1 : (x == l[i]) = false := by simp [c0]
      have c2 : (l[i] == x) = false := by simp [c]
      have c3 : i + ((l.drop (i + 1)).idxOf x + 1) = i + 1 + (l.drop (i + 1)).idxOf x := by omega
      rw [c1, c2, Bool.false_or, cond_false, c3]
      simp [ir_slices_Index_int_intl0, go_sem, hv.is, hv.rows, iI_len, h, e1, e3, c0, ih, -Int.natCast_add]
  · obtain rfl : i = l.length := by omega
    rw [← hB, s_loop_at hB, List.drop_length]
    simp [ir_slices_Index_int_intl0, go_sem, hv.is, hv.rows, iI_len]
termination_by l.length - i
theorem Contains_ok (v : V) (l : List Int) (hv : Sl v (iI l)) (hl : l.length ≤ 1000) (x : Int) : evI pg .val n_slices_Contains_int_int [v, .int .i64 x] [] = some (.bool (l.contains x), []) := by
  have h := Index_loop v l hv hl x 0 (by omega)
  rw [List.drop_zero, Int.natCast_zero, Nat.zero_add] at h
  have key : evI pg .val n_slices_Index_int_int [v, .int .i64 x] [] = some (.int .i64 (if l.contains x = true then (l.idxOf x : Int) else -1), []) := by
    rw [s_fn fn_slices_Index_int_int]
    by_cases c : l.contains x = true
    · rw [if_pos c] at h
      rw [if_pos c]
      simp [ir_slices_Index_int_int, go_sem, hv.is, hv.rows, iI_len, h]
    · rw [if_neg c] at h
      rw [if_neg c]
      simp [ir_slices_Index_int_int, go_sem, hv.is, hv.rows, iI_len, h]
  rw [s_fn fn_slices_Contains_int_int]
  by_cases c : l.contains x = true
  · rw [if_pos c] at key
    rw [c]
    have : (0 : Int) ≤ (l.idxOf x : Int) := by omega
    simp [ir_slices_Contains_int_int, go_sem, hv.is, key, this]
  · rw [if_neg c] at key
    have c' : l.contains x = false := by simpa using c
    rw [c']
    simp [ir_slices_Contains_int_int, go_sem, hv.is, key]
theorem evC_tg (e : Ev) : (evC e).drop 20 = [.int .i64 (e.r.tg 0), .int .i64 (e.r.tg 1), .int .i64 (e.r.tg 2), .int .i64 (e.r.tg 3), .int .i64 (e.r.tg 4), .int .i64 (e.r.tg 5), .int .i64 (e.r.tg 6), .int .i64 (e.r.tg 7), .int .i64 e.r.pair, .bool (lod e.r.ins.op), .bool (sto e.r.ins.op), .int .i64 (adE e.r), .int .i64 (szO e.r.ins.op : Nat)] := rfl
theorem le8 {n : Nat} (h : n ≤ 8) : n = 0 ∨ n = 1 ∨ n = 2 ∨ n = 3 ∨ n = 4 ∨ n = 5 ∨ n = 6 ∨ n = 7 ∨ n = 8 := by omega
theorem returns_ok (e : Ev) (id : Int) : evI pg .val n_ppo_returns [.agg (evC e), .int .i64 id] [] = some (.bool (retE e id), []) := by
  have hC := Contains_ok (.isl true (iI (tgs e))) (tgs e) (.isl _ _) (by unfold tgs; rw [List.length_map, List.length_range]; have := szO_le e.r.ins.op; omega) id
  have ht : tgs e = (List.range (szO e.r.ins.op)).map e.r.tg := rfl
  have hd := evC_tg e
  unfold retE
  cases l : lod e.r.ins.op with
  | false =>
    have hz := evCq_ld e
    rw [l] at hz
    rw [s_fn fn_ppo_returns]
    simp [ir_ppo_returns, go_sem, l, V.cells, V.exp]
  | true =>
    rcases le8 (szO_le e.r.ins.op) with h | h | h | h | h | h | h | h | h <;> rw [h] at ht <;> simp only [List.range_succ, List.range_zero, List.nil_append, List.map_append, List.map_cons, List.map_nil, List.cons_append] at ht <;> rw [ht] at hC ⊢ <;> simp only [iI, List.map_cons, List.map_nil] at hC <;> rw [s_fn fn_ppo_returns] <;> simp [ir_ppo_returns, go_sem, l, h, hd, hC, V.cells, V.exp, slcAV, bnd, asNat, chunk]
/-- Does a fence order one ahead of another? -/
def ordE (f : In) (a b : Ev) : Bool := if f.op = 51 then a.ld || (a.st && b.st)
  else (a.ld && decide (andI .i64 f.pred 2 ≠ 0) || a.st && decide (andI .i64 f.pred 1 ≠ 0)) && (b.ld && decide (andI .i64 f.succ 2 ≠ 0) || b.st && decide (andI .i64 f.succ 1 ≠ 0))
theorem inV_op (x : In) : (inV x)[0]? = some (.int .i64 x.op) := rfl
theorem inV_pred (x : In) : (inV x)[7]? = some (.int .i64 x.pred) := rfl
theorem inV_succ (x : In) : (inV x)[8]? = some (.int .i64 x.succ) := rfl
theorem inV_op' (x : In) (h : 0 < (inV x).length) : (inV x)[0] = .int .i64 x.op := rfl
theorem inV_pred' (x : In) (h : 7 < (inV x).length) : (inV x)[7] = .int .i64 x.pred := rfl
theorem inV_succ' (x : In) (h : 8 < (inV x).length) : (inV x)[8] = .int .i64 x.succ := rfl
theorem pth (l s : Bool) (P : Prop) : (l = true ∧ ¬ P) ∨ (l = true ∧ P ∧ s = true) ∨ (l = true ∧ P ∧ s = false) ∨ (l = false ∧ s = true) ∨ (l = false ∧ s = false) := by
  by_cases h : P <;> cases l <;> cases s <;> simp [h]
set_option maxHeartbeats 1000000 in
theorem orders_ok (f : In) (a b : Ev) : evI pg .val n_ppo_orders [.agg (inV f), .agg (evC a), .agg (evC b)] [] = some (.bool (ordE f a b), []) := by
  rw [s_fn fn_ppo_orders]
  unfold ordE
  by_cases c : f.op = 51
  · rw [if_pos c]
    cases h1 : a.ld <;> cases h2 : a.st <;> simp only [Ev.ld, Ev.st] at h1 h2 <;> simp [ir_ppo_orders, go_sem, inV_len, inV_op, inV_pred, inV_succ, inV_op', inV_pred', inV_succ', c, h1, h2, V.cells, V.exp]
  · rw [if_neg c]
    rcases pth a.ld a.st (andI .i64 f.pred 2 = 0) with ⟨h1, h2⟩ | ⟨h1, h2, h3⟩ | ⟨h1, h2, h3⟩ | ⟨h1, h2⟩ | ⟨h1, h2⟩ <;> rcases pth b.ld b.st (andI .i64 f.succ 2 = 0) with ⟨g1, g2⟩ | ⟨g1, g2, g3⟩ | ⟨g1, g2, g3⟩ | ⟨g1, g2⟩ | ⟨g1, g2⟩ <;> simp only [Ev.ld, Ev.st] at * <;> by_cases p1 : andI .i64 f.pred 1 = 0 <;> simp [ir_ppo_orders, go_sem, inV_len, inV_op, inV_pred, inV_succ, inV_op', inV_pred', inV_succ', *, V.cells, V.exp]
end Go.Proofs.YtccdkkgimaajbaaDoor
