/- Layer 22: fences (no claim; lemmas). -/
import Derived.Test.YtccdkkgimaajbaaDoorK22f
set_option linter.unusedSimpArgs false
set_option linter.unusedVariables false
namespace Go.Proofs.YtccdkkgimaajbaaDoor
open Go Go.Vm

theorem rC_in' (r : Rt) : List.take 9 (rC r).tail = inV r.ins := rfl
attribute [go_sem] rC_in'
def fnc (x y : Ev) (f : Rt) : Bool := decide (srtO f.ins.op = 8) && (decide (f.cause = 0) && ordE f.ins x y)
def r4 (R : Nat → List Rt) (x y : Ev) : Bool := (((R x.hart).take y.at').drop (x.at' + 1)).any (fnc x y)
theorem fenced_loop {fv : V} {F : List Rt} (hv : Sl fv (rwR F)) (hF : F.length ≤ 512) (x y : Ev) (i : Nat) (hi : i ≤ F.length) :
    evCI pg (.loop ir_ppo_view_fencedl0) ⟨[.undef, .undef, .undef, .undef, .lp 0 0, .lp 1 0, .undef, fv, .int .i64 (F.length : Int), .int .i64 (i : Int), .undef, .undef], ⟨[evC x, evC y, []], [], []⟩⟩ =
      some (if (F.drop i).any (fnc x y) = true then (.ret, ⟨[.undef, .undef, .undef, .bool true, .undef, .undef, .undef, .undef, .undef, .undef, .undef, .undef], ⟨[[], [], []], [], []⟩⟩)
        else (.exit 0, ⟨[.undef, .undef, .undef, .undef, .lp 0 0, .lp 1 0, .undef, fv, .int .i64 (F.length : Int), .int .i64 (F.length : Int), .bool false, .undef], ⟨[evC x, evC y, []], [], []⟩⟩)) := by
  obtain ⟨B, hB⟩ : ∃ B, B = Vm.C.loop ir_ppo_view_fencedl0 := ⟨_, rfl⟩
  by_cases c : i < F.length
  · have e3 := succ_i64 c (by omega)
    have e1 := fun m => hv.ia (sz := 27) m .i64 (i := i) (by rw [rwR_len]; exact c) (rwR_sz _ _ (List.getElem_mem _))
    simp only [rwR_el] at e1
    have hs := SortO (F[i]).ins.op
    have ho := orders_ok (F[i]).ins x y
    have ih := fenced_loop hv hF x y (i + 1) (by omega)
    rw [List.drop_eq_getElem_cons c, List.any_cons]
    rw [← hB] at ih
    rw [← hB, s_loop_at hB]
    generalize F[i] = f at *
    have hf : fnc x y f = (decide (srtO f.ins.op = 8) && (decide (f.cause = 0) && ordE f.ins x y)) := rfl
    rw [hf]
    by_cases c1 : srtO f.ins.op = 8
    · rw [c1] at hs
      by_cases c2 : f.cause = 0
      · cases c3 : ordE f.ins x y with
        | true =>
          rw [c3] at ho
          simp [ir_ppo_view_fencedl0, go_sem, hv.is, c, e1, e3, hs, ho, c1, c2, evStore, splice, V.cells, V.exp]
        | false =>
          rw [c3] at ho
          rw [decide_eq_true c1, decide_eq_true c2, Bool.and_false, Bool.and_false, Bool.false_or, ← ih]
          simp [ir_ppo_view_fencedl0, go_sem, hv.is, c, e1, e3, hs, ho, c1, c2, evStore, splice, V.cells, V.exp, -Int.natCast_add]
      · rw [decide_eq_false c2, Bool.false_and, Bool.and_false, Bool.false_or, ← ih]
        simp [ir_ppo_view_fencedl0, go_sem, hv.is, c, e1, e3, hs, c1, c2, evStore, splice, V.cells, V.exp, -Int.natCast_add]
    · have c1' : ¬ ((srtO f.ins.op : Nat) : Int) = 8 := by omega
      rw [decide_eq_false c1, Bool.false_and, Bool.false_or, ← ih]
      simp [ir_ppo_view_fencedl0, go_sem, hv.is, c, e1, e3, hs, c1, c1', evStore, splice, V.cells, V.exp, -Int.natCast_add]
  · obtain rfl : i = F.length := by omega
    rw [← hB, s_loop_at hB, List.drop_length]
    simp [ir_ppo_view_fencedl0, go_sem, hv.is]
termination_by F.length - i
section
variable {t : Bool} {u : V} {lv av dv cv : Nat → V} {E : List Ev} {R : Nat → List Rt} {A D C : Nat → Nat → Nat} (w : Vw u lv av dv cv E R A D C)
include w
variable {a b : Nat} (hab : a < b) (hb : b < E.length)
include hab hb
theorem fenced_ok (hh : (E[a]).hart = (E[b]).hart) (hlt : (E[a]).at' < (E[b]).at') : evI pg .val n_ppo_view_fenced [.ip t (vwC u lv av dv cv) 0, .int .i64 (a : Int), .int .i64 (b : Int)] [] = some (.bool (r4 R E[a] E[b]), []) := by
  have ha : a < E.length := by omega
  have e1 := fun m => w.ia ha m
  have e2 := fun m => w.ia hb m
  have hfp := w.fp
  obtain ⟨k1, k2⟩ := w.ok E[a] (List.getElem_mem _)
  obtain ⟨k3, k4⟩ := w.ok E[b] (List.getElem_mem _)
  obtain ⟨k6, k5⟩ := w.li (E[a]).hart k1
  rw [← hh] at k4
  have ew : IntKind.i64.wrap (((E[a]).at' : Int) + 1) = (((E[a]).at' + 1 : Nat) : Int) := by rw [i64_small (by omega)]; rfl
  obtain ⟨fv, h1, h2⟩ := k6.slc (sz := 27) ⟨[evC E[a], evC E[b], []], [], []⟩ (some (.int .i64 (((E[a]).at' + 1 : Nat) : Int))) (some (.int .i64 ((E[b]).at' : Int))) (l := (E[a]).at' + 1) (k := (E[b]).at') (by decide) (rwR_sz _) (by
    rw [rwR_len]
    simp only [bnd, asNat]
    rw [if_pos (by omega)]
    simp only [Int.toNat_natCast]
    rw [if_pos (by omega)])
  have e : ((rwR (R (E[a]).hart)).take (E[b]).at').drop ((E[a]).at' + 1) = rwR (((R (E[a]).hart).take (E[b]).at').drop ((E[a]).at' + 1)) := by simp [rwR, List.map_take, List.map_drop]
  rw [e] at h2
  have hFl : (((R (E[a]).hart).take (E[b]).at').drop ((E[a]).at' + 1)).length ≤ 512 := by simp; omega
  have hl := fenced_loop h2 hFl E[a] E[b] 0 (by omega)
  rw [List.drop_zero, Int.natCast_zero] at hl
  unfold r4
  have hrl : (rows fv).length = (((R (E[a]).hart).take (E[b]).at').drop ((E[a]).at' + 1)).length := by rw [h2.rows, rwR_len]
  have hfi := h2.is
  clear e k2 k4
  generalize ((R (E[a]).hart).take (E[b]).at').drop ((E[a]).at' + 1) = F at *
  generalize E[a] = x at *
  generalize E[b] = y at *
  have hq := evCq_hart x
  rw [s_fn fn_ppo_view_fenced]
  by_cases q : F.any (fnc x y) = true
  · rw [if_pos q] at hl
    rw [q]
    rcases lt3 k1 with h | h | h <;> rw [h] at hq h1 k6 <;> simp [ir_ppo_view_fenced, go_sem, vwC, hfp, e1, e2, hq, h, ew, h1, hfi, hrl, hl, k6.is, k6.fpR, evStore, splice, V.cells, V.exp, -Int.natCast_add]
  · rw [if_neg q] at hl
    rw [Bool.eq_false_iff.2 q]
    rcases lt3 k1 with h | h | h <;> rw [h] at hq h1 k6 <;> simp [ir_ppo_view_fenced, go_sem, vwC, hfp, e1, e2, hq, h, ew, h1, hfi, hrl, hl, k6.is, k6.fpR, evStore, splice, V.cells, V.exp, -Int.natCast_add]
end
end Go.Proofs.YtccdkkgimaajbaaDoor
