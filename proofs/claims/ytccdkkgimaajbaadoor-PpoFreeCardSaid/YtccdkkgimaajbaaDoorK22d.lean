/- Layer 22: a view, and the rules without loops (no claim; lemmas). -/
import Derived.Test.YtccdkkgimaajbaaDoorK22c
set_option linter.unusedSimpArgs false
set_option linter.unusedVariables false
namespace Go.Proofs.YtccdkkgimaajbaaDoor
open Go Go.Vm

theorem evC_imm (e : Ev) (m : Mem) (t : Bool) : omap (toImm m t 7) (evC e) = some (evC e) := omap_same fun v hv => by
  unfold evC at hv
  simp only [List.mem_cons, List.mem_append, List.not_mem_nil, or_false] at hv
  rcases hv with rfl | rfl | hv | rfl | rfl | rfl | rfl
  · rfl
  · rfl
  · exact rC_all e.r (fun v => toImm m t 7 v = some v) (fun _ _ => rfl) (fun _ => rfl) (fun _ => rfl) v hv
  · rfl
  · rfl
  · rfl
  · rfl
theorem rC_imm (r : Rt) (m : Mem) (t : Bool) : omap (toImm m t 7) (rC r) = some (rC r) := omap_same fun v hv => rC_all r (fun v => toImm m t 7 v = some v) (fun _ _ => rfl) (fun _ => rfl) (fun _ => rfl) v hv
theorem inV_imm7 (x : In) (m : Mem) (t : Bool) : omap (toImm m t 7) (inV x) = some (inV x) := rfl
attribute [go_sem] evC_imm rC_imm inV_imm7
def evR (E : List Ev) : List (List V) := E.map evC
theorem evR_len (E : List Ev) : (evR E).length = E.length := by simp [evR]
theorem evR_el (E : List Ev) (i : Nat) (h : i < (evR E).length) : (evR E)[i] = evC (E[i]'(by simpa [evR] using h)) := by simp [evR]
theorem evR_sz (E : List Ev) : ∀ e ∈ evR E, e.length = 33 := by
  intro e he
  obtain ⟨w, _, rfl⟩ := List.mem_map.1 he
  rfl
def rwR (l : List Rt) : List (List V) := l.map rC
theorem rwR_len (l : List Rt) : (rwR l).length = l.length := by simp [rwR]
theorem rwR_el (l : List Rt) (i : Nat) (h : i < (rwR l).length) : (rwR l)[i] = rC (l[i]'(by simpa [rwR] using h)) := by simp [rwR]
theorem rwR_sz (l : List Rt) : ∀ e ∈ rwR l, e.length = 27 := by
  intro e he
  obtain ⟨w, _, rfl⟩ := List.mem_map.1 he
  rfl
def vwC (u : V) (lv av dv cv : Nat → V) : List V := [u, lv 0, .ip false [av 0] 0, .ip false [dv 0] 0, .ip false [cv 0] 0, lv 1, .ip false [av 1] 0, .ip false [dv 1] 0, .ip false [cv 1] 0, lv 2, .ip false [av 2] 0, .ip false [dv 2] 0, .ip false [cv 2] 0]
/-- A view: its events, the harts' lists and what hangs in them. -/
structure Vw (u : V) (lv av dv cv : Nat → V) (E : List Ev) (R : Nat → List Rt) (A D C : Nat → Nat → Nat) : Prop where
  ev : Sl u (evR E)
  li : ∀ h, h < 3 → Sl (lv h) (rwR (R h)) ∧ (R h).length ≤ 512
  ad : ∀ h, h < 3 → RelV (av h) (R h).length (A h)
  da : ∀ h, h < 3 → RelV (dv h) (R h).length (D h)
  co : ∀ h, h < 3 → RelV (cv h) (R h).length (C h)
  ok : ∀ e ∈ E, e.hart < 3 ∧ e.at' < (R e.hart).length
  le : E.length ≤ 512
def r1 (x y : Ev) : Bool := y.st && ovE x y
def r3 (x y : Ev) : Bool := (decide (srtO x.r.ins.op = 11) || decide (srtO x.r.ins.op = 12)) && retE y x.r.id
def r8 (x y : Ev) : Bool := decide (srtO y.r.ins.op = 11) && (decide (srtO x.r.ins.op = 10) && decide (y.r.pair = x.r.id))
section
variable {t : Bool} {u : V} {lv av dv cv : Nat → V} {E : List Ev} {R : Nat → List Rt} {A D C : Nat → Nat → Nat} (w : Vw u lv av dv cv E R A D C)
include w
theorem Vw.ia {a : Nat} (ha : a < E.length) (m : Mem) : iaSV 33 m u (.int .i64 (a : Int)) = some (.ip (tg u) (evC E[a]) 0) := by
  have := w.ev.ia (sz := 33) m .i64 (i := a) (by rw [evR_len]; exact ha) (evR_sz _ _ (List.getElem_mem _))
  rwa [evR_el] at this
theorem Vw.fp (L : Nat) : fpR L u = .no := by
  have h := w.ev
  generalize evR E = es at h
  cases h <;> rfl
variable {a b : Nat} (ha : a < E.length) (hb : b < E.length)
include ha hb
theorem vsame_ok : evI pg .val n_ppo_view_same [.ip t (vwC u lv av dv cv) 0, .int .i64 (a : Int), .int .i64 (b : Int)] [] = some (.bool (r1 E[a] E[b]), []) := by
  have e1 := fun m => w.ia ha m
  have e2 := fun m => w.ia hb m
  have hfp := w.fp
  have ho := overlap_ok E[a] E[b]
  unfold r1
  generalize E[a] = x at *
  generalize E[b] = y at *
  rw [s_fn fn_ppo_view_same]
  cases h : y.st <;> simp only [Ev.st] at h <;> simp [ir_ppo_view_same, go_sem, vwC, hfp, e1, e2, ho, h]
theorem written_ok : evI pg .val n_ppo_view_written [.ip t (vwC u lv av dv cv) 0, .int .i64 (a : Int), .int .i64 (b : Int)] [] = some (.bool (r3 E[a] E[b]), []) := by
  have e1 := fun m => w.ia ha m
  have e2 := fun m => w.ia hb m
  have hfp := w.fp
  have ho := returns_ok E[b] (E[a]).r.id
  have hs := SortO (E[a]).r.ins.op
  unfold r3
  generalize E[a] = x at *
  generalize E[b] = y at *
  rw [s_fn fn_ppo_view_written]
  by_cases h : srtO x.r.ins.op = 11
  · rw [h] at hs
    simp [ir_ppo_view_written, go_sem, vwC, hfp, e1, e2, ho, hs, h]
  · have h' : ¬ ((srtO x.r.ins.op : Nat) : Int) = 11 := by omega
    by_cases g : srtO x.r.ins.op = 12
    · rw [g] at hs
      simp [ir_ppo_view_written, go_sem, vwC, hfp, e1, e2, ho, hs, h, g]
    · have g' : ¬ ((srtO x.r.ins.op : Nat) : Int) = 12 := by omega
      simp [ir_ppo_view_written, go_sem, vwC, hfp, e1, e2, ho, hs, h, g, h', g']
omit hb in
theorem rules1_ok : evI pg .val n_ppo_rules_1 [.ip t (vwC u lv av dv cv) 0, .int .i64 (a : Int), .int .i64 (b : Int)] [] = some (.bool (E[a]).r.ins.aq, []) := by
  have e1 := fun m => w.ia ha m
  have hfp := w.fp
  rw [s_fn fn_ppo_rules_1]
  simp [ir_ppo_rules_1, go_sem, vwC, e1]
omit ha in
theorem rules2_ok : evI pg .val n_ppo_rules_2 [.ip t (vwC u lv av dv cv) 0, .int .i64 (a : Int), .int .i64 (b : Int)] [] = some (.bool (E[b]).r.ins.rl, []) := by
  have e1 := fun m => w.ia hb m
  have hfp := w.fp
  rw [s_fn fn_ppo_rules_2]
  simp [ir_ppo_rules_2, go_sem, vwC, e1]
theorem rules3_ok : evI pg .val n_ppo_rules_3 [.ip t (vwC u lv av dv cv) 0, .int .i64 (a : Int), .int .i64 (b : Int)] [] = some (.bool (strE E[a] && strE E[b]), []) := by
  have e1 := fun m => w.ia ha m
  have e2 := fun m => w.ia hb m
  have hfp := w.fp
  have h1 := strong_ok E[a]
  have h2 := strong_ok E[b]
  rw [s_fn fn_ppo_rules_3]
  cases h : strE E[a] <;> rw [h] at h1 <;> simp [ir_ppo_rules_3, go_sem, vwC, hfp, e1, e2, h1, h2]
theorem paired_ok : evI pg .val n_ppo_view_paired [.ip t (vwC u lv av dv cv) 0, .int .i64 (a : Int), .int .i64 (b : Int)] [] = some (.bool (r8 E[a] E[b]), []) := by
  have e1 := fun m => w.ia ha m
  have e2 := fun m => w.ia hb m
  have hfp := w.fp
  have h1 := SortO (E[a]).r.ins.op
  have h2 := SortO (E[b]).r.ins.op
  unfold r8
  generalize E[a] = x at *
  generalize E[b] = y at *
  rw [s_fn fn_ppo_view_paired]
  by_cases h : srtO y.r.ins.op = 11
  · rw [h] at h2
    by_cases g : srtO x.r.ins.op = 10
    · rw [g] at h1
      simp [ir_ppo_view_paired, go_sem, vwC, hfp, e1, e2, h1, h2, h, g, V.cells, V.exp]
    · have g' : ¬ ((srtO x.r.ins.op : Nat) : Int) = 10 := by omega
      simp [ir_ppo_view_paired, go_sem, vwC, hfp, e1, e2, h1, h2, h, g, g', V.cells, V.exp]
  · have h' : ¬ ((srtO y.r.ins.op : Nat) : Int) = 11 := by omega
    simp [ir_ppo_view_paired, go_sem, vwC, hfp, e1, e2, h1, h2, h, h', V.cells, V.exp]
end
end Go.Proofs.YtccdkkgimaajbaaDoor
