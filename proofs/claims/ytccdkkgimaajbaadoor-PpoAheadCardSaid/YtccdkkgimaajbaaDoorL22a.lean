/- All pairs are of one hart, the first ahead of the second: the law PpoAhead returns true whatever it is handed. No condition. -/
import Derived.Test.YtccdkkgimaajbaaDoorK22r
import Derived.Test.YtccdkkgimaajbaaDoorRows
set_option linter.unusedSimpArgs false
set_option linter.unusedVariables false
set_option maxRecDepth 20000
namespace Go.Proofs.YtccdkkgimaajbaaDoor
open Go Go.Vm

theorem prs_mem {n : Nat} {W : Nat → Nat} {q : Int × Int} (h : q ∈ prs n W 0) : ∃ a b : Nat, q = ((a : Int), (b : Int)) ∧ a < n ∧ b < n ∧ (W a).testBit b = true := by
  unfold prs at h
  rw [List.mem_flatMap] at h
  obtain ⟨a, ha, h⟩ := h
  rw [List.mem_range'] at ha
  obtain ⟨i, hi, rfl⟩ := ha
  rw [List.mem_map] at h
  obtain ⟨b, hb, rfl⟩ := h
  unfold rt at hb
  rw [List.mem_map] at hb
  obtain ⟨b', hb', rfl⟩ := hb
  rw [mem_sb] at hb'
  exact ⟨_, b', rfl, by omega, hb'.1, hb'.2⟩
theorem prs_len (n : Nat) (hn : n ≤ 512) (W : Nat → Nat) : (prs n W 0).length ≤ 1000000 := by
  have : ∀ k, (((List.range' 0 k).flatMap fun a => (rt n (W a)).map fun b => ((a : Int), b))).length ≤ 512 * k := by
    intro k
    induction k with
    | zero => simp
    | succ k ih =>
      rw [List.range'_concat, List.flatMap_append, List.length_append]
      have := rt_len n (W (0 + 1 * k))
      simp only [List.flatMap_cons, List.flatMap_nil, List.append_nil, List.length_map]
      omega
  have h := this n
  unfold prs
  rw [Nat.sub_zero]
  omega
section
variable {u : V} {E : List Ev} (hu : Sl u (evR E))
include hu
theorem Ahead_l0 {rv : V} {pv : V} {P : List (Int × Int)} (hp : Sl pv (pR P)) (hpl : P.length ≤ 1000000) (hP : ∀ q ∈ P, ∃ (a b : Nat), q = ((a : Int), (b : Int)) ∧ ∃ x y : Ev, E[a]? = some x ∧ E[b]? = some y ∧ x.hart = y.hart ∧ x.at' < y.at') (i : Nat) (hi : i ≤ P.length) :
    evCI pg (.loop ir_undertowlaw22_PpoAheadl0) ⟨[.undef, .undef, .undef, u, .ip false [rv] 0, pv, .int .i64 (i : Int), .undef, .undef, .undef, .undef, .undef, .undef], ⟨[[], [], []], [], []⟩⟩ =
      some (.exit 0, ⟨[.undef, .undef, .undef, u, .ip false [rv] 0, pv, .int .i64 (P.length : Int), .undef, .undef, .undef, .undef, .bool false, .undef], ⟨[[], [], []], [], []⟩⟩) := by
  obtain ⟨B, hB⟩ : ∃ B, B = C.loop ir_undertowlaw22_PpoAheadl0 := ⟨_, rfl⟩
  by_cases h : i < P.length
  · have e1 := fun m => hp.ia (sz := 2) m .i64 (i := i) (by rw [pR_len]; exact h) (by rw [pR_el]; rfl)
    simp only [pR_el] at e1
    obtain ⟨a, b, hq, x, y, hx, hy, hh, hlt⟩ := hP P[i] (List.getElem_mem h)
    simp only [hq] at e1
    obtain ⟨ha, hxa⟩ := List.getElem?_eq_some_iff.1 hx
    obtain ⟨hb, hyb⟩ := List.getElem?_eq_some_iff.1 hy
    have e2 := fun m => hu.ia (sz := 33) m .i64 (i := a) (by rw [evR_len]; exact ha) (evR_sz _ _ (List.getElem_mem _))
    have e4 := fun m => hu.ia (sz := 33) m .i64 (i := b) (by rw [evR_len]; exact hb) (evR_sz _ _ (List.getElem_mem _))
    simp only [evR_el, hxa] at e2
    simp only [evR_el, hyb] at e4
    have e3 := succ_i64 h (by omega)
    have ih := Ahead_l0 (rv := rv) hp hpl hP (i + 1) (by omega)
    have n1 : ¬ (y.at' : Int) ≤ (x.at' : Int) := by omega
    have n2 : ¬ y.at' ≤ x.at' := by omega
    have hfp := hu.fpR
    have hfp2 := hp.fpR
    rw [← ih, ← hB]
    conv => lhs; rw [s_loop_at hB]
    simp [ir_undertowlaw22_PpoAheadl0, go_sem, h, e1, e2, e3, e4, hh, n1, n2, hp.is, hp.rows, hu.is, hfp, hfp2, pR_len, evStore, splice, V.cells, V.exp, -Int.natCast_add]
  · obtain rfl : i = P.length := by omega
    rw [← hB, s_loop_at hB]
    simp [ir_undertowlaw22_PpoAheadl0, go_sem, hp.is, hp.rows, pR_len, hu.is]
termination_by P.length - i
end
theorem PpoAhead_true {v x0 : V} {lv : Nat → V} {x4 : V} {R : Nat → List Rt} {co : List V} (c : Cn v x0 lv x4 R co) : evI pg .val n_undertowlaw22_PpoAhead [v] [] = some (.bool true, []) := by
  obtain ⟨g, hg, hg2⟩ := Great_ok c
  have i0 := c.i0
  have i4 := c.co4.is
  have j0 := (c.li 0 (by omega)).1.is
  have j1 := (c.li 1 (by omega)).1.is
  have j2 := (c.li 2 (by omega)).1.is
  rw [c.eq] at hg ⊢
  cases g with
  | true =>
    rw [s_fn fn_undertowlaw22_PpoAhead]
    simp [ir_undertowlaw22_PpoAhead, go_sem, alive22, hg, i0, i4, j0, j1, j2]
  | false =>
    have h60 := hg2 rfl
    have hc : Cd lv R := ⟨fun h hh => ⟨(c.li h hh).1, by have := h60 h hh; omega, (c.li h hh).2.1⟩⟩
    obtain ⟨av, dv, cv, hl, w⟩ := view_ok hc i0 i4 (by have := h60 0 (by omega); have := h60 1 (by omega); have := h60 2 (by omega); omega)
    obtain ⟨rv, W, a1, a2, a3⟩ := All_ok w (evs_sorted R) hl ⟨i0, j0, j1, j2, i4⟩
    have hE := Events_ok hc i0 i4
    have hP := Pairs_ok (t := false) a2
    have hL := Len_ok (t := false) a2
    have hu := Sl.ils (evR (evs R))
    have hloop := Ahead_l0 (rv := rv) hu (.ils (pR (prs (evs R).length W 0))) (prs_len _ w.le W) (fun q hq => by
      obtain ⟨a, b, rfl, ha, hb, ht⟩ := prs_mem hq
      rw [a3 a b ha hb] at ht
      unfold pr at ht
      simp only [Bool.and_eq_true, decide_eq_true_eq] at ht
      obtain ⟨t1, t2, _⟩ := ht
      refine ⟨a, b, rfl, (evs R)[a], (evs R)[b], List.getElem?_eq_getElem ha, List.getElem?_eq_getElem hb, ?_, srt2_at (evs_sorted R) t1 hb t2⟩
      rw [hrt_el ha, hrt_el hb] at t2
      exact t2) 0 (by omega)
    rw [Int.natCast_zero] at hloop
    have hur : (rows (ils (evR (evs R)))).length = (evs R).length := by rw [hu.rows, evR_len]
    have hui := hu.is
    have hpi := (Sl.ils (pR (prs (evs R).length W 0))).is
    generalize ils (pR (prs (evs R).length W 0)) = pv at *
    generalize ils (evR (evs R)) = u at *
    rw [s_fn fn_undertowlaw22_PpoAhead]
    simp [ir_undertowlaw22_PpoAhead, go_sem, alive22, hg, i0, i4, j0, j1, j2, hE, a1, hP, hL, hloop, hur, hui, hpi]
theorem law_ahead : ∀ vs, PArgs Tryd.prog 8 Tryd.f3.params.toList vs → ∃ k, evF pg k .val 3 vs [] = some (.bool true, []) := by
  intro vs h
  obtain ⟨v1, _, rfl, h1, rfl⟩ := h
  obtain ⟨x0, lv, x4, R, co, c⟩ := arg_cd h1
  exact (evI_iff (hx _ _ _)).1 (PpoAhead_true c)
end Go.Proofs.YtccdkkgimaajbaaDoor
