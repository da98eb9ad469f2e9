/- Layer 22: what is handed; is it great (no claim; lemmas). -/
import Derived.Test.YtccdkkgimaajbaaDoorK22p
set_option linter.unusedSimpArgs false
set_option linter.unusedVariables false
set_option maxRecDepth 20000
namespace Go.Proofs.YtccdkkgimaajbaaDoor
open Go Go.Vm

theorem alive22 : evI pg .val n_undertowlaw22_alive [] [] = some (.bool true, []) := closed irL_ok 400 (by kernel_rfl)
theorem pv_in {n : Nat} {vs : List V} (h : PV Tryd.prog (n + 2) 38 vs) : ∃ x : In, vs = inV x := by
  obtain ⟨_, _, rfl, h1, _, _, rfl, h2, _, _, rfl, h3, _, _, rfl, h4, _, _, rfl, h5, _, _, rfl, h6, _, _, rfl, h7, _, _, rfl, h8, _, _, rfl, h9, rfl⟩ := pv_struct Tryd.underlying38 h
  obtain ⟨a1, rfl, hb⟩ := pv_i64 Tryd.underlying3 h1
  obtain ⟨a2, rfl, _⟩ := pv_i64 Tryd.underlying3 h2
  obtain ⟨a3, rfl, _⟩ := pv_i64 Tryd.underlying3 h3
  obtain ⟨a4, rfl, _⟩ := pv_i64 Tryd.underlying3 h4
  obtain ⟨a5, rfl, _⟩ := pv_i64 Tryd.underlying2 h5
  obtain ⟨a6, rfl⟩ := pv_bool Tryd.underlying4 h6
  obtain ⟨a7, rfl⟩ := pv_bool Tryd.underlying4 h7
  obtain ⟨a8, rfl, _⟩ := pv_i64 Tryd.underlying3 h8
  obtain ⟨a9, rfl, _⟩ := pv_i64 Tryd.underlying3 h9
  exact ⟨⟨a1, a2, a3, a4, a5, a8, a9, a6, a7⟩, rfl⟩
theorem pv_rt {n : Nat} {vs : List V} (h : PV Tryd.prog (n + 4) 44 vs) : ∃ r : Rt, vs = rC r ∧ 0 ≤ r.addr := by
  obtain ⟨d, _, rfl, h1, _, _, rfl, h2, _, _, rfl, h3, _, _, rfl, h4, _, _, rfl, h5, rfl⟩ := pv_struct Tryd.underlying44 h
  obtain ⟨_, _, rfl, d1, _, _, rfl, d2, _, _, rfl, d3, _, _, rfl, d4, _, _, rfl, d5, _, _, rfl, d6, _, _, rfl, d7, _, _, rfl, d8, rfl⟩ := pv_struct Tryd.underlying40 h1
  have h4' : PVs (PV Tryd.prog (n + 2)) [3, 3, 3, 3, 3, 3, 3, 3] _ := pv_array Tryd.underlying42 h4
  obtain ⟨_, _, rfl, t1, _, _, rfl, t2, _, _, rfl, t3, _, _, rfl, t4, _, _, rfl, t5, _, _, rfl, t6, _, _, rfl, t7, _, _, rfl, t8, rfl⟩ := h4'
  obtain ⟨a1, rfl, _⟩ := pv_u64 Tryd.underlying36 d1
  obtain ⟨x, rfl⟩ := pv_in d2
  obtain ⟨a3, rfl, _⟩ := pv_i64 Tryd.underlying3 d3
  obtain ⟨a4, rfl, _⟩ := pv_u64 Tryd.underlying36 d4
  obtain ⟨a5, rfl, _⟩ := pv_u64 Tryd.underlying36 d5
  obtain ⟨a6, rfl, _⟩ := pv_u64 Tryd.underlying36 d6
  obtain ⟨a7, rfl, _⟩ := pv_u64 Tryd.underlying36 d7
  obtain ⟨a8, rfl⟩ := pv_bool Tryd.underlying4 d8
  obtain ⟨b1, rfl, _⟩ := pv_i64 Tryd.underlying3 h2
  obtain ⟨b2, rfl, _⟩ := pv_flt Tryd.underlying41 h3
  obtain ⟨b3, rfl, _⟩ := pv_i64 Tryd.underlying3 h5
  obtain ⟨g0, rfl, _⟩ := pv_i64 Tryd.underlying3 t1
  obtain ⟨g1, rfl, _⟩ := pv_i64 Tryd.underlying3 t2
  obtain ⟨g2, rfl, _⟩ := pv_i64 Tryd.underlying3 t3
  obtain ⟨g3, rfl, _⟩ := pv_i64 Tryd.underlying3 t4
  obtain ⟨g4, rfl, _⟩ := pv_i64 Tryd.underlying3 t5
  obtain ⟨g5, rfl, _⟩ := pv_i64 Tryd.underlying3 t6
  obtain ⟨g6, rfl, _⟩ := pv_i64 Tryd.underlying3 t7
  obtain ⟨g7, rfl, _⟩ := pv_i64 Tryd.underlying3 t8
  exact ⟨⟨x, a1, a3, a4, a5, a6, a7, b1, b3, a8, b2, fun k => [g0, g1, g2, g3, g4, g5, g6, g7].getD k 0⟩, rfl, Int.natCast_nonneg _⟩
theorem pv_rts {n : Nat} : ∀ es : List (List V), (∀ q ∈ es, PV Tryd.prog (n + 4) 44 q) → ∃ l : List Rt, es = rwR l ∧ okL l
  | [], _ => ⟨[], rfl, by simp [okL]⟩
  | q :: es, h => by
    obtain ⟨w, rfl, hw⟩ := pv_rt (h q (by simp))
    obtain ⟨l, rfl, hl⟩ := pv_rts es fun q hq => h q (by simp [hq])
    refine ⟨w :: l, rfl, fun x hx => ?_⟩
    rcases List.mem_cons.1 hx with rfl | hx
    · exact hw
    · exact hl x hx
theorem pv_list {n : Nat} {vs : List V} (h : PV Tryd.prog (n + 5) 23 vs) : ∃ (v : V) (l : List Rt), vs = [v] ∧ Sl v (rwR l) ∧ okL l ∧ l.length ≤ maxLen := by
  rcases pv_slice Tryd.underlying23 h with rfl | ⟨es, rfl, hl, hes⟩
  · exact ⟨_, [], rfl, .nils, by simp [okL], by simp [maxLen]⟩
  · obtain ⟨l, rfl, hok⟩ := pv_rts es hes
    exact ⟨_, l, rfl, .isl _ _, hok, by rwa [rwR_len] at hl⟩
/-- Slices of slices. -/
def slR (q : List V) : List (List V) := q.map fun v => [v]
theorem slR_len (q : List V) : (slR q).length = q.length := by simp [slR]
theorem slR_el (q : List V) (i : Nat) (h : i < (slR q).length) : (slR q)[i] = [q[i]'(by simpa [slR] using h)] := by simp [slR]
theorem slR_sz (q : List V) : ∀ e ∈ slR q, e.length = 1 := by
  intro e he
  obtain ⟨w, _, rfl⟩ := List.mem_map.1 he
  rfl
theorem pv_cos {n : Nat} : ∀ es : List (List V), (∀ q ∈ es, PV Tryd.prog (n + 2) 56 q) → ∃ q : List V, es = slR q ∧ ∀ v ∈ q, isS v = true
  | [], _ => ⟨[], rfl, by simp⟩
  | q :: es, h => by
    obtain ⟨l, rfl, hl⟩ := pv_cos es fun q hq => h q (by simp [hq])
    have key : ∀ v, isS v = true → q = [v] → ∃ l', (q :: slR l) = slR l' ∧ ∀ v ∈ l', isS v = true := by
      rintro v hv rfl
      refine ⟨v :: l, rfl, fun x hx => ?_⟩
      rcases List.mem_cons.1 hx with rfl | hx
      · exact hv
      · exact hl x hx
    rcases pv_slice Tryd.underlying56 (h q (by simp)) with e | ⟨es, e, _, _⟩
    · exact key _ rfl e
    · exact key _ rfl e
/-- A candidate. -/
structure Cn (v : V) (x0 : V) (lv : Nat → V) (x4 : V) (R : Nat → List Rt) (co : List V) : Prop where
  eq : v = .agg [x0, lv 0, lv 1, lv 2, x4]
  i0 : isS x0 = true
  li : ∀ h, h < 3 → Sl (lv h) (rwR (R h)) ∧ okL (R h) ∧ (R h).length ≤ maxLen
  co4 : Sl x4 (slR co)
  cs : ∀ v ∈ co, isS v = true
  cl : co.length ≤ maxLen
theorem arg_cd {v : V} (h : ArgPV Tryd.prog 8 27 v) : ∃ x0 lv x4 R co, Cn v x0 lv x4 R co := by
  obtain ⟨vs, hvs, hp⟩ := arg_struct Tryd.underlying27 h
  clear h
  subst hvs
  obtain ⟨a, _, rfl, h1, b, _, rfl, h2, c, _, rfl, h3, rfl⟩ := hp
  have h2' : PVs (PV Tryd.prog 6) [23, 23, 23] b := pv_array Tryd.underlying24 h2
  obtain ⟨_, _, rfl, l0, _, _, rfl, l1, _, _, rfl, l2, rfl⟩ := h2'
  obtain ⟨v0, r0, rfl, s0, o0, m0⟩ := pv_list (n := 1) l0
  obtain ⟨v1, r1, rfl, s1, o1, m1⟩ := pv_list (n := 1) l1
  obtain ⟨v2, r2, rfl, s2, o2, m2⟩ := pv_list (n := 1) l2
  have hx0 : ∃ x0, a = [x0] ∧ isS x0 = true := by
    rcases pv_slice Tryd.underlying22 h1 with rfl | ⟨es, rfl, _, _⟩
    · exact ⟨_, rfl, rfl⟩
    · exact ⟨_, rfl, rfl⟩
  obtain ⟨x0, rfl, i0⟩ := hx0
  have hx4 : ∃ x4 co, c = [x4] ∧ Sl x4 (slR co) ∧ (∀ v ∈ co, isS v = true) ∧ co.length ≤ maxLen := by
    rcases pv_slice Tryd.underlying25 h3 with rfl | ⟨es, rfl, hl, hes⟩
    · exact ⟨_, [], rfl, .nils, by simp, by simp [maxLen]⟩
    · obtain ⟨q, rfl, hq⟩ := pv_cos (n := 4) es hes
      exact ⟨_, q, rfl, .isl _ _, hq, by rwa [slR_len] at hl⟩
  obtain ⟨x4, co, rfl, c4, cs, cl⟩ := hx4
  refine ⟨x0, fun h => if h = 0 then v0 else if h = 1 then v1 else v2, x4, fun h => if h = 0 then r0 else if h = 1 then r1 else r2, co, rfl, i0, fun h hh => ?_, c4, cs, cl⟩
  rcases lt3 hh with rfl | rfl | rfl
  · exact ⟨s0, o0, m0⟩
  · exact ⟨s1, o1, m1⟩
  · exact ⟨s2, o2, m2⟩
end Go.Proofs.YtccdkkgimaajbaaDoor
