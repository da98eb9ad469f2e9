/- Layer 20: what is handed, with its bounds (no claim; lemmas). -/
import Derived.Test.YtlkcfhpklibnaaaK22p
set_option linter.unusedSimpArgs false
set_option linter.unusedVariables false
set_option maxRecDepth 20000
namespace Go.Proofs.Ytlkcfhpklibnaaa
open Go Go.Vm

theorem alive20 : evI pg .val n_undertowlaw20_alive [] [] = some (.bool true, []) := closed irL_ok 400 (by kernel_rfl)
/-- Bounds of what retired. -/
structure Bd (r : Rt) : Prop where
  op : -9223372036854775808 ≤ r.ins.op ∧ r.ins.op ≤ 9223372036854775807
  ad : 0 ≤ r.addr ∧ r.addr < 18446744073709551616
  rd : 0 ≤ r.rdd ∧ r.rdd < 18446744073709551616
  wr : 0 ≤ r.wro ∧ r.wro < 18446744073709551616
  id : -9223372036854775808 ≤ r.id ∧ r.id ≤ 9223372036854775807
  pa : -9223372036854775808 ≤ r.pair ∧ r.pair ≤ 9223372036854775807
  tg : ∀ k, -9223372036854775808 ≤ r.tg k ∧ r.tg k ≤ 9223372036854775807
theorem pv_in {n : Nat} {vs : List V} (h : PV Try.prog (n + 2) 38 vs) : ∃ x : In, vs = inV x ∧ -9223372036854775808 ≤ x.op ∧ x.op ≤ 9223372036854775807 := by
  obtain ⟨_, _, rfl, h1, _, _, rfl, h2, _, _, rfl, h3, _, _, rfl, h4, _, _, rfl, h5, _, _, rfl, h6, _, _, rfl, h7, _, _, rfl, h8, _, _, rfl, h9, rfl⟩ := pv_struct Try.underlying38 h
  obtain ⟨a1, rfl, hb⟩ := pv_i64 Try.underlying3 h1
  obtain ⟨a2, rfl, _⟩ := pv_i64 Try.underlying3 h2
  obtain ⟨a3, rfl, _⟩ := pv_i64 Try.underlying3 h3
  obtain ⟨a4, rfl, _⟩ := pv_i64 Try.underlying3 h4
  obtain ⟨a5, rfl, _⟩ := pv_i64 Try.underlying2 h5
  obtain ⟨a6, rfl⟩ := pv_bool Try.underlying4 h6
  obtain ⟨a7, rfl⟩ := pv_bool Try.underlying4 h7
  obtain ⟨a8, rfl, _⟩ := pv_i64 Try.underlying3 h8
  obtain ⟨a9, rfl, _⟩ := pv_i64 Try.underlying3 h9
  exact ⟨⟨a1, a2, a3, a4, a5, a8, a9, a6, a7⟩, rfl, hb⟩
theorem pv_rt {n : Nat} {vs : List V} (h : PV Try.prog (n + 4) 44 vs) : ∃ r : Rt, vs = rC r ∧ Bd r := by
  obtain ⟨d, _, rfl, h1, _, _, rfl, h2, _, _, rfl, h3, _, _, rfl, h4, _, _, rfl, h5, rfl⟩ := pv_struct Try.underlying44 h
  obtain ⟨_, _, rfl, d1, _, _, rfl, d2, _, _, rfl, d3, _, _, rfl, d4, _, _, rfl, d5, _, _, rfl, d6, _, _, rfl, d7, _, _, rfl, d8, rfl⟩ := pv_struct Try.underlying40 h1
  have h4' : PVs (PV Try.prog (n + 2)) [3, 3, 3, 3, 3, 3, 3, 3] _ := pv_array Try.underlying42 h4
  obtain ⟨_, _, rfl, t1, _, _, rfl, t2, _, _, rfl, t3, _, _, rfl, t4, _, _, rfl, t5, _, _, rfl, t6, _, _, rfl, t7, _, _, rfl, t8, rfl⟩ := h4'
  obtain ⟨a1, rfl, _⟩ := pv_u64 Try.underlying36 d1
  obtain ⟨x, rfl, hx⟩ := pv_in d2
  obtain ⟨a3, rfl, _⟩ := pv_i64 Try.underlying3 d3
  obtain ⟨a4, rfl, k4⟩ := pv_u64 Try.underlying36 d4
  obtain ⟨a5, rfl, k5⟩ := pv_u64 Try.underlying36 d5
  obtain ⟨a6, rfl, k6⟩ := pv_u64 Try.underlying36 d6
  obtain ⟨a7, rfl, k7⟩ := pv_u64 Try.underlying36 d7
  obtain ⟨a8, rfl⟩ := pv_bool Try.underlying4 d8
  obtain ⟨b1, rfl, k1⟩ := pv_i64 Try.underlying3 h2
  obtain ⟨b2, rfl, _⟩ := pv_flt Try.underlying41 h3
  obtain ⟨b3, rfl, k3⟩ := pv_i64 Try.underlying3 h5
  obtain ⟨g0, rfl, q0⟩ := pv_i64 Try.underlying3 t1
  obtain ⟨g1, rfl, q1⟩ := pv_i64 Try.underlying3 t2
  obtain ⟨g2, rfl, q2⟩ := pv_i64 Try.underlying3 t3
  obtain ⟨g3, rfl, q3⟩ := pv_i64 Try.underlying3 t4
  obtain ⟨g4, rfl, q4⟩ := pv_i64 Try.underlying3 t5
  obtain ⟨g5, rfl, q5⟩ := pv_i64 Try.underlying3 t6
  obtain ⟨g6, rfl, q6⟩ := pv_i64 Try.underlying3 t7
  obtain ⟨g7, rfl, q7⟩ := pv_i64 Try.underlying3 t8
  refine ⟨⟨x, a1, a3, a4, a5, a6, a7, b1, b3, a8, b2, fun k => [g0, g1, g2, g3, g4, g5, g6, g7].getD k 0⟩, rfl, ⟨hx, ⟨Int.natCast_nonneg _, by simp only; omega⟩, ⟨Int.natCast_nonneg _, by simp only; omega⟩, ⟨Int.natCast_nonneg _, by simp only; omega⟩, k1, k3, fun k => ?_⟩⟩
  match k with
  | 0 => exact q0
  | 1 => exact q1
  | 2 => exact q2
  | 3 => exact q3
  | 4 => exact q4
  | 5 => exact q5
  | 6 => exact q6
  | 7 => exact q7
  | k + 8 => exact ⟨show -9223372036854775808 ≤ (0 : Int) by omega, show (0 : Int) ≤ 9223372036854775807 by omega⟩
/-- Bounds of a list. -/
def bdL (l : List Rt) : Prop := ∀ r ∈ l, Bd r
theorem bdL.ok {l : List Rt} (h : bdL l) : okL l := fun r hr => (h r hr).ad.1
theorem pv_rts {n : Nat} : ∀ es : List (List V), (∀ q ∈ es, PV Try.prog (n + 4) 44 q) → ∃ l : List Rt, es = rwR l ∧ bdL l
  | [], _ => ⟨[], rfl, by simp [bdL]⟩
  | q :: es, h => by
    obtain ⟨w, rfl, hw⟩ := pv_rt (h q (by simp))
    obtain ⟨l, rfl, hl⟩ := pv_rts es fun q hq => h q (by simp [hq])
    refine ⟨w :: l, rfl, fun x hx => ?_⟩
    rcases List.mem_cons.1 hx with rfl | hx
    · exact hw
    · exact hl x hx
theorem pv_list {n : Nat} {vs : List V} (h : PV Try.prog (n + 5) 23 vs) : ∃ (v : V) (l : List Rt), vs = [v] ∧ Sl v (rwR l) ∧ bdL l ∧ l.length ≤ maxLen := by
  rcases pv_slice Try.underlying23 h with rfl | ⟨es, rfl, hl, hes⟩
  · exact ⟨_, [], rfl, .nils, by simp [bdL], by simp [maxLen]⟩
  · obtain ⟨l, rfl, hok⟩ := pv_rts es hes
    exact ⟨_, l, rfl, .isl _ _, hok, by rwa [rwR_len] at hl⟩
theorem pv_u8s {n : Nat} : ∀ es : List (List V), (∀ q ∈ es, PV Try.prog (n + 1) 5 q) → ∃ l : List Nat, es = byV l ∧ ∀ b ∈ l, b < 256
  | [], _ => ⟨[], rfl, by simp⟩
  | q :: es, h => by
    obtain ⟨w, rfl, hw⟩ := pv_u8 Try.underlying5 (h q (by simp))
    obtain ⟨l, rfl, hl⟩ := pv_u8s es fun q hq => h q (by simp [hq])
    refine ⟨w :: l, rfl, fun x hx => ?_⟩
    rcases List.mem_cons.1 hx with rfl | hx
    · exact hw
    · exact hl x hx
theorem pv_ints {n : Nat} : ∀ es : List (List V), (∀ q ∈ es, PV Try.prog (n + 1) 3 q) → ∃ l : List Int, es = iI l ∧ ∀ b ∈ l, -9223372036854775808 ≤ b ∧ b ≤ 9223372036854775807
  | [], _ => ⟨[], rfl, by simp⟩
  | q :: es, h => by
    obtain ⟨w, rfl, hw⟩ := pv_i64 Try.underlying3 (h q (by simp))
    obtain ⟨l, rfl, hl⟩ := pv_ints es fun q hq => h q (by simp [hq])
    refine ⟨w :: l, rfl, fun x hx => ?_⟩
    rcases List.mem_cons.1 hx with rfl | hx
    · exact hw
    · exact hl x hx
/-- Slices of slices of numbers. -/
def slR (q : List V) : List (List V) := q.map fun v => [v]
theorem slR_len (q : List V) : (slR q).length = q.length := by simp [slR]
theorem slR_el (q : List V) (i : Nat) (h : i < (slR q).length) : (slR q)[i] = [q[i]'(by simpa [slR] using h)] := by simp [slR]
theorem slR_sz (q : List V) : ∀ e ∈ slR q, e.length = 1 := by
  intro e he
  obtain ⟨w, _, rfl⟩ := List.mem_map.1 he
  rfl
/-- Which lists slices are. -/
def SlI (q : List V) (L : List (List Int)) : Prop := L.length = q.length ∧ ∀ (i : Nat) (v : V) (l : List Int), q[i]? = some v → L[i]? = some l → Sl v (iI l)
theorem pv_cos {n : Nat} : ∀ es : List (List V), (∀ q ∈ es, PV Try.prog (n + 2) 50 q) → ∃ (q : List V) (L : List (List Int)), es = slR q ∧ SlI q L
  | [], _ => ⟨[], [], rfl, rfl, fun i v l h => by simp at h⟩
  | q :: es, h => by
    obtain ⟨l, L, rfl, hl⟩ := pv_cos es fun q hq => h q (by simp [hq])
    have key : ∀ v a, Sl v (iI a) → q = [v] → ∃ (l' : List V) (L' : List (List Int)), (q :: slR l) = slR l' ∧ SlI l' L' := by
      rintro v a hv rfl
      refine ⟨v :: l, a :: L, rfl, by simp [hl.1], fun i v' l' h1 h2 => ?_⟩
      cases i with
      | zero => simp at h1 h2; subst h1; subst h2; exact hv
      | succ i => exact hl.2 i v' l' (by simpa using h1) (by simpa using h2)
    rcases pv_slice Try.underlying50 (h q (by simp)) with e | ⟨es', e, _, hes⟩
    · exact key _ [] .nils e
    · obtain ⟨a, rfl, _⟩ := pv_ints es' hes
      exact key _ a (.isl _ _) e
/-- A candidate. -/
structure Cn (v : V) (x0 : V) (lv : Nat → V) (x4 : V) (R : Nat → List Rt) (img : List Nat) (cv : List V) (co : List (List Int)) : Prop where
  eq : v = .agg [x0, lv 0, lv 1, lv 2, x4]
  im : Sl x0 (byV img)
  ib : (∀ b ∈ img, b < 256) ∧ img.length ≤ maxLen
  li : ∀ h, h < 3 → Sl (lv h) (rwR (R h)) ∧ bdL (R h) ∧ (R h).length ≤ maxLen
  co4 : Sl x4 (slR cv)
  cs : SlI cv co
  cl : cv.length ≤ maxLen
theorem arg_cd {v : V} (h : ArgPV Try.prog 8 27 v) : ∃ x0 lv x4 R img cv co, Cn v x0 lv x4 R img cv co := by
  obtain ⟨vs, hvs, hp⟩ := arg_struct Try.underlying27 h
  clear h
  subst hvs
  obtain ⟨a, _, rfl, h1, b, _, rfl, h2, c, _, rfl, h3, rfl⟩ := hp
  have h2' : PVs (PV Try.prog 6) [23, 23, 23] b := pv_array Try.underlying24 h2
  obtain ⟨_, _, rfl, l0, _, _, rfl, l1, _, _, rfl, l2, rfl⟩ := h2'
  obtain ⟨v0, r0, rfl, s0, o0, m0⟩ := pv_list (n := 1) l0
  obtain ⟨v1, r1, rfl, s1, o1, m1⟩ := pv_list (n := 1) l1
  obtain ⟨v2, r2, rfl, s2, o2, m2⟩ := pv_list (n := 1) l2
  have hx0 : ∃ x0 img, a = [x0] ∧ Sl x0 (byV img) ∧ (∀ b ∈ img, b < 256) ∧ img.length ≤ maxLen := by
    rcases pv_slice Try.underlying22 h1 with rfl | ⟨es, rfl, hl, hes⟩
    · exact ⟨_, [], rfl, .nils, by simp, by simp [maxLen]⟩
    · obtain ⟨l, rfl, hok⟩ := pv_u8s (n := 5) es hes
      exact ⟨_, l, rfl, .isl _ _, hok, by rwa [byV_len] at hl⟩
  obtain ⟨x0, img, rfl, i0, ib⟩ := hx0
  have hx4 : ∃ x4 cv co, c = [x4] ∧ Sl x4 (slR cv) ∧ SlI cv co ∧ cv.length ≤ maxLen := by
    rcases pv_slice Try.underlying25 h3 with rfl | ⟨es, rfl, hl, hes⟩
    · exact ⟨_, [], [], rfl, .nils, ⟨rfl, fun i v l h => by simp at h⟩, by simp [maxLen]⟩
    · obtain ⟨q, L, rfl, hq⟩ := pv_cos (n := 4) es hes
      exact ⟨_, q, L, rfl, .isl _ _, hq, by rwa [slR_len] at hl⟩
  obtain ⟨x4, cv, co, rfl, c4, cs, cl⟩ := hx4
  refine ⟨x0, fun h => if h = 0 then v0 else if h = 1 then v1 else v2, x4, fun h => if h = 0 then r0 else if h = 1 then r1 else r2, img, cv, co, rfl, i0, ib, fun h hh => ?_, c4, cs, cl⟩
  rcases lt3 hh with rfl | rfl | rfl
  · exact ⟨s0, o0, m0⟩
  · exact ⟨s1, o1, m1⟩
  · exact ⟨s2, o2, m2⟩
end Go.Proofs.Ytlkcfhpklibnaaa
