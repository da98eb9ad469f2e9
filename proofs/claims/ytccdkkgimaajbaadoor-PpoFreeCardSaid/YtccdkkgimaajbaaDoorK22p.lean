/- Layer 22: all events, and a view (no claim; lemmas). -/
import Derived.Test.YtccdkkgimaajbaaDoorK22o
set_option linter.unusedSimpArgs false
set_option linter.unusedVariables false
namespace Go.Proofs.YtccdkkgimaajbaaDoor
open Go Go.Vm

/-- A candidate's lists. -/
structure Cd (lv : Nat → V) (R : Nat → List Rt) : Prop where
  li : ∀ h, h < 3 → Sl (lv h) (rwR (R h)) ∧ (R h).length ≤ 512 ∧ okL (R h)
def ls3 (lv : Nat → V) : List V := [lv 0, lv 1, lv 2]
theorem ls3_len (lv : Nat → V) : (ls3 lv).length = 3 := rfl
theorem ls3_get (lv : Nat → V) {h : Nat} (c : h < 3) : (ls3 lv)[h]? = some (lv h) ∧ ((ls3 lv).drop h).take 1 = [lv h] := by rcases lt3 c with rfl | rfl | rfl <;> exact ⟨rfl, rfl⟩
section
variable {lv : Nat → V} {R : Nat → List Rt} (w : Cd lv R)
include w
theorem Ev_l1 (h : Nat) (hh : h ≤ 3) (acc : List Ev) (ha : acc.length ≤ 1000 * h) :
    evCI pg (.loop ir_cand_Eventsl1) ⟨[.undef, .undef, .undef, .osl false 0 (evR acc), .undef, .undef, .undef, .undef, .undef, .undef, .agg (ls3 lv), .int .i64 (h : Int), .undef, .undef, .undef, .undef, .undef, .undef, .undef], ⟨[[], [], []], [acc.length], []⟩⟩ =
      some (.exit 0, ⟨[.undef, .undef, .undef, .osl false 0 (evR (acc ++ (List.range' h (3 - h)).flatMap fun k => evH k (R k) 0)), .undef, .undef, .undef, .undef, .undef, .undef, .agg (ls3 lv), .int .i64 (3 : Int), .bool false, .undef, .undef, .undef, .undef, .undef, .undef], ⟨[[], [], []], [(acc ++ (List.range' h (3 - h)).flatMap fun k => evH k (R k) 0).length], []⟩⟩) := by
  obtain ⟨B, hB⟩ : ∃ B, B = Vm.C.loop ir_cand_Eventsl1 := ⟨_, rfl⟩
  by_cases c : h < 3
  · have e3 := succ_i64 c (by omega)
    obtain ⟨h1, h2, h3⟩ := w.li h c
    have hl := Ev_l0 h1 (by omega) h3 h (ls3 lv) 0 (by omega) acc (by omega)
    rw [List.drop_zero, Int.natCast_zero] at hl
    have hel := evH_len h (R h) 0
    have ih := Ev_l1 (h + 1) (by omega) (acc ++ evH h (R h) 0) (by simp; omega)
    have hd : List.range' h (3 - h) = h :: List.range' (h + 1) (3 - (h + 1)) := by
      have : 3 - h = (3 - (h + 1)) + 1 := by omega
      rw [this, List.range'_succ]
    rw [hd, List.flatMap_cons, ← List.append_assoc, ← ih, ← hB]
    conv => lhs; rw [s_loop_at hB]
    have hrl : (rows (lv h)).length = (R h).length := by rw [h1.rows, rwR_len]
    have hi := h1.is
    clear ih hd
    have c2 : (h : Int) < 3 := by omega
    obtain ⟨hg, hg2⟩ := ls3_get lv c
    have hll := ls3_len lv
    have hg' : ∀ q : h < (ls3 lv).length, (ls3 lv)[h] = lv h := fun q => by
      rw [List.getElem?_eq_getElem q] at hg
      exact Option.some.inj hg
    generalize ls3 lv = ls at *
    have c3 : h ≤ 2 := by omega
    simp [ir_cand_Eventsl1, go_sem, c, c2, c3, e3, hg, hg', hg2, hll, hi, hrl, hl, -Int.natCast_add]
  · obtain rfl : h = 3 := by omega
    rw [← hB, s_loop_at hB]
    simp [ir_cand_Eventsl1, go_sem]
termination_by 3 - h
theorem Events_ok {x0 x4 : V} (i0 : isS x0 = true) (i4 : isS x4 = true) : evI pg .val n_cand_Events [.agg [x0, lv 0, lv 1, lv 2, x4]] [] = some (ils (evR (evs R)), []) := by
  have hl := Ev_l1 w 0 (by omega) [] (by simp)
  have e : (List.range' 0 (3 - 0)).flatMap (fun k => evH k (R k) 0) = evs R := by simp [evs, List.range'_succ]
  have e0 : evR [] = [] := rfl
  rw [List.nil_append, e, Int.natCast_zero, List.length_nil, e0] at hl
  unfold ls3 at hl
  have j0 := (w.li 0 (by omega)).1.is
  have j1 := (w.li 1 (by omega)).1.is
  have j2 := (w.li 2 (by omega)).1.is
  rw [s_fn fn_cand_Events]
  simp [ir_cand_Events, go_sem, i0, i4, j0, j1, j2, hl, V.cells, V.exp]
theorem look_l0 (h : Nat) (hh : h ≤ 3) (n : Nat) (hn : n ≤ 1000 * h) (c0 : List V) :
    evCI pg (.loop ir_ppo_lookl0) ⟨[.undef, .lp 0 0, .undef, .undef, .int .i64 (n : Nat), .undef, .undef, .undef, .undef, .agg (ls3 lv), .int .i64 (h : Int), .undef, .undef, .undef, .undef, .undef], ⟨[c0], [], []⟩⟩ =
      some (.exit 0, ⟨[.undef, .lp 0 0, .undef, .undef, .int .i64 (n + ((List.range' h (3 - h)).map fun k => (R k).length).sum : Nat), .undef, .undef, .undef, .undef, .agg (ls3 lv), .int .i64 (3 : Int), .bool false, .undef, .undef, .undef, .undef], ⟨[c0], [], []⟩⟩) := by
  obtain ⟨B, hB⟩ : ∃ B, B = Vm.C.loop ir_ppo_lookl0 := ⟨_, rfl⟩
  by_cases c : h < 3
  · have e3 := succ_i64 c (by omega)
    obtain ⟨h1, h2, h3⟩ := w.li h c
    have ih := look_l0 (h + 1) (by omega) (n + (R h).length) (by omega) c0
    have hd : List.range' h (3 - h) = h :: List.range' (h + 1) (3 - (h + 1)) := by
      have : 3 - h = (3 - (h + 1)) + 1 := by omega
      rw [this, List.range'_succ]
    rw [hd, List.map_cons, List.sum_cons, ← Nat.add_assoc, ← ih, ← hB]
    conv => lhs; rw [s_loop_at hB]
    have hrl : (rows (lv h)).length = (R h).length := by rw [h1.rows, rwR_len]
    have hi := h1.is
    clear ih hd
    have c2 : (h : Int) < 3 := by omega
    obtain ⟨hg, hg2⟩ := ls3_get lv c
    have hll := ls3_len lv
    have hg' : ∀ q : h < (ls3 lv).length, (ls3 lv)[h] = lv h := fun q => by
      rw [List.getElem?_eq_getElem q] at hg
      exact Option.some.inj hg
    generalize ls3 lv = ls at *
    have c3 : h ≤ 2 := by omega
    have ew : IntKind.i64.wrap ((n : Int) + ((R h).length : Int)) = ((n + (R h).length : Nat) : Int) := by rw [i64_small (by omega)]; rfl
    simp [ir_ppo_lookl0, go_sem, c, c2, c3, e3, hg, hg', hg2, hll, hi, hrl, ew, -Int.natCast_add]
  · obtain rfl : h = 3 := by omega
    rw [← hB, s_loop_at hB]
    simp [ir_ppo_lookl0, go_sem]
termination_by 3 - h
section
variable {av dv cv : Nat → V} (hA : ∀ h, h < 3 → evI pg .val n_deps_Address [lv h] [] = some (.ip false [av h] 0, [])) (hD : ∀ h, h < 3 → evI pg .val n_deps_Data [lv h] [] = some (.ip false [dv h] 0, [])) (hC : ∀ h, h < 3 → evI pg .val n_deps_Course [lv h] [] = some (.ip false [cv h] 0, [])) (u : V) (hu : isS u = true)
include hA hD hC hu
omit w hA hD hC hu in
theorem look_3 : evCI pg (.loop ir_ppo_lookl1) ⟨[.undef, .undef, .undef, .undef, .undef, .undef, .ptr 0 0 0, .undef, .undef, .undef, .undef, .undef, .undef, .agg [lv 0, lv 1, lv 2], .int .i64 3, .undef], ⟨[[]], [], [.arr [[u, lv 0, .ip false [av 0] 0, .ip false [dv 0] 0, .ip false [cv 0] 0, lv 1, .ip false [av 1] 0, .ip false [dv 1] 0, .ip false [cv 1] 0, lv 2, .ip false [av 2] 0, .ip false [dv 2] 0, .ip false [cv 2] 0]]]⟩⟩ =
      some (.exit 2, ⟨[.undef, .undef, .undef, .undef, .undef, .undef, .ptr 0 0 0, .undef, .undef, .undef, .undef, .undef, .undef, .agg [lv 0, lv 1, lv 2], .int .i64 3, .bool false], ⟨[[]], [], [.arr [[u, lv 0, .ip false [av 0] 0, .ip false [dv 0] 0, .ip false [cv 0] 0, lv 1, .ip false [av 1] 0, .ip false [dv 1] 0, .ip false [cv 1] 0, lv 2, .ip false [av 2] 0, .ip false [dv 2] 0, .ip false [cv 2] 0]]]⟩⟩) := by
  rw [s_loop]
  simp [ir_ppo_lookl1, go_sem]
theorem look_2 : evCI pg (.loop ir_ppo_lookl1) ⟨[.undef, .undef, .undef, .undef, .undef, .undef, .ptr 0 0 0, .undef, .undef, .undef, .undef, .undef, .undef, .agg [lv 0, lv 1, lv 2], .int .i64 2, .undef], ⟨[[]], [], [.arr [[u, lv 0, .ip false [av 0] 0, .ip false [dv 0] 0, .ip false [cv 0] 0, lv 1, .ip false [av 1] 0, .ip false [dv 1] 0, .ip false [cv 1] 0, .nils, .nilp, .nilp, .nilp]]]⟩⟩ =
      some (.exit 2, ⟨[.undef, .undef, .undef, .undef, .undef, .undef, .ptr 0 0 0, .undef, .undef, .undef, .undef, .undef, .undef, .agg [lv 0, lv 1, lv 2], .int .i64 3, .bool false], ⟨[[]], [], [.arr [[u, lv 0, .ip false [av 0] 0, .ip false [dv 0] 0, .ip false [cv 0] 0, lv 1, .ip false [av 1] 0, .ip false [dv 1] 0, .ip false [cv 1] 0, lv 2, .ip false [av 2] 0, .ip false [dv 2] 0, .ip false [cv 2] 0]]]⟩⟩) := by
  have hu' := hu
  have n := look_3 (lv := lv) (av := av) (dv := dv) (cv := cv) u
  have i1 := (w.li 2 (by omega)).1.is
  have h1 := hA 2 (by omega)
  have h2 := hD 2 (by omega)
  have h3 := hC 2 (by omega)
  obtain ⟨B, hB⟩ : ∃ B, B = Vm.C.loop ir_ppo_lookl1 := ⟨_, rfl⟩
  rw [← hB] at n
  rw [← hB, s_loop_at hB, ← n]
  simp [ir_ppo_lookl1, go_sem, i1, h1, h2, h3, fill, evStore, splice]
theorem look_1 : evCI pg (.loop ir_ppo_lookl1) ⟨[.undef, .undef, .undef, .undef, .undef, .undef, .ptr 0 0 0, .undef, .undef, .undef, .undef, .undef, .undef, .agg [lv 0, lv 1, lv 2], .int .i64 1, .undef], ⟨[[]], [], [.arr [[u, lv 0, .ip false [av 0] 0, .ip false [dv 0] 0, .ip false [cv 0] 0, .nils, .nilp, .nilp, .nilp, .nils, .nilp, .nilp, .nilp]]]⟩⟩ =
      some (.exit 2, ⟨[.undef, .undef, .undef, .undef, .undef, .undef, .ptr 0 0 0, .undef, .undef, .undef, .undef, .undef, .undef, .agg [lv 0, lv 1, lv 2], .int .i64 3, .bool false], ⟨[[]], [], [.arr [[u, lv 0, .ip false [av 0] 0, .ip false [dv 0] 0, .ip false [cv 0] 0, lv 1, .ip false [av 1] 0, .ip false [dv 1] 0, .ip false [cv 1] 0, lv 2, .ip false [av 2] 0, .ip false [dv 2] 0, .ip false [cv 2] 0]]]⟩⟩) := by
  have n := look_2 w hA hD hC u hu
  have i1 := (w.li 1 (by omega)).1.is
  have h1 := hA 1 (by omega)
  have h2 := hD 1 (by omega)
  have h3 := hC 1 (by omega)
  obtain ⟨B, hB⟩ : ∃ B, B = Vm.C.loop ir_ppo_lookl1 := ⟨_, rfl⟩
  rw [← hB] at n
  rw [← hB, s_loop_at hB, ← n]
  simp [ir_ppo_lookl1, go_sem, i1, h1, h2, h3, fill, evStore, splice]
theorem look_0 : evCI pg (.loop ir_ppo_lookl1) ⟨[.undef, .undef, .undef, .undef, .undef, .undef, .ptr 0 0 0, .undef, .undef, .undef, .undef, .undef, .undef, .agg [lv 0, lv 1, lv 2], .int .i64 0, .undef], ⟨[[]], [], [.arr [[u, .nils, .nilp, .nilp, .nilp, .nils, .nilp, .nilp, .nilp, .nils, .nilp, .nilp, .nilp]]]⟩⟩ =
      some (.exit 2, ⟨[.undef, .undef, .undef, .undef, .undef, .undef, .ptr 0 0 0, .undef, .undef, .undef, .undef, .undef, .undef, .agg [lv 0, lv 1, lv 2], .int .i64 3, .bool false], ⟨[[]], [], [.arr [[u, lv 0, .ip false [av 0] 0, .ip false [dv 0] 0, .ip false [cv 0] 0, lv 1, .ip false [av 1] 0, .ip false [dv 1] 0, .ip false [cv 1] 0, lv 2, .ip false [av 2] 0, .ip false [dv 2] 0, .ip false [cv 2] 0]]]⟩⟩) := by
  have n := look_1 w hA hD hC u hu
  have i1 := (w.li 0 (by omega)).1.is
  have h1 := hA 0 (by omega)
  have h2 := hD 0 (by omega)
  have h3 := hC 0 (by omega)
  obtain ⟨B, hB⟩ : ∃ B, B = Vm.C.loop ir_ppo_lookl1 := ⟨_, rfl⟩
  rw [← hB] at n
  rw [← hB, s_loop_at hB, ← n]
  simp [ir_ppo_lookl1, go_sem, i1, h1, h2, h3, fill, evStore, splice]
theorem look_at {x0 x4 : V} (i0 : isS x0 = true) (i4 : isS x4 = true) (ht : (R 0).length + (R 1).length + (R 2).length ≤ 512) (hE : evI pg .val n_cand_Events [.agg [x0, lv 0, lv 1, lv 2, x4]] [] = some (u, [])) :
    evI pg .val n_ppo_look [.agg [x0, lv 0, lv 1, lv 2, x4]] [] = some (.tup [.ip false (vwC u lv av dv cv) 0, .bool true], []) := by
  have hl0 := look_l0 w 0 (by omega) 0 (by omega) [x0, lv 0, lv 1, lv 2, x4]
  have hl1 := look_0 w hA hD hC u hu
  have e : 0 + ((List.range' 0 (3 - 0)).map fun k => (R k).length).sum = (R 0).length + (R 1).length + (R 2).length := by simp [List.range'_succ]; omega
  rw [e, Int.natCast_zero] at hl0
  generalize (R 0).length + (R 1).length + (R 2).length = n at *
  unfold ls3 at hl0
  have j0 := (w.li 0 (by omega)).1.is
  have j1 := (w.li 1 (by omega)).1.is
  have j2 := (w.li 2 (by omega)).1.is
  have hn : ¬ (512 : Int) < (n : Int) := by omega
  rw [s_fn fn_ppo_look]
  simp [ir_ppo_look, go_sem, i0, i4, j0, j1, j2, hu, hl0, hl1, hn, hE, fill, vwC]
end
end
end Go.Proofs.YtccdkkgimaajbaaDoor
