/- Layer 20: the document's events, all harts; same events; where a number is (no claim; lemmas). -/
import Derived.Test.YtlkcfhpklibnaaaK20a
set_option linter.unusedSimpArgs false
set_option linter.unusedVariables false
namespace Go.Proofs.Ytlkcfhpklibnaaa
open Go Go.Vm

section
variable {lv : Nat → V} {R : Nat → List Rt} (w : Cd lv R) (hb : ∀ h, h < 3 → bdL (R h)) {x0 x4 : V}
include w hb
theorem rEv_l1 (h : Nat) (hh : h ≤ 3) (acc : List Ev) (ha : acc.length ≤ 1000 * h) :
    evCI pg (.loop ir_undertowref20_Eventsl1) ⟨[.undef, .lp 0 0, .undef, .osl false 0 (evR acc), .int .i64 (h : Int), .undef, .undef, .undef, .undef, .undef, .undef, .undef, .undef], ⟨[[x0, lv 0, lv 1, lv 2, x4], [], []], [acc.length], []⟩⟩ =
      some (.exit 0, ⟨[.undef, .lp 0 0, .undef, .osl false 0 (evR (acc ++ (List.range' h (3 - h)).flatMap fun k => evH k (R k) 0)), .int .i64 (3 : Int), .undef, .undef, .undef, .undef, .bool false, .undef, .undef, .undef], ⟨[[x0, lv 0, lv 1, lv 2, x4], [], []], [(acc ++ (List.range' h (3 - h)).flatMap fun k => evH k (R k) 0).length], []⟩⟩) := by
  obtain ⟨B, hB⟩ : ∃ B, B = Vm.C.loop ir_undertowref20_Eventsl1 := ⟨_, rfl⟩
  by_cases c : h < 3
  · have e3 := succ_i64 c (by omega)
    have hl := rEv_l0 w hb (x0 := x0) (x4 := x4) h c 0 (by omega) acc (by omega)
    rw [List.drop_zero, Int.natCast_zero] at hl
    have hel := evH_len h (R h) 0
    have hl5 := (w.li h c).2.1
    have ih := rEv_l1 (h + 1) (by omega) (acc ++ evH h (R h) 0) (by simp; omega)
    have hd : List.range' h (3 - h) = h :: List.range' (h + 1) (3 - (h + 1)) := by
      have : 3 - h = (3 - (h + 1)) + 1 := by omega
      rw [this, List.range'_succ]
    rw [hd, List.flatMap_cons, ← List.append_assoc, ← ih, ← hB]
    conv => lhs; rw [s_loop_at hB]
    clear ih hd
    have c2 : (h : Int) < 3 := by omega
    simp [ir_undertowref20_Eventsl1, go_sem, c, c2, e3, hl, -Int.natCast_add]
  · obtain rfl : h = 3 := by omega
    rw [← hB, s_loop_at hB]
    simp [ir_undertowref20_Eventsl1, go_sem]
termination_by 3 - h
theorem rEvents_ok (i0 : isS x0 = true) (i4 : isS x4 = true) : evI pg .val n_undertowref20_Events [.agg [x0, lv 0, lv 1, lv 2, x4]] [] = some (ils (evR (evs R)), []) := by
  have hl := rEv_l1 w hb (x0 := x0) (x4 := x4) 0 (by omega) [] (by simp)
  have e : (List.range' 0 (3 - 0)).flatMap (fun k => evH k (R k) 0) = evs R := by simp [evs, List.range'_succ]
  have e0 : evR [] = [] := rfl
  rw [List.nil_append, e, Int.natCast_zero, List.length_nil, e0] at hl
  have j0 := (w.li 0 (by omega)).1.is
  have j1 := (w.li 1 (by omega)).1.is
  have j2 := (w.li 2 (by omega)).1.is
  rw [s_fn fn_undertowref20_Events]
  simp [ir_undertowref20_Events, go_sem, i0, i4, j0, j1, j2, hl, V.cells, V.exp]
end
theorem eqa_self {ks : List CK} {cs : List V} (h : eqaV ks cs cs = some true) : eqaV ks cs cs = some true := h
theorem evC_eq (e : Ev) : eqaV [.int, .int, .int, .int, .int, .int, .int, .int, .bool, .bool, .int, .int, .int, .int, .int, .int, .int, .bool, .int, .flt, .int, .int, .int, .int, .int, .int, .int, .int, .int, .bool, .bool, .int, .int] ((evC e).take 19 ++ .flt 0 :: (evC e).drop 20) ((evC e).take 19 ++ .flt 0 :: (evC e).drop 20) = some true := by
  have hf : Ieee.double.order 0 0 = some .eq := by rfl
  simp [evC, rC, eqaV, eqcV, hf]
theorem evC_z (e : Ev) : ((evC e).take 19 ++ .flt 0 :: (evC e).drop 20).length = 33 ∧ ((evC e).take 19 ++ .flt 0 :: (evC e).drop 20).take 33 = (evC e).take 19 ++ .flt 0 :: (evC e).drop 20 := ⟨rfl, rfl⟩
theorem evC_take33 (e : Ev) : (evC e).take 33 = evC e := rfl
theorem evC_drop33 (e : Ev) : (evC e).drop 33 = [] := rfl
theorem Same_l0 (E : List Ev) (u v : V) (hu : Sl u (evR E)) (hv : Sl v (evR E)) (hl : E.length ≤ 100000) (i : Nat) (hi : i ≤ E.length) :
    evCI pg (.loop ir_undertowref20_SameEventsl0) ⟨[u, v, .undef, .int .i64 (i : Int), .undef, .undef, .undef, .undef, .undef], ⟨[[], []], [], []⟩⟩ =
      some (.exit 0, ⟨[u, v, .undef, .int .i64 (E.length : Int), .undef, .undef, .undef, .bool false, .undef], ⟨[[], []], [], []⟩⟩) := by
  obtain ⟨B, hB⟩ : ∃ B, B = Vm.C.loop ir_undertowref20_SameEventsl0 := ⟨_, rfl⟩
  have hui := hu.is
  have hvi := hv.is
  have hur : (rows u).length = E.length := by rw [hu.rows, evR_len]
  have hfu := hu.fpR
  have hfv := hv.fpR
  by_cases c : i < E.length
  · have e3 := succ_i64 c (by omega)
    have e1 := fun m => hu.ia (sz := 33) m .i64 (i := i) (by rw [evR_len]; exact c) (evR_sz _ _ (List.getElem_mem _))
    have e2 := fun m => hv.ia (sz := 33) m .i64 (i := i) (by rw [evR_len]; exact c) (evR_sz _ _ (List.getElem_mem _))
    simp only [evR_el] at e1 e2
    have ih := Same_l0 E u v hu hv hl (i + 1) (by omega)
    rw [← ih, ← hB]
    conv => lhs; rw [s_loop_at hB]
    clear ih
    generalize E[i] = x at *
    have h1 := evC_eq x
    obtain ⟨h2, h3⟩ := evC_z x
    have h4 := evC_len x
    have h5 := evC_take33 x
    have h6 := evC_drop33 x
    simp [ir_undertowref20_SameEventsl0, go_sem, c, hui, hvi, hur, hfu, hfv, e1, e2, e3, h1, h2, h3, h4, h5, h6, evStore, splice, V.cells, V.exp, -Int.natCast_add]
  · obtain rfl : i = E.length := by omega
    rw [← hB, s_loop_at hB]
    simp [ir_undertowref20_SameEventsl0, go_sem, hui, hvi, hur]
termination_by E.length - i
theorem Same_ok (E : List Ev) (u v : V) (hu : Sl u (evR E)) (hv : Sl v (evR E)) (hl : E.length ≤ 100000) : evI pg .val n_undertowref20_SameEvents [u, v] [] = some (.bool true, []) := by
  have hui := hu.is
  have hvi := hv.is
  have hur : (rows u).length = E.length := by rw [hu.rows, evR_len]
  have hvr : (rows v).length = E.length := by rw [hv.rows, evR_len]
  have hlo := Same_l0 E u v hu hv hl 0 (Nat.zero_le _)
  rw [Int.natCast_zero] at hlo
  rw [s_fn fn_undertowref20_SameEvents]
  simp [ir_undertowref20_SameEvents, go_sem, hui, hvi, hur, hvr, hlo]
/-! ### where -/
/-- The first place from one on that a condition holds at. -/
def fdx (p : Ev → Bool) (E : List Ev) (i : Nat) : Option Nat := ((E.drop i).findIdx? p).map (· + i)
theorem fdx_step {p : Ev → Bool} {E : List Ev} {i : Nat} (h : i < E.length) : fdx p E i = if p E[i] then some i else fdx p E (i + 1) := by
  unfold fdx
  rw [List.drop_eq_getElem_cons h, List.findIdx?_cons]
  split
  · simp
  · cases (E.drop (i + 1)).findIdx? p with
    | none => rfl
    | some j => simp; omega
theorem fdx_end {p : Ev → Bool} {E : List Ev} : fdx p E E.length = none := by simp [fdx]
/-- As a number; -1: none. -/
def fdn : Option Nat → Int
  | some i => (i : Int)
  | none => -1
section
variable {E : List Ev} {u : V} (hu : Sl u (evR E)) (hl : E.length ≤ 100000) {F : Nat} {c : V} (hc : c.exp = some c) {p : Ev → Bool} (H : List Vm.Obj)
  (hp : ∀ e ∈ E, evI pg .heap F [.agg (evC e), c] H = some (.bool (p e), H))
include hu hl hc hp
theorem IF_l0 (i : Nat) (hi : i ≤ E.length) :
    evCI pg (.loop ir_slices_IndexFunc_api_Event_api_Eventl0) ⟨[u, .fn F [] [c], .undef, .undef, .int .i64 (E.length : Int), .int .i64 (i : Int), .undef, .undef], ⟨[], [], H⟩⟩ =
      some (match fdx p E i with
        | some j => (.ret, ⟨[.undef, .undef, .int .i64 (j : Int), .undef, .undef, .undef, .undef, .undef], ⟨[], [], H⟩⟩)
        | none => (.exit 0, ⟨[u, .fn F [] [c], .undef, .undef, .int .i64 (E.length : Int), .int .i64 (E.length : Int), .bool false, .undef], ⟨[], [], H⟩⟩)) := by
  obtain ⟨B, hB⟩ : ∃ B, B = Vm.C.loop ir_slices_IndexFunc_api_Event_api_Eventl0 := ⟨_, rfl⟩
  have hui := hu.is
  have hfu := hu.fpR
  by_cases h : i < E.length
  · have e3 := succ_i64 h (by omega)
    have e1 := fun m => hu.ia (sz := 33) m .i64 (i := i) (by rw [evR_len]; exact h) (evR_sz _ _ (List.getElem_mem _))
    simp only [evR_el] at e1
    have hpe := hp E[i] (List.getElem_mem _)
    have ih := IF_l0 (i + 1) (by omega)
    have hfl := eq_true (evC_flat E[i])
    rw [fdx_step h]
    rw [← hB] at ih
    rw [← hB, s_loop_at hB]
    generalize E[i] = x at *
    cases q : p x with
    | true =>
      rw [q] at hpe
      simp [ir_slices_IndexFunc_api_Event_api_Eventl0, go_sem, h, hui, hfu, e1, e3, hpe, hc, -Int.natCast_add]
    | false =>
      rw [q] at hpe
      simp only [Bool.false_eq_true, if_false]
      rw [← ih]
      simp [ir_slices_IndexFunc_api_Event_api_Eventl0, go_sem, h, hui, hfu, e1, e3, hpe, hc, -Int.natCast_add]
  · obtain rfl : i = E.length := by omega
    rw [fdx_end, ← hB, s_loop_at hB]
    simp [ir_slices_IndexFunc_api_Event_api_Eventl0, go_sem]
termination_by E.length - i
theorem IFh_ok : evI pg .heap n_slices_IndexFunc_api_Event_api_Event [u, .fn F [] [c]] H = some (.int .i64 (fdn (fdx p E 0)), H) := by
  have hl0 := IF_l0 hu hl hc H hp 0 (Nat.zero_le _)
  have hur : (rows u).length = E.length := by rw [hu.rows, evR_len]
  have hui := hu.is
  rw [Int.natCast_zero] at hl0
  rw [s_fn fn_slices_IndexFunc_api_Event_api_Event]
  cases q : fdx p E 0 with
  | none =>
    rw [q] at hl0
    simp [ir_slices_IndexFunc_api_Event_api_Event, go_sem, hui, hur, hl0, fdn]
  | some j =>
    rw [q] at hl0
    simp [ir_slices_IndexFunc_api_Event_api_Event, go_sem, hui, hur, hl0, fdn]
end
theorem IFv_ok {E : List Ev} {u : V} (hu : Sl u (evR E)) (hl : E.length ≤ 100000) {F : Nat} {c : V} (hc : c.exp = some c) {p : Ev → Bool} (hp : ∀ e ∈ E, evI pg .heap F [.agg (evC e), c] [] = some (.bool (p e), [])) :
    evI pg .val n_slices_IndexFunc_api_Event_api_Event [u, .fn F [] [c]] [] = some (.int .i64 (fdn (fdx p E 0)), []) := by
  have hl0 := IF_l0 hu hl hc [] hp 0 (Nat.zero_le _)
  have hur : (rows u).length = E.length := by rw [hu.rows, evR_len]
  have hui := hu.is
  rw [Int.natCast_zero] at hl0
  rw [s_fn fn_slices_IndexFunc_api_Event_api_Event]
  cases q : fdx p E 0 with
  | none =>
    rw [q] at hl0
    simp [ir_slices_IndexFunc_api_Event_api_Event, go_sem, hui, hur, hl0, fdn]
  | some j =>
    rw [q] at hl0
    simp [ir_slices_IndexFunc_api_Event_api_Event, go_sem, hui, hur, hl0, fdn]
/-- The place of a number. -/
def fid (E : List Ev) (id : Int) : Option Nat := fdx (fun e => decide (e.r.id = id)) E 0
theorem Find1_ok (e : Ev) (id : Int) : evI pg .heap n_cand_Find_1 [.agg (evC e), .ip true [.int .i64 id] 0] [] = some (.bool (decide (e.r.id = id)), []) := by
  rw [s_fn fn_cand_Find_1]
  by_cases c : e.r.id = id
  · simp [ir_cand_Find_1, go_sem, c, V.cells, V.exp, loadAt]
  · simp [ir_cand_Find_1, go_sem, c, V.cells, V.exp, loadAt]
theorem Find_ok {E : List Ev} {u : V} (hu : Sl u (evR E)) (hl : E.length ≤ 100000) (id : Int) : evI pg .val n_cand_Find [u, .int .i64 id] [] = some (.int .i64 (fdn (fid E id)), []) := by
  have hi := IFv_ok hu hl (F := n_cand_Find_1) (c := .ip true [.int .i64 id] 0) rfl (p := fun e => decide (e.r.id = id)) fun e _ => Find1_ok e id
  have hui := hu.is
  unfold fid
  rw [s_fn fn_cand_Find]
  have hn : n_cand_Find_1 = 25 := rfl
  simp only [hn] at hi
  simp [ir_cand_Find, go_sem, hui, hi, V.cells, V.exp]
theorem rFind_l0 {E : List Ev} {u : V} (hu : Sl u (evR E)) (hl : E.length ≤ 100000) (id : Int) (i : Nat) (hi : i ≤ E.length) :
    evCI pg (.loop ir_undertowref20_Findl0) ⟨[u, .int .i64 id, .undef, .int .i64 (i : Int), .undef, .undef], ⟨[], [], []⟩⟩ =
      some (match fdx (fun e => decide (e.r.id = id)) E i with
        | some j => (.ret, ⟨[.undef, .undef, .int .i64 (j : Int), .undef, .undef, .undef], ⟨[], [], []⟩⟩)
        | none => (.exit 0, ⟨[u, .int .i64 id, .undef, .int .i64 (E.length : Int), .bool false, .undef], ⟨[], [], []⟩⟩)) := by
  obtain ⟨B, hB⟩ : ∃ B, B = Vm.C.loop ir_undertowref20_Findl0 := ⟨_, rfl⟩
  have hui := hu.is
  have hur : (rows u).length = E.length := by rw [hu.rows, evR_len]
  by_cases h : i < E.length
  · have e3 := succ_i64 h (by omega)
    have e1 := fun m => hu.ia (sz := 33) m .i64 (i := i) (by rw [evR_len]; exact h) (evR_sz _ _ (List.getElem_mem _))
    simp only [evR_el] at e1
    have ih := rFind_l0 hu hl id (i + 1) (by omega)
    rw [fdx_step h]
    rw [← hB] at ih
    rw [← hB, s_loop_at hB]
    generalize E[i] = x at *
    by_cases q : x.r.id = id
    · simp [ir_undertowref20_Findl0, go_sem, h, hui, hur, e1, e3, q, -Int.natCast_add]
    · simp only [q, decide_false, Bool.false_eq_true, if_false]
      rw [← ih]
      simp [ir_undertowref20_Findl0, go_sem, h, hui, hur, e1, e3, q, -Int.natCast_add]
  · obtain rfl : i = E.length := by omega
    rw [fdx_end, ← hB, s_loop_at hB]
    simp [ir_undertowref20_Findl0, go_sem, hui, hur]
termination_by E.length - i
theorem rFind_ok {E : List Ev} {u : V} (hu : Sl u (evR E)) (hl : E.length ≤ 100000) (id : Int) : evI pg .val n_undertowref20_Find [u, .int .i64 id] [] = some (.int .i64 (fdn (fid E id)), []) := by
  have hl0 := rFind_l0 hu hl id 0 (Nat.zero_le _)
  have hui := hu.is
  rw [Int.natCast_zero] at hl0
  unfold fid
  rw [s_fn fn_undertowref20_Find]
  cases q : fdx (fun e => decide (e.r.id = id)) E 0 with
  | none =>
    rw [q] at hl0
    simp [ir_undertowref20_Find, go_sem, hui, hl0, fdn]
  | some j =>
    rw [q] at hl0
    simp [ir_undertowref20_Find, go_sem, hui, hl0, fdn]
end Go.Proofs.Ytlkcfhpklibnaaa
