/- Layer 20: are places wrong (no claim; lemmas). -/
import Derived.Test.YtlkcfhpklibnaaaK20h
set_option linter.unusedSimpArgs false
set_option linter.unusedVariables false
set_option maxRecDepth 20000
namespace Go.Proofs.Ytlkcfhpklibnaaa
open Go Go.Vm

theorem fdx_any (p : Ev → Bool) (E : List Ev) : (0 ≤ fdn (fdx p E 0)) = (E.any p = true) := by
  unfold fdx
  rw [List.drop_zero]
  cases q : E.findIdx? p with
  | none =>
    rw [List.findIdx?_eq_none_iff] at q
    have : E.any p = false := by rw [List.any_eq_false]; intro x hx; rw [q x hx]; simp
    rw [this]
    simp [fdn]
  | some i =>
    have h := List.findIdx?_eq_some_iff_getElem.1 q
    obtain ⟨hi, hp, _⟩ := h
    have : E.any p = true := List.any_eq_true.2 ⟨_, List.getElem_mem hi, hp⟩
    rw [this]
    simp [fdn]
theorem Cont_ok {E : List Ev} {u : V} (hu : Sl u (evR E)) (hl : E.length ≤ 100000) {F : Nat} {c : V} (hc : c.exp = some c) {p : Ev → Bool} (H : List Vm.Obj) (hp : ∀ e ∈ E, evI pg .heap F [.agg (evC e), c] H = some (.bool (p e), H)) :
    evI pg .heap n_slices_ContainsFunc_api_Event_api_Event [u, .fn F [] [c]] H = some (.bool (E.any p), H) := by
  have hi := IFh_ok hu hl hc H hp
  have hui := hu.is
  have hf := fdx_any p E
  generalize fdn (fdx p E 0) = n at *
  rw [s_fn fn_slices_ContainsFunc_api_Event_api_Event]
  cases q : E.any p with
  | true =>
    rw [q] at hf
    have h0 : 0 ≤ n := by rw [hf]
    simp [ir_slices_ContainsFunc_api_Event_api_Event, go_sem, hui, hi, h0]
  | false =>
    rw [q] at hf
    have h0 : ¬ 0 ≤ n := by rw [hf]; simp
    have h1 : n < 0 := by omega
    simp [ir_slices_ContainsFunc_api_Event_api_Event, go_sem, hui, hi, h0, h1]
/-- Cells that are put behind all else. -/
def bxH (H : List Vm.Obj) (c : List V) : List Vm.Obj := H ++ [.arr [c]]
theorem bxH_mk (H : List Vm.Obj) (c : List V) : H ++ [Vm.Obj.arr [c]] = bxH H c := rfl
theorem bxH_at (H : List Vm.Obj) (c : List V) : (bxH H c)[H.length]? = some (.arr [c]) := by simp [bxH]
theorem bxH_len (H : List Vm.Obj) (c : List V) : (bxH H c).length = H.length + 1 := by simp [bxH]
theorem bxH_el (H : List Vm.Obj) (c : List V) (h : H.length < (bxH H c).length) : (bxH H c)[H.length] = .arr [c] := by simp [bxH]
section
variable {x0 : V} {lv : Nat → V} {x4 u : V} {R : Nat → List Rt} {img : List Nat} {cv : List V} {co : List (List Int)} (w : Lk x0 lv x4 u R img cv co) (mid : Nat) (H : List Vm.Obj)
include w
def plcP (n : Nat) (e : Ev) : Bool := decide (whr e.r.ins.op e.r.addr n ≠ 0)
theorem places1_ok (e : Ev) (hb : Bd e.r) : evI pg .heap n_cand_look_places_1 [.agg (evC e), .ptr H.length 0 0] (bxH H (xC x0 lv x4 u mid)) = some (.bool (plcP img.length e), bxH H (xC x0 lv x4 u mid)) := by
  have hW := Where_ok e.r.ins.op e.r.addr hb.ad img.length w.ib.2
  have hat := bxH_at H (xC x0 lv x4 u mid)
  have hel := bxH_el H (xC x0 lv x4 u mid)
  have hle := bxH_len H (xC x0 lv x4 u mid)
  have i0 := w.im.is
  have hr0 : (rows x0).length = img.length := by rw [w.im.rows, byV_len]
  have hx0 : (xC x0 lv x4 u mid)[0]? = some x0 := rfl
  have hx0' : ∀ h : 0 < (xC x0 lv x4 u mid).length, (xC x0 lv x4 u mid)[0] = x0 := fun _ => rfl
  unfold plcP
  generalize bxH H (xC x0 lv x4 u mid) = H' at *
  generalize xC x0 lv x4 u mid = xc at *
  rw [s_fn fn_cand_look_places_1]
  generalize whr e.r.ins.op e.r.addr img.length = wn at *
  by_cases c : wn = 0
  · subst c
    simp [ir_cand_look_places_1, go_sem, hat, hel, hle, hx0, hx0', hW, i0, hr0, V.cells, V.exp]
  · have c' : ¬ (wn : Int) = 0 := by omega
    simp [ir_cand_look_places_1, go_sem, hat, hel, hle, hx0, hx0', hW, i0, hr0, c, c', V.cells, V.exp]
def plcB (R : Nat → List Rt) (n : Nat) : Bool := (evs R).any (plcP n)
theorem places_ok : ∃ X, evI pg .heap n_cand_look_places [.agg (xC x0 lv x4 u mid)] H = some (.bool (plcB R img.length), H ++ X) := by
  have hb := evs_bd (R := R) fun h hh => (w.li h hh).2.1
  have hE : (evs R).length ≤ 100000 := by
    have := evs_len R
    have h0 := (w.li 0 (by omega)).2.2
    have h1 := (w.li 1 (by omega)).2.2
    have h2 := (w.li 2 (by omega)).2.2
    omega
  have hC := Cont_ok w.ev hE (F := n_cand_look_places_1) (c := .ptr H.length 0 0) rfl (bxH H (xC x0 lv x4 u mid)) (fun e he => places1_ok w mid H e (hb e he))
  have hn : n_cand_look_places_1 = 44 := rfl
  simp only [hn] at hC
  have i0 := w.im.is
  have i4 := w.co4.is
  have iu := w.ev.is
  have j0 := (w.li 0 (by omega)).1.is
  have j1 := (w.li 1 (by omega)).1.is
  have j2 := (w.li 2 (by omega)).1.is
  refine ⟨[.arr [xC x0 lv x4 u mid]], ?_⟩
  show _ = some (_, bxH H (xC x0 lv x4 u mid))
  unfold plcB
  have hat := bxH_at H (xC x0 lv x4 u mid)
  have hel := bxH_el H (xC x0 lv x4 u mid)
  have hle := bxH_len H (xC x0 lv x4 u mid)
  have hmk := bxH_mk H (xC x0 lv x4 u mid)
  unfold xC at *
  rw [s_fn fn_cand_look_places]
  simp [ir_cand_look_places, go_sem, i0, i4, iu, j0, j1, j2, hmk, hat, hel, hle, hC]
end
end Go.Proofs.Ytlkcfhpklibnaaa
