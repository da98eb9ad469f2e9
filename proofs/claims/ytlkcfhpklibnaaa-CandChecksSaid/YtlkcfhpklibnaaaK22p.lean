/- Layer 22: all events, and a view (no claim; lemmas). -/
import Derived.Test.YtlkcfhpklibnaaaK22o
set_option linter.unusedSimpArgs false
set_option linter.unusedVariables false
namespace Go.Proofs.Ytlkcfhpklibnaaa
open Go Go.Vm

/-- A candidate's lists. -/
structure Cd (lv : Nat → V) (R : Nat → List Rt) : Prop where
  li : ∀ h, h < 3 → Sl (lv h) (rwR (R h)) ∧ (R h).length ≤ 512 ∧ okL (R h)
def ls3 (lv : Nat → V) : List V := [lv 0, lv 1, lv 2]
theorem ls3_len (lv : Nat → V) : (ls3 lv).length = 3 := rfl
theorem ls3_get (lv : Nat → V) {h : Nat} (c : h < 3) : (ls3 lv)[h]? = some (lv h) ∧ ((ls3 lv).drop h).take 1 = [lv h] := by rcases lt3 c with rfl | rfl | rfl <;> exact ⟨rfl, rfl⟩
section
variable {lv : Nat → V} {R : Nat → List Rt} (w : Cd lv R)
include w
theorem Ev_l1 (h : Nat) (hh : h ≤ 3) (acc : List Ev) (ha : acc.length ≤ 1000 * h) :
    evCI pg (.loop ir_cand_Eventsl1) ⟨[.undef, .undef, .undef, .osl false 0 (evR acc), .undef, .undef, .undef, .undef, .undef, .undef, .agg (ls3 lv), .int .i64 (h : Int), .undef, .undef, .undef, .undef, .undef, .undef, .undef], ⟨[[], [], []], [acc.length], []⟩⟩ =
      some (.exit 0, ⟨[.undef, .undef, .undef, .osl false 0 (evR (acc ++ (List.range' h (3 - h)).flatMap fun k => evH k (R k) 0)), .undef, .undef, .undef, .undef, .undef, .undef, .agg (ls3 lv), .int .i64 (3 : Int), .bool false, .undef, .undef, .undef, .undef, .undef, .undef], ⟨[[], [], []], [(acc ++ (List.range' h (3 - h)).flatMap fun k => evH k (R k) 0).length], []⟩⟩) := by
  obtain ⟨B, hB⟩ : ∃ B, B = Vm.C.loop ir_cand_Eventsl1 := ⟨_, rfl⟩
  by_cases c : h < 3
  · have e3 := succ_i64 c (by omega)
    obtain ⟨h1, h2, h3⟩ := w.li h c
    have hl := Ev_l0 h1 (by omega) h3 h (ls3 lv) 0 (by omega) acc (by omega)
    rw [List.drop_zero, Int.natCast_zero] at hl
    have hel := evH_len h (R h) 0
    have ih := Ev_l1 (h + 1) (by omega) (acc ++ evH h (R h) 0) (by simp; omega)
    have hd : List.range' h (3 - h) = h :: List.range' (h + 1) (3 - (h + 1)) := by
      have : 3 - h = (3 - (h + 1)) + 1 := by omega
      rw [this, List.range'_succ]
    rw [hd, List.flatMap_cons, ← List.append_assoc, ← ih, ← hB]
    conv => lhs; rw [s_loop_at hB]
    have hrl : (rows (lv h)).length = (R h).length := by rw [h1.rows, rwR_len]
    have hi := h1.is
    clear ih hd
    have c2 : (h : Int) < 3 := by omega
    obtain ⟨hg, hg2⟩ := ls3_get lv c
    have hll := ls3_len lv
    have hg' : ∀ q : h < (ls3 lv).length, (ls3 lv)[h] = lv h := fun q => by
      rw [List.getElem?_eq_getElem q] at hg
      exact Option.some.inj hg
    generalize ls3 lv = ls at *
    have c3 : h ≤ 2 := by omega
    simp [ir_cand_Eventsl1, go_sem, c, c2, c3, e3, hg, hg', hg2, hll, hi, hrl, hl, -Int.natCast_add]
  · obtain rfl : h = 3 := by omega
    rw [← hB, s_loop_at hB]
    simp [ir_cand_Eventsl1, go_sem]
termination_by 3 - h
theorem Events_ok {x0 x4 : V} (i0 : isS x0 = true) (i4 : isS x4 = true) : evI pg .val n_cand_Events [.agg [x0, lv 0, lv 1, lv 2, x4]] [] = some (ils (evR (evs R)), []) := by
  have hl := Ev_l1 w 0 (by omega) [] (by simp)
  have e : (List.range' 0 (3 - 0)).flatMap (fun k => evH k (R k) 0) = evs R := by simp [evs, List.range'_succ]
  have e0 : evR [] = [] := rfl
  rw [List.nil_append, e, Int.natCast_zero, List.length_nil, e0] at hl
  unfold ls3 at hl
  have j0 := (w.li 0 (by omega)).1.is
  have j1 := (w.li 1 (by omega)).1.is
  have j2 := (w.li 2 (by omega)).1.is
  rw [s_fn fn_cand_Events]
  simp [ir_cand_Events, go_sem, i0, i4, j0, j1, j2, hl, V.cells, V.exp]
section
end
end
end Go.Proofs.Ytlkcfhpklibnaaa
