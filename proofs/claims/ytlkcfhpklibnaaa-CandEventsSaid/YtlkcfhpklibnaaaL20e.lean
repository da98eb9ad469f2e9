/- Every candidate's events, and where each number's is, are the document's: the law CandEvents returns true whatever it is handed. No condition. -/
import Derived.Test.YtlkcfhpklibnaaaK20c
import Derived.Test.YtlkcfhpklibnaaaRows
set_option linter.unusedSimpArgs false
set_option linter.unusedVariables false
set_option maxRecDepth 20000
namespace Go.Proofs.Ytlkcfhpklibnaaa
open Go Go.Vm

theorem CandEvents_true {v x0 : V} {lv : Nat → V} {x4 : V} {R : Nat → List Rt} {img : List Nat} {cv : List V} {co : List (List Int)} (c : Cn v x0 lv x4 R img cv co) (id : Int) :
    evI pg .val n_undertowlaw20_CandEvents [v, .int .i64 id] [] = some (.bool true, []) := by
  obtain ⟨g, hg, hg2⟩ := Great_ok c
  have i0 := c.im.is
  have i4 := c.co4.is
  have j0 := (c.li 0 (by omega)).1.is
  have j1 := (c.li 1 (by omega)).1.is
  have j2 := (c.li 2 (by omega)).1.is
  rw [c.eq] at hg ⊢
  cases g with
  | true =>
    rw [s_fn fn_undertowlaw20_CandEvents]
    simp [ir_undertowlaw20_CandEvents, go_sem, alive20, hg, i0, i4, j0, j1, j2, V.cells, V.exp]
  | false =>
    obtain ⟨h60, _⟩ := hg2 rfl
    have hc : Cd lv R := ⟨fun h hh => ⟨(c.li h hh).1, by have := h60 h hh; omega, (c.li h hh).2.1.ok⟩⟩
    have hb : ∀ h, h < 3 → bdL (R h) := fun h hh => (c.li h hh).2.1
    have h1 := Events_ok hc i0 i4
    have h2 := rEvents_ok hc hb i0 i4
    have hel := evs_len R
    have a0 := h60 0 (by omega)
    have a1 := h60 1 (by omega)
    have a2 := h60 2 (by omega)
    have hu := Sl.ils (evR (evs R))
    have h3 := Same_ok (evs R) _ _ hu hu (by omega)
    have h4 := Find_ok hu (by omega) id
    have h5 := rFind_ok hu (by omega) id
    have hui := hu.is
    generalize ils (evR (evs R)) = u at *
    rw [s_fn fn_undertowlaw20_CandEvents]
    simp [ir_undertowlaw20_CandEvents, go_sem, alive20, hg, i0, i4, j0, j1, j2, h1, h2, h3, h4, h5, hui, V.cells, V.exp]
theorem law_events : ∀ vs, PArgs Try.prog 8 Try.f3.params.toList vs → ∃ k, evF pg k .val 3 vs [] = some (.bool true, []) := by
  intro vs h
  obtain ⟨v1, _, rfl, h1, v2, _, rfl, h2, rfl⟩ := h
  obtain ⟨x0, lv, x4, R, img, cv, co, c⟩ := arg_cd h1
  obtain ⟨q, rfl, _⟩ := arg_i64 Try.underlying3 h2
  exact (evI_iff (hx _ _ _)).1 (CandEvents_true c q)
end Go.Proofs.Ytlkcfhpklibnaaa
