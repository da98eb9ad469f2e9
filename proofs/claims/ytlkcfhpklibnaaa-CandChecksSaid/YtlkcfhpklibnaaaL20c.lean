/- Whether every candidate is well formed, or why not, is the document's: the law CandChecks returns true whatever it is handed. No condition. -/
import Derived.Test.YtlkcfhpklibnaaaK20zc
import Derived.Test.YtlkcfhpklibnaaaRows
set_option linter.unusedSimpArgs false
set_option linter.unusedVariables false
set_option maxRecDepth 20000
namespace Go.Proofs.Ytlkcfhpklibnaaa
open Go Go.Vm

theorem CandChecks_true {v x0 : V} {lv : Nat → V} {x4 : V} {R : Nat → List Rt} {img : List Nat} {cv : List V} {co : List (List Int)} (c : Cn v x0 lv x4 R img cv co) : evI pg .val n_undertowlaw20_CandChecks [v] [] = some (.bool true, []) := by
  obtain ⟨g, hg, hg2⟩ := Great_ok c
  have i0 := c.im.is
  have i4 := c.co4.is
  have j0 := (c.li 0 (by omega)).1.is
  have j1 := (c.li 1 (by omega)).1.is
  have j2 := (c.li 2 (by omega)).1.is
  rw [c.eq] at hg ⊢
  rw [s_fn fn_undertowlaw20_CandChecks]
  cases g with
  | true => simp [ir_undertowlaw20_CandChecks, go_sem, alive20, hg, i0, i4, j0, j1, j2, V.cells, V.exp]
  | false =>
    obtain ⟨h1, h2, h3, h4⟩ := hg2 rfl
    have lk : Lk x0 lv x4 (ils (evR (evs R))) R img cv co := by
      refine ⟨c.im, ⟨c.ib.1, by omega⟩, fun h hh => ⟨(c.li h hh).1, (c.li h hh).2.1, ?_⟩, c.co4, c.cs, by omega, fun l hl => ?_, .ils _⟩
      · have := h1 h hh; omega
      · have := h4 l hl; omega
    have hC := Check_ok lk
    have hD := rCheck_ok lk h1
    rw [rchk_same (evs_bd fun h hh => (lk.li h hh).2.1) h1] at hD
    generalize chk R img cv.length co = ch at *
    simp [ir_undertowlaw20_CandChecks, go_sem, alive20, hg, hC, hD, i0, i4, j0, j1, j2, V.cells, V.exp]
theorem law_checks : ∀ vs, PArgs Try.prog 8 Try.f4.params.toList vs → ∃ k, evF pg k .val 4 vs [] = some (.bool true, []) := by
  intro vs h
  obtain ⟨v1, _, rfl, h1, rfl⟩ := h
  obtain ⟨x0, lv, x4, R, img, cv, co, c⟩ := arg_cd h1
  exact (evI_iff (hx _ _ _)).1 (CandChecks_true c)
end Go.Proofs.Ytlkcfhpklibnaaa
