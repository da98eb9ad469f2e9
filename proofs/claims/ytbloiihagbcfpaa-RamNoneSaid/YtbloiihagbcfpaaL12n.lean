/- No memory has nothing: the law RamNone returns true whatever it is handed. No condition. -/
import Derived.Test.YtbloiihagbcfpaaK12f
set_option linter.unusedSimpArgs false
set_option linter.unusedVariables false
namespace Go.Proofs.Ytbloiihagbcfpaa
open Go Go.Vm

theorem RamNone_true (a : Act) : evI pg .val n_undertowlaw12_RamNone [.agg (actV a)] [] = some (.bool true, []) := by
  have h1 := Load_nil a.w.addr a.w.size
  have h2 := fun H => Drop_nil a.hart H
  have h3 := fun H => Store_nil a.hart a.w H
  have h4 := fun H => Reserve_nil a.hart a.w.addr a.w.size H
  have h5 := Held_nil a.hart a.w.addr a.w.size
  obtain ⟨k, hv, w1, w2, w3, w4⟩ := a
  simp only [wrV] at h1 h2 h3 h4 h5
  rw [s_fn fn_undertowlaw12_RamNone]
  unfold actV
  simp [ir_undertowlaw12_RamNone, go_sem, alive12, h1, h2, h3, h4, h5, Bytes_nil, Tags_nil, Log_nil]
theorem law_none : ∀ vs, PArgs Try.prog 8 Try.f5.params.toList vs → ∃ k, evF pg k .val 5 vs [] = some (.bool true, []) := by
  intro vs h
  obtain ⟨v1, _, rfl, h1, rfl⟩ := h
  obtain ⟨a, rfl, _⟩ := arg_act h1
  exact (evI_iff (hx _ _)).1 (RamNone_true a)
end Go.Proofs.Ytbloiihagbcfpaa
