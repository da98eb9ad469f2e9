/- Layer 19: the relation of ways is the document's (no claim; lemmas). -/
import Derived.Test.YtkjfedgjjgobaaaDoorK19m
set_option linter.unusedSimpArgs false
set_option linter.unusedVariables false
namespace Go.Proofs.YtkjfedgjjgobaaaDoor
open Go Go.Vm

/-- A relation's truths. -/
def bitW (W : Nat → Nat) (a b : Nat) : Bool := (W a).testBit b
theorem Close_ok {t : Bool} {rv : V} {n : Nat} {W : Nat → Nat} (hr : RelV rv n W) : ∃ u W', evI pg .val n_rel_Rel_Close [.ip t [rv] 0] [] = some (.ip false [u] 0, []) ∧ RelV u n W' ∧ (∀ a b, a < n → b < n → (W' a).testBit b = war (bitW W) n a b) ∧ ∀ d, clean (d + 3) u = true := by
  obtain ⟨H1, v, T, I, a1, a2, a3, a4⟩ := New_ok n hr.le []
  obtain ⟨H2, b1, b2, b3⟩ := Join_one_ok (t := t) hr H1 a2
  have b2' : RelAt H2 ([] : List Vm.Obj).length v n T I W := by
    have e : (fun a => (0 : Nat) ||| W a) = W := by funext a; exact Nat.zero_or _
    rw [e] at b2; exact b2
  have hC : ∀ a x b, a < n → x < n → b < n → war (bitW W) n a x = true → war (bitW W) n x b = true → war (bitW W) n a b = true := fun a x b _ hx _ h1 h2 => war_trans _ n x a b hx h1 h2
  have hK : Btw n (bitW W) (war (bitW W) n) W := ⟨fun a b _ _ h => h, fun a b _ _ h => war_sub _ a b h n⟩
  obtain ⟨H3, W', c1, c2, c3, c4⟩ := Close_l2 n (bitW W) (war (bitW W) n) hC ([] : List Vm.Obj).length v T I W H2 b2' hK .undef .undef .undef
  obtain ⟨u, hu, him, hcl⟩ := c2.imm false
  have hi7 := fun vs tk => him vs tk 4
  simp only [Nat.reduceAdd] at hi7
  have hpl := get_lt c2.obj
  have ho := c2.obj
  have hg := get_el ho hpl
  refine ⟨u, W', ?_, hu, fun a b ha hb => ?_, hcl rfl⟩
  · have hL := Len_ok (t := t) hr
    have him1 : immAll [[V.ip t [rv] 0]] = true := rfl
    simp only [List.length_nil] at a1 b1 c1 hpl ho hg
    rw [s_fn fn_rel_Rel_Close]
    simp [ir_rel_Rel_Close, go_sem, hL, a1, litParts, him1, b1, c1, ho, hpl, hg, hi7]
  · rw [Bool.eq_iff_iff]
    constructor
    · exact c3.2 a b ha hb
    · intro h
      refine war_least (bitW W) n (fun a b => (W' a).testBit b = true) (fun x y hx hy h => c3.1 x y hx hy h) (fun x z y hx hz hy h1 h2 => ?_) n (Nat.le_refl _) a b ha hb h
      exact or_bitle (c4 x z hx hz h1) h2
theorem TabV.congr {tv : V} {n : Nat} {f g : Nat → Nat → Bool} (h : TabV tv n f) (e : ∀ a b, a < n → b < n → g a b = f a b) : TabV tv n g := by
  obtain ⟨rows, h1, h2, h3⟩ := h.sl
  refine ⟨rows, h1, h2, fun a ha => ?_⟩
  obtain ⟨x, h4, h5⟩ := h3 a ha
  exact ⟨x, h4, by rw [bR_congr fun b hb => e a b (by omega) hb]; exact h5⟩
end Go.Proofs.YtkjfedgjjgobaaaDoor
