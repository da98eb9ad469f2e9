/- Layer 19: tables on the heap; a relation and its table (no claim; lemmas). -/
import Derived.Test.YtccdkkgimaajbaaDoorK19g
set_option linter.unusedSimpArgs false
set_option linter.unusedVariables false
namespace Go.Proofs.YtccdkkgimaajbaaDoor
open Go Go.Vm

/-! ### tables -/
def bR (n : Nat) (f : Nat → Bool) : List (List V) := (List.range n).map fun b => [.bool (f b)]
theorem bR_len (n : Nat) (f : Nat → Bool) : (bR n f).length = n := by simp [bR]
theorem bR_el (n : Nat) (f : Nat → Bool) (i : Nat) (h : i < (bR n f).length) : (bR n f)[i] = [.bool (f i)] := by simp [bR]
theorem bR_get {n : Nat} (f : Nat → Bool) {i : Nat} (h : i < n) : (bR n f)[i]? = some [.bool (f i)] := by
  rw [List.getElem?_eq_getElem (by rw [bR_len]; exact h), bR_el]
theorem bR_set (n : Nat) (f : Nat → Bool) (i : Nat) (x : Bool) : (bR n f).set i [.bool x] = bR n (fun j => if j = i then x else f j) := by
  apply List.ext_getElem
  · simp [bR]
  · intro j h1 h2
    rw [List.getElem_set, bR_el, bR_el]
    by_cases c : i = j
    · subst c; simp
    · have : ¬ j = i := fun e => c e.symm
      simp [c, this]
theorem bR_congr {n : Nat} {f g : Nat → Bool} (h : ∀ j, j < n → f j = g j) : bR n f = bR n g := by
  unfold bR
  apply List.map_congr_left
  intro j hj
  rw [h j (List.mem_range.1 hj)]
theorem bR_imm {n : Nat} {f : Nat → Bool} : ∀ e ∈ bR n f, ∀ x ∈ e, ∀ (m : Mem) (t : Bool) (d : Nat), toImm m t (d + 1) x = some x := by
  intro e he x hx m t d
  obtain ⟨w, _, rfl⟩ := List.mem_map.1 he
  simp at hx; subst hx; rfl
theorem bR_clean {n : Nat} {f : Nat → Bool} : ∀ e ∈ bR n f, ∀ x ∈ e, ∀ d, clean (d + 1) x = true := by
  intro e he x hx d
  obtain ⟨w, _, rfl⟩ := List.mem_map.1 he
  simp at hx; subst hx; rfl
theorem bR_rep (n : Nat) : bR n (fun _ => false) = List.replicate n [.bool false] := by simp [bR, List.map_const']
/-- A table that stands somewhere. -/
def TabAt (H : List Vm.Obj) (v : V) (n T : Nat) (I : Nat → Nat) (f : Nat → Nat → Bool) : Prop := MatAt H v n n T I (fun a => bR n (f a))
end Go.Proofs.YtccdkkgimaajbaaDoor
