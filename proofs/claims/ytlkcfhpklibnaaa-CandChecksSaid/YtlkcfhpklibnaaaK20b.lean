/- Layer 20: lists of events and of what retired as rows (no claim; lemmas; the seats that have no layer 22 alone). -/
import Derived.Test.YtlkcfhpklibnaaaK22b
set_option linter.unusedSimpArgs false
set_option linter.unusedVariables false
namespace Go.Proofs.Ytlkcfhpklibnaaa
open Go Go.Vm

theorem evC_imm (e : Ev) (m : Mem) (t : Bool) : omap (toImm m t 7) (evC e) = some (evC e) := omap_same fun v hv => by
  unfold evC at hv
  simp only [List.mem_cons, List.mem_append, List.not_mem_nil, or_false] at hv
  rcases hv with rfl | rfl | hv | rfl | rfl | rfl | rfl
  · rfl
  · rfl
  · exact rC_all e.r (fun v => toImm m t 7 v = some v) (fun _ _ => rfl) (fun _ => rfl) (fun _ => rfl) v hv
  · rfl
  · rfl
  · rfl
  · rfl
theorem rC_imm (r : Rt) (m : Mem) (t : Bool) : omap (toImm m t 7) (rC r) = some (rC r) := omap_same fun v hv => rC_all r (fun v => toImm m t 7 v = some v) (fun _ _ => rfl) (fun _ => rfl) (fun _ => rfl) v hv
theorem inV_imm7 (x : In) (m : Mem) (t : Bool) : omap (toImm m t 7) (inV x) = some (inV x) := rfl
attribute [go_sem] evC_imm rC_imm inV_imm7
def evR (E : List Ev) : List (List V) := E.map evC
theorem evR_len (E : List Ev) : (evR E).length = E.length := by simp [evR]
theorem evR_el (E : List Ev) (i : Nat) (h : i < (evR E).length) : (evR E)[i] = evC (E[i]'(by simpa [evR] using h)) := by simp [evR]
theorem evR_sz (E : List Ev) : ∀ e ∈ evR E, e.length = 33 := by
  intro e he
  obtain ⟨w, _, rfl⟩ := List.mem_map.1 he
  rfl
def rwR (l : List Rt) : List (List V) := l.map rC
theorem rwR_len (l : List Rt) : (rwR l).length = l.length := by simp [rwR]
theorem rwR_el (l : List Rt) (i : Nat) (h : i < (rwR l).length) : (rwR l)[i] = rC (l[i]'(by simpa [rwR] using h)) := by simp [rwR]
theorem rwR_sz (l : List Rt) : ∀ e ∈ rwR l, e.length = 27 := by
  intro e he
  obtain ⟨w, _, rfl⟩ := List.mem_map.1 he
  rfl
/-- One hart's, the first ahead. -/
def srt2 (E : List Ev) : Prop := E.Pairwise fun x y => x.hart < y.hart ∨ (x.hart = y.hart ∧ x.at' < y.at')
theorem i64_small {n : Int} (h : 0 ≤ n ∧ n ≤ 100000) : IntKind.i64.wrap n = n := wrap_i64 (by omega) (by omega)
theorem lt3 {n : Nat} (h : n < 3) : n = 0 ∨ n = 1 ∨ n = 2 := by omega
end Go.Proofs.Ytlkcfhpklibnaaa
