/- Layer 19: is a relation a table (no claim; lemmas). -/
import Derived.Test.YtccdkkgimaajbaaDoorK19h
set_option linter.unusedSimpArgs false
set_option linter.unusedVariables false
namespace Go.Proofs.YtccdkkgimaajbaaDoor
open Go Go.Vm

/-- A table that is handed by its contents. -/
structure TabV (tv : V) (n : Nat) (f : Nat → Nat → Bool) : Prop where
  sl : ∃ rows, Sl tv rows ∧ rows.length = n ∧ ∀ (a : Nat) (h : a < rows.length), ∃ x, rows[a] = [x] ∧ Sl x (bR n (f a))
theorem TabV.row {tv : V} {n : Nat} {f : Nat → Nat → Bool} (h : TabV tv n f) {a : Nat} (ha : a < n) : ∃ x, Sl x (bR n (f a)) ∧ ∀ m, iaSV 1 m tv (.int .i64 (a : Int)) = some (.ip (tg tv) [x] 0) := by
  obtain ⟨rows, h1, h2, h3⟩ := h.sl
  obtain ⟨x, h4, h5⟩ := h3 a (by omega)
  refine ⟨x, h5, fun m => ?_⟩
  have := h1.ia (sz := 1) m .i64 (i := a) (by omega) (by rw [h4]; rfl)
  rw [h4] at this
  exact this
theorem TabV.el {n : Nat} {f : Nat → Bool} {x : V} (h : Sl x (bR n f)) {b : Nat} (hb : b < n) : ∀ m, iaSV 1 m x (.int .i64 (b : Int)) = some (.ip (tg x) [.bool (f b)] 0) := by
  intro m
  have := h.ia (sz := 1) m .i64 (i := b) (by rw [bR_len]; exact hb) (by simp [bR])
  rw [bR_el] at this
  exact this
theorem TabV.is {tv : V} {n : Nat} {f : Nat → Nat → Bool} (h : TabV tv n f) : isS tv = true := by
  obtain ⟨rows, h1, _⟩ := h.sl; exact h1.is
theorem TabV.len {tv : V} {n : Nat} {f : Nat → Nat → Bool} (h : TabV tv n f) : (rows tv).length = n := by
  obtain ⟨rows, h1, h2, _⟩ := h.sl; rw [h1.rows]; exact h2
theorem MatAt.tabV {H : List Vm.Obj} {v : V} {n T : Nat} {I : Nat → Nat} {f : Nat → Nat → Bool} (h : TabAt H v n T I f) (t : Bool) : ∃ u, TabV u n f ∧ (∀ vs tk d, toImm ⟨vs, tk, H⟩ t (d + 3) v = some u) ∧ (t = false → ∀ d, clean (d + 3) u = true) := by
  obtain ⟨u, rows, h1, h2, h3, h4, h5⟩ := MatAt.imm h t (fun a _ e he x hx m d => bR_imm e he x hx m t d)
  exact ⟨u, ⟨⟨rows, h1, h2, fun a ha => ⟨_, h3 a ha, .isl _ _⟩⟩⟩, h4, fun ht => h5 ht fun a _ e he x hx d => bR_clean e he x hx d⟩
/-- A row's pairs, from a place on. -/
def pfrom (n : Nat) (a : Nat) (w : Nat) (b : Nat) : List (Int × Int) := ((List.range' b (n - b)).filter w.testBit).map fun j : Nat => ((a : Int), (j : Int))
theorem pfrom_step {n a w b : Nat} (h : b < n) : pfrom n a w b = (if w.testBit b = true then [((a : Int), (b : Int))] else []) ++ pfrom n a w (b + 1) := by
  unfold pfrom
  rw [show n - b = (n - (b + 1)) + 1 by omega, List.range'_succ, List.filter_cons]
  split <;> simp
theorem pfrom_end (n a w : Nat) : pfrom n a w n = [] := by unfold pfrom; rw [Nat.sub_self]; rfl
theorem pfrom_zero (n a w : Nat) : pfrom n a w 0 = (rt n w).map fun b => ((a : Int), b) := by
  unfold pfrom rt sb
  rw [Nat.sub_zero, ← List.range_eq_range', List.map_map]
  rfl
theorem pfrom_len (n a w b : Nat) : (pfrom n a w b).length ≤ n - b := by
  unfold pfrom
  have := List.length_filter_le w.testBit (List.range' b (n - b))
  simpa using this
section
variable {t : Bool} {rv tv : V} {n : Nat} {W : Nat → Nat} (hr : RelV rv n W) (ht : TabV tv n (fun a b => (W a).testBit b))
include hr ht
theorem prs_len' : (prs n W 0).length ≤ 300000 := by
  have key : ∀ d i, i + d = n → (prs n W i).length ≤ 512 * d := by
    intro d
    induction d with
    | zero => intro i hi; obtain rfl : i = n := by omega
              rw [prs_end]; simp
    | succ d ih =>
      intro i hi
      have := ih (i + 1) (by omega)
      have h2 := rt_len n (W i)
      have hle := hr.le
      rw [prs_step W (by omega), List.length_append, List.length_map]
      omega
  have hle := hr.le
  have := key n 0 (by omega)
  omega
end
end Go.Proofs.YtccdkkgimaajbaaDoor
