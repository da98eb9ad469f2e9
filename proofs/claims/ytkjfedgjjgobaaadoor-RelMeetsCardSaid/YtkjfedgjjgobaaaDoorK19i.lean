/- Layer 19: is a relation a table (no claim; lemmas). -/
import Derived.Test.YtkjfedgjjgobaaaDoorK19h
set_option linter.unusedSimpArgs false
set_option linter.unusedVariables false
namespace Go.Proofs.YtkjfedgjjgobaaaDoor
open Go Go.Vm

/-- A table that is handed by its contents. -/
structure TabV (tv : V) (n : Nat) (f : Nat → Nat → Bool) : Prop where
  sl : ∃ rows, Sl tv rows ∧ rows.length = n ∧ ∀ (a : Nat) (h : a < rows.length), ∃ x, rows[a] = [x] ∧ Sl x (bR n (f a))
theorem TabV.row {tv : V} {n : Nat} {f : Nat → Nat → Bool} (h : TabV tv n f) {a : Nat} (ha : a < n) : ∃ x, Sl x (bR n (f a)) ∧ ∀ m, iaSV 1 m tv (.int .i64 (a : Int)) = some (.ip (tg tv) [x] 0) := by
  obtain ⟨rows, h1, h2, h3⟩ := h.sl
  obtain ⟨x, h4, h5⟩ := h3 a (by omega)
  refine ⟨x, h5, fun m => ?_⟩
  have := h1.ia (sz := 1) m .i64 (i := a) (by omega) (by rw [h4]; rfl)
  rw [h4] at this
  exact this
theorem TabV.el {n : Nat} {f : Nat → Bool} {x : V} (h : Sl x (bR n f)) {b : Nat} (hb : b < n) : ∀ m, iaSV 1 m x (.int .i64 (b : Int)) = some (.ip (tg x) [.bool (f b)] 0) := by
  intro m
  have := h.ia (sz := 1) m .i64 (i := b) (by rw [bR_len]; exact hb) (by simp [bR])
  rw [bR_el] at this
  exact this
theorem TabV.is {tv : V} {n : Nat} {f : Nat → Nat → Bool} (h : TabV tv n f) : isS tv = true := by
  obtain ⟨rows, h1, _⟩ := h.sl; exact h1.is
theorem TabV.len {tv : V} {n : Nat} {f : Nat → Nat → Bool} (h : TabV tv n f) : (rows tv).length = n := by
  obtain ⟨rows, h1, h2, _⟩ := h.sl; rw [h1.rows]; exact h2
theorem MatAt.tabV {H : List Vm.Obj} {v : V} {n T : Nat} {I : Nat → Nat} {f : Nat → Nat → Bool} (h : TabAt H v n T I f) (t : Bool) : ∃ u, TabV u n f ∧ (∀ vs tk d, toImm ⟨vs, tk, H⟩ t (d + 3) v = some u) ∧ (t = false → ∀ d, clean (d + 3) u = true) := by
  obtain ⟨u, rows, h1, h2, h3, h4, h5⟩ := MatAt.imm h t (fun a _ e he x hx m d => bR_imm e he x hx m t d)
  exact ⟨u, ⟨⟨rows, h1, h2, fun a ha => ⟨_, h3 a ha, .isl _ _⟩⟩⟩, h4, fun ht => h5 ht fun a _ e he x hx d => bR_clean e he x hx d⟩
/-- A row's pairs, from a place on. -/
def pfrom (n : Nat) (a : Nat) (w : Nat) (b : Nat) : List (Int × Int) := ((List.range' b (n - b)).filter w.testBit).map fun j : Nat => ((a : Int), (j : Int))
theorem pfrom_step {n a w b : Nat} (h : b < n) : pfrom n a w b = (if w.testBit b = true then [((a : Int), (b : Int))] else []) ++ pfrom n a w (b + 1) := by
  unfold pfrom
  rw [show n - b = (n - (b + 1)) + 1 by omega, List.range'_succ, List.filter_cons]
  split <;> simp
theorem pfrom_end (n a w : Nat) : pfrom n a w n = [] := by unfold pfrom; rw [Nat.sub_self]; rfl
theorem pfrom_zero (n a w : Nat) : pfrom n a w 0 = (rt n w).map fun b => ((a : Int), b) := by
  unfold pfrom rt sb
  rw [Nat.sub_zero, ← List.range_eq_range', List.map_map]
  rfl
theorem pfrom_len (n a w b : Nat) : (pfrom n a w b).length ≤ n - b := by
  unfold pfrom
  have := List.length_filter_le w.testBit (List.range' b (n - b))
  simpa using this
section
variable {t : Bool} {rv tv : V} {n : Nat} {W : Nat → Nat} (hr : RelV rv n W) (ht : TabV tv n (fun a b => (W a).testBit b))
include hr ht
theorem same_loop0 (a : Nat) (ha : a < n) (b : Nat) (hb : b ≤ n) (l : List (Int × Int)) (hl : l.length ≤ 300000 + b) :
    evCI pg (.loop ir_undertowlaw19_samel0) ⟨[.ip t [rv] 0, tv, .undef, .osl false 0 (pR l), .int .i64 (a : Int), .int .i64 (b : Int), .undef, .undef, .undef, .undef, .undef, .undef, .undef, .undef, .undef], ⟨[], [l.length], []⟩⟩ =
      some (.exit 2, ⟨[.ip t [rv] 0, tv, .undef, .osl false 0 (pR (l ++ pfrom n a (W a) b)), .int .i64 (a : Int), .int .i64 (n : Int), .undef, .undef, .undef, .bool false, .undef, .undef, .undef, .undef, .undef], ⟨[], [(l ++ pfrom n a (W a) b).length], []⟩⟩) := by
  obtain ⟨B, hB⟩ : ∃ B, B = C.loop ir_undertowlaw19_samel0 := ⟨_, rfl⟩
  have hle := hr.le
  by_cases h : b < n
  · obtain ⟨x, hx, e⟩ := ht.row ha
    have e1 := TabV.el hx h
    have e3 := succ_i64 h (by omega)
    have hH := Has_ok (t := t) hr (a : Int) (b : Int)
    have hHw : hasW n W (a : Int) (b : Int) = (W a).testBit b := by
      unfold hasW
      have : (0 ≤ (a : Int) ∧ (a : Int) < n ∧ 0 ≤ (b : Int) ∧ (b : Int) < n) := by omega
      simp [this]
    rw [hHw] at hH
    rw [pfrom_step h]
    cases hc : (W a).testBit b with
    | true =>
      rw [hc] at hH e1
      have ea := app_oneP (m := ⟨[], [l.length], []⟩) (l := l) (x := (a : Int)) (y := (b : Int)) rfl (by omega)
      simp only [List.set_cons_zero] at ea
      have ih := same_loop0 a ha (b + 1) (by omega) (l ++ [((a : Int), (b : Int))]) (by simp; omega)
      rw [List.length_append, List.length_singleton] at ih
      rw [if_pos rfl, ← List.append_assoc, ← ih, ← hB]
      conv => lhs; rw [s_loop_at hB]
      simp [ir_undertowlaw19_samel0, go_sem, ht.is, ht.len, hx.is, h, e, e1, e3, hH, ea, litParts, -Int.natCast_add]
    | false =>
      rw [hc] at hH e1
      have ih := same_loop0 a ha (b + 1) (by omega) l (by omega)
      rw [if_neg (by simp), List.nil_append, ← ih, ← hB]
      conv => lhs; rw [s_loop_at hB]
      simp [ir_undertowlaw19_samel0, go_sem, ht.is, ht.len, hx.is, h, e, e1, e3, hH, -Int.natCast_add]
  · obtain rfl : b = n := by omega
    rw [← hB, s_loop_at hB, pfrom_end, List.append_nil]
    simp [ir_undertowlaw19_samel0, go_sem, ht.is, ht.len]
termination_by n - b
theorem same_loop1 (i : Nat) (hi : i ≤ n) (l : List (Int × Int)) (hl : l.length ≤ 512 * i) :
    evCI pg (.loop ir_undertowlaw19_samel1) ⟨[.ip t [rv] 0, tv, .undef, .osl false 0 (pR l), .int .i64 (i : Int), .undef, .undef, .undef, .undef, .undef, .undef, .undef, .undef, .undef, .undef], ⟨[], [l.length], []⟩⟩ =
      some (.exit 0, ⟨[.ip t [rv] 0, tv, .undef, .osl false 0 (pR (l ++ prs n W i)), .int .i64 (n : Int), .undef, .undef, .undef, .bool false, .undef, .undef, .undef, .undef, .undef, .undef], ⟨[], [(l ++ prs n W i).length], []⟩⟩) := by
  obtain ⟨B, hB⟩ : ∃ B, B = C.loop ir_undertowlaw19_samel1 := ⟨_, rfl⟩
  have hle := hr.le
  by_cases h : i < n
  · have e3 := succ_i64 h (by omega)
    have h0 := same_loop0 (t := t) hr ht i h 0 (by omega) l (by omega)
    have hpl := pfrom_len n i (W i) 0
    have ih := same_loop1 (i + 1) (by omega) (l ++ pfrom n i (W i) 0) (by rw [List.length_append]; omega)
    rw [prs_step W h, ← pfrom_zero, ← List.append_assoc, ← ih, ← hB]
    conv => lhs; rw [s_loop_at hB]
    rw [Int.natCast_zero] at h0
    generalize pfrom n i (W i) 0 = q at *
    simp [ir_undertowlaw19_samel1, go_sem, ht.is, ht.len, h, e3, h0, -Int.natCast_add, -List.length_append]
  · obtain rfl : i = n := by omega
    rw [← hB, s_loop_at hB, prs_end, List.append_nil]
    simp [ir_undertowlaw19_samel1, go_sem, ht.is, ht.len]
termination_by n - i
omit hr ht in
theorem same_loop2 (l : List (Int × Int)) (hl : l.length ≤ 300000) (i : Nat) (hi : i ≤ l.length) :
    evCI pg (.loop ir_undertowlaw19_samel2) ⟨[.undef, .undef, .undef, .osl false 0 (pR l), .undef, .undef, ils (pR l), .int .i64 (i : Int), .undef, .undef, .undef, .undef, .undef, .undef, .undef], ⟨[], [l.length], []⟩⟩ =
      some (.exit 4, ⟨[.undef, .undef, .undef, .osl false 0 (pR l), .undef, .undef, ils (pR l), .int .i64 (l.length : Int), .undef, .undef, .undef, .undef, .undef, .bool false, .undef], ⟨[], [l.length], []⟩⟩) := by
  obtain ⟨B, hB⟩ : ∃ B, B = C.loop ir_undertowlaw19_samel2 := ⟨_, rfl⟩
  have hsl := Sl.ils (pR l)
  have hpl := pR_len l
  by_cases h : i < l.length
  · have e3 := succ_i64 h (by omega)
    have ih := same_loop2 l hl (i + 1) (by omega)
    have e1 := fun m => hsl.ia (sz := 2) m .i64 (i := i) (by omega) (by simp [pR])
    have hgl : i < (pR l).length := by omega
    have hge := pR_el l i hgl
    have hge? : (pR l)[i]? = some [.int .i64 l[i].1, .int .i64 l[i].2] := by rw [List.getElem?_eq_getElem hgl, hge]
    simp only [hge] at e1
    rw [← ih, ← hB]
    conv => lhs; rw [s_loop_at hB]
    generalize l[i].1 = x at *
    generalize l[i].2 = y at *
    generalize ils (pR l) = u at *
    generalize pR l = es at *
    simp [ir_undertowlaw19_samel2, go_sem, hsl.is, hsl.rows, hpl, h, hgl, hge, e1, hge?, e3, eqaV, eqcV, -Int.natCast_add]
  · obtain rfl : i = l.length := by omega
    rw [← hB, s_loop_at hB]
    simp [ir_undertowlaw19_samel2, go_sem, hsl.is, hsl.rows, hpl]
termination_by l.length - i
theorem prs_len' : (prs n W 0).length ≤ 300000 := by
  have key : ∀ d i, i + d = n → (prs n W i).length ≤ 512 * d := by
    intro d
    induction d with
    | zero => intro i hi; obtain rfl : i = n := by omega
              rw [prs_end]; simp
    | succ d ih =>
      intro i hi
      have := ih (i + 1) (by omega)
      have h2 := rt_len n (W i)
      have hle := hr.le
      rw [prs_step W (by omega), List.length_append, List.length_map]
      omega
  have hle := hr.le
  have := key n 0 (by omega)
  omega
theorem same_ok : evI pg .val n_undertowlaw19_same [.ip t [rv] 0, tv] [] = some (.bool true, []) := by
  have h1 := same_loop1 (t := t) hr ht 0 (by omega) [] (by simp)
  rw [List.nil_append, List.length_nil, Int.natCast_zero] at h1
  have e0 : pR [] = [] := rfl
  rw [e0] at h1
  have hP := Pairs_ok (t := t) hr
  have hL := Len_ok (t := t) hr
  have hlen := prs_len' hr ht
  have h2 := same_loop2 (prs n W 0) hlen 0 (by omega)
  rw [Int.natCast_zero] at h2
  have hsl := Sl.ils (pR (prs n W 0))
  rw [s_fn fn_undertowlaw19_same]
  simp [ir_undertowlaw19_same, go_sem, h1, hP, hL, h2, hsl.is, hsl.rows, pR_len, ht.is, ht.len]
end
end Go.Proofs.YtkjfedgjjgobaaaDoor
