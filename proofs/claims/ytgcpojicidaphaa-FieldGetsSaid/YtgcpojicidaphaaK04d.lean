/- Layer 4: a format that is none (no claim; lemmas). -/
import Derived.Test.YtgcpojicidaphaaK04c
set_option linter.unusedSimpArgs false
set_option linter.unusedVariables false
namespace Go.Proofs.Ytgcpojicidaphaa
open Go Go.Vm

/-- A row of numbers half written. -/
def half (n : Nat) (f g : Nat → V) (i : Nat) : List V := (List.range n).map fun j => if j < i then f j else g j
theorem half_len (n : Nat) (f g : Nat → V) (i : Nat) : (half n f g i).length = n := by simp [half]
theorem half_step (n : Nat) (f g : Nat → V) (i : Nat) (h : i < n) : (half n f g i).take i ++ f i :: (half n f g i).drop (i + 1) = half n f g (i + 1) := by
  apply List.ext_getElem
  · simp [half]; omega
  · intro j h1 h2
    rw [half_len] at h2
    rw [List.getElem_append]
    simp only [List.length_take, half_len]
    by_cases c : j < min i n
    · rw [dif_pos c]
      simp [half, show j < i by omega, show j < i + 1 by omega]
    · rw [dif_neg c]
      by_cases c' : j = i
      · subst c'
        simp [half, show min j n = j by omega]
      · rw [List.getElem_cons]
        rw [dif_neg (by omega)]
        simp [half, show ¬ j < i + 1 by omega]
        rw [if_neg (by omega)]
        congr 1
        omega
theorem half_end (n : Nat) (f g : Nat → V) : half n f g n = (List.range n).map f := by
  unfold half
  apply List.map_congr_left
  intro j hj
  rw [List.mem_range] at hj
  simp [hj]
theorem half_all (n : Nat) (f g : Nat → V) (i : Nat) (h : n ≤ i) : half n f g i = (List.range n).map f := by
  unfold half
  apply List.map_congr_left
  intro j hj
  rw [List.mem_range] at hj
  rw [if_pos (by omega)]
theorem half_zero (n : Nat) (f g : Nat → V) : half n f g 0 = (List.range n).map g := by simp [half]
def badC (i : Nat) : List V := half 32 (fun _ => .int .i64 (-1)) (fun _ => .int .i64 0) i
theorem badC_len (i : Nat) : (badC i).length = 32 := half_len ..
theorem badC_step (i : Nat) (h : i < 32) : (badC i).take i ++ .int .i64 (-1) :: (badC i).drop (i + 1) = badC (i + 1) := half_step 32 _ _ i h
theorem Places_bad_loop (k : Int) (h1 : ¬ k = 1) (h2 : ¬ k = 2) (h3 : ¬ k = 3) (h4 : ¬ k = 4) (h5 : ¬ k = 5) (Z : List V) : ∀ (d i : Nat) (s4 s5 s6 s7 s9 s12 s17 s19 : V), i + d = 32 →
    ∃ s3' s4' s5' s6' s7' s9' s12' s17' s19', evCI pg (.loop ir_undertowref04_Placesl0) ⟨[.int .i64 k, .lp 0 0, .lp 1 0, .int .i64 (i : Int), s4, s5, s6, s7, .undef, s9, .undef, .undef, s12, .undef, .undef, .undef, .undef, s17, .undef, s19, .undef, .undef, .undef, .undef], ⟨[Z, badC i], [], []⟩⟩ =
      some (.exit 0, ⟨[.int .i64 k, .lp 0 0, .lp 1 0, s3', s4', s5', s6', s7', .undef, s9', .undef, .undef, s12', .undef, .undef, .undef, .undef, s17', .undef, s19', .undef, .undef, .undef, .undef], ⟨[Z, badC 32], [], []⟩⟩)
  | 0, i, s4, s5, s6, s7, s9, s12, s17, s19, hd => by
    have hi : i = 32 := by omega
    subst hi
    have hs := rfl (a := evCI pg ir_undertowref04_Placesl0 ⟨[.int .i64 k, .lp 0 0, .lp 1 0, .int .i64 ((32 : Nat) : Int), s4, s5, s6, s7, .undef, s9, .undef, .undef, s12, .undef, .undef, .undef, .undef, s17, .undef, s19, .undef, .undef, .undef, .undef], ⟨[Z, badC 32], [], []⟩⟩)
    conv at hs => rhs; simp [ir_undertowref04_Placesl0, go_sem]
    rw [s_loop, hs, s_then_exit]
    exact ⟨_, _, _, _, _, _, _, _, _, rfl⟩
  | d + 1, i, s4, s5, s6, s7, s9, s12, s17, s19, hd => by
    have hi : i < 32 := by omega
    have hi' : (i : Int) < 32 := by omega
    have e7 : IntKind.i64.wrap ((i : Int) + 1) = (i : Int) + 1 := wrap_i64 (by omega) (by omega)
    have hst := badC_step i hi
    have hle : i + 1 ≤ 32 := by omega
    have hs := rfl (a := evCI pg ir_undertowref04_Placesl0 ⟨[.int .i64 k, .lp 0 0, .lp 1 0, .int .i64 (i : Int), s4, s5, s6, s7, .undef, s9, .undef, .undef, s12, .undef, .undef, .undef, .undef, s17, .undef, s19, .undef, .undef, .undef, .undef], ⟨[Z, badC i], [], []⟩⟩)
    conv at hs => rhs; simp [ir_undertowref04_Placesl0, go_sem, hi, hi', hle, h1, h2, h3, h4, h5, badC_len, e7, hst]
    rw [s_loop, hs, s_then_nrm]
    exact Places_bad_loop k h1 h2 h3 h4 h5 Z d (i + 1) _ _ _ _ _ _ _ _ (by omega)
def badV : List V := (List.range 32).map fun _ => .int .i64 (-1)
theorem badV_len : badV.length = 32 := by simp [badV]
theorem badV_el (i : Nat) (h : i < badV.length) : badV[i] = .int .i64 (-1) := by simp [badV]
theorem omap_same (f : V → Option V) (v : V) (h : f v = some v) : ∀ l : List V, (∀ x ∈ l, x = v) → omap f l = some l
  | [], _ => rfl
  | x :: l, hl => by
    have hx := hl x (by simp)
    subst hx
    have := omap_same f x h l fun y hy => hl y (by simp [hy])
    simp [omap, h, this]
theorem omap_bad (f : V → Option V) (h : f (.int .i64 (-1)) = some (.int .i64 (-1))) : omap f badV = some badV := omap_same f _ h _ (by simp [badV])
theorem badV_take : List.take 32 badV = badV := rfl
theorem badC_end : badC 32 = badV := half_end ..
theorem badC_0 : badC 0 = [.int .i64 0, .int .i64 0, .int .i64 0, .int .i64 0, .int .i64 0, .int .i64 0, .int .i64 0, .int .i64 0, .int .i64 0, .int .i64 0, .int .i64 0, .int .i64 0, .int .i64 0, .int .i64 0, .int .i64 0, .int .i64 0, .int .i64 0, .int .i64 0, .int .i64 0, .int .i64 0, .int .i64 0, .int .i64 0, .int .i64 0, .int .i64 0, .int .i64 0, .int .i64 0, .int .i64 0, .int .i64 0, .int .i64 0, .int .i64 0, .int .i64 0, .int .i64 0] := rfl
theorem Places_bad (k : Int) (h : k < 1 ∨ 5 < k) : evI pg .val n_undertowref04_Places [.int .i64 k] [] = some (.agg badV, []) := by
  obtain ⟨a, b, c, d, e, f, g, i, j, hl⟩ := Places_bad_loop k (by omega) (by omega) (by omega) (by omega) (by omega) (badC 0) 32 0 .undef .undef .undef .undef .undef .undef .undef .undef (by omega)
  rw [badC_end, badC_0] at hl
  simp at hl
  rw [s_fn fn_undertowref04_Places]
  simp [ir_undertowref04_Places, go_sem, hl, badV_len, badV_take, omap_bad]
theorem refMask_bad_loop (k : Int) : ∀ (d i : Nat) (s5 s6 : V), i + d = 32 →
    ∃ i' s5' s6', evCI pg (.loop ir_undertowref04_Maskl0) ⟨[.int .i64 k, .int .u32 0, .lp 0 0, .int .u32 0, .int .i64 (i : Int), s5, s6], ⟨[badV], [], []⟩⟩ =
      some (.exit 0, ⟨[.int .i64 k, .int .u32 0, .lp 0 0, .int .u32 0, i', s5', s6'], ⟨[badV], [], []⟩⟩)
  | 0, i, s5, s6, hd => by
    have hi : i = 32 := by omega
    subst hi
    have hs := rfl (a := evCI pg ir_undertowref04_Maskl0 ⟨[.int .i64 k, .int .u32 0, .lp 0 0, .int .u32 0, .int .i64 ((32 : Nat) : Int), s5, s6], ⟨[badV], [], []⟩⟩)
    conv at hs => rhs; simp [ir_undertowref04_Maskl0, go_sem]
    rw [s_loop, hs, s_then_exit]
    exact ⟨_, _, _, rfl⟩
  | d + 1, i, s5, s6, hd => by
    have hi : i < 32 := by omega
    have hi' : (i : Int) < 32 := by omega
    have e7 : IntKind.i64.wrap ((i : Int) + 1) = (i : Int) + 1 := wrap_i64 (by omega) (by omega)
    have hs := rfl (a := evCI pg ir_undertowref04_Maskl0 ⟨[.int .i64 k, .int .u32 0, .lp 0 0, .int .u32 0, .int .i64 (i : Int), s5, s6], ⟨[badV], [], []⟩⟩)
    conv at hs => rhs; simp [ir_undertowref04_Maskl0, go_sem, hi, hi', badV_len, badV_el, e7]
    rw [s_loop, hs, s_then_nrm]
    exact refMask_bad_loop k d (i + 1) _ _ (by omega)
theorem refMask_bad (k : Int) (h : k < 1 ∨ 5 < k) : evI pg .val n_undertowref04_Mask [.int .i64 k] [] = some (.int .u32 0, []) := by
  obtain ⟨a, b, c, hl⟩ := refMask_bad_loop k 32 0 .undef .undef (by omega)
  have hp := Places_bad k h
  simp at hl
  rw [s_fn fn_undertowref04_Mask]
  simp [ir_undertowref04_Mask, go_sem, hp, hl, badV_len]
theorem refGet_bad_loop (k : Int) (w : Nat) : ∀ (d i : Nat) (s6 s7 : V), i + d = 32 →
    ∃ i' s6' s7', evCI pg (.loop ir_undertowref04_Getl0) ⟨[.int .i64 k, .int .u32 (w : Int), .int .i64 0, .lp 0 0, .int .i64 0, .int .i64 (i : Int), s6, s7, .undef], ⟨[badV], [], []⟩⟩ =
      some (.exit 0, ⟨[.int .i64 k, .int .u32 (w : Int), .int .i64 0, .lp 0 0, .int .i64 0, i', s6', s7', .undef], ⟨[badV], [], []⟩⟩)
  | 0, i, s6, s7, hd => by
    have hi : i = 32 := by omega
    subst hi
    have hs := rfl (a := evCI pg ir_undertowref04_Getl0 ⟨[.int .i64 k, .int .u32 (w : Int), .int .i64 0, .lp 0 0, .int .i64 0, .int .i64 ((32 : Nat) : Int), s6, s7, .undef], ⟨[badV], [], []⟩⟩)
    conv at hs => rhs; simp [ir_undertowref04_Getl0, go_sem]
    rw [s_loop, hs, s_then_exit]
    exact ⟨_, _, _, rfl⟩
  | d + 1, i, s6, s7, hd => by
    have hi : i < 32 := by omega
    have hi' : (i : Int) < 32 := by omega
    have e7 : IntKind.i64.wrap ((i : Int) + 1) = (i : Int) + 1 := wrap_i64 (by omega) (by omega)
    have hs := rfl (a := evCI pg ir_undertowref04_Getl0 ⟨[.int .i64 k, .int .u32 (w : Int), .int .i64 0, .lp 0 0, .int .i64 0, .int .i64 (i : Int), s6, s7, .undef], ⟨[badV], [], []⟩⟩)
    conv at hs => rhs; simp [ir_undertowref04_Getl0, go_sem, hi, hi', badV_len, badV_el, e7]
    rw [s_loop, hs, s_then_nrm]
    exact refGet_bad_loop k w d (i + 1) _ _ (by omega)
theorem refGet_bad (k : Int) (w : Nat) (h : k < 1 ∨ 5 < k) : evI pg .val n_undertowref04_Get [.int .i64 k, .int .u32 (w : Int)] [] = some (.int .i64 0, []) := by
  obtain ⟨a, b, c, hl⟩ := refGet_bad_loop k w 32 0 .undef .undef (by omega)
  have hp := Places_bad k h
  simp at hl
  rw [s_fn fn_undertowref04_Get]
  simp [ir_undertowref04_Get, go_sem, hp, hl, badV_len]
theorem Mask_bad_loop (k : Int) : ∀ (d i : Nat) (s4 s7 s8 s9 s10 s11 : V) (x : List V), i + d = 32 →
    ∃ s4' i' s7' s8' s9' s10' s11' x', evCI pg (.loop ir_field_Maskl1) ⟨[.int .i64 k, .int .u32 0, .lp 0 0, .int .u32 0, s4, .undef, .int .i64 (i : Int), s7, s8, s9, s10, s11, .undef], ⟨[[.int .i64 0, .int .i64 0, .nils], x], [], []⟩⟩ =
      some (.exit 0, ⟨[.int .i64 k, .int .u32 0, .lp 0 0, .int .u32 0, s4', .undef, i', s7', s8', s9', s10', s11', .undef], ⟨[[.int .i64 0, .int .i64 0, .nils], x'], [], []⟩⟩)
  | 0, i, s4, s7, s8, s9, s10, s11, x, hd => by
    have hi : i = 32 := by omega
    subst hi
    have hs := rfl (a := evCI pg ir_field_Maskl1 ⟨[.int .i64 k, .int .u32 0, .lp 0 0, .int .u32 0, s4, .undef, .int .i64 ((32 : Nat) : Int), s7, s8, s9, s10, s11, .undef], ⟨[[.int .i64 0, .int .i64 0, .nils], x], [], []⟩⟩)
    conv at hs => rhs; simp [ir_field_Maskl1, go_sem]
    rw [s_loop, hs, s_then_exit]
    exact ⟨_, _, _, _, _, _, _, _, rfl⟩
  | d + 1, i, s4, s7, s8, s9, s10, s11, x, hd => by
    have hi : i < 32 := by omega
    have hi' : (i : Int) < 32 := by omega
    have e7 : IntKind.i64.wrap ((i : Int) + 1) = (i : Int) + 1 := wrap_i64 (by omega) (by omega)
    have hin := rfl (a := evCI pg (.loop ir_field_Maskl0) ⟨[.int .i64 k, .int .u32 0, .lp 0 0, .int .u32 0, .int .i64 (i : Int), .undef, .int .i64 (i : Int), .bool true, .nils, .int .i64 0, .int .i64 0, s11, .undef], ⟨[[.int .i64 0, .int .i64 0, .nils], x], [], []⟩⟩)
    conv at hin => rhs; rw [s_loop]; simp [ir_field_Maskl0, go_sem]
    have hs := rfl (a := evCI pg ir_field_Maskl1 ⟨[.int .i64 k, .int .u32 0, .lp 0 0, .int .u32 0, s4, .undef, .int .i64 (i : Int), s7, s8, s9, s10, s11, .undef], ⟨[[.int .i64 0, .int .i64 0, .nils], x], [], []⟩⟩)
    conv at hs => rhs; simp [ir_field_Maskl1, go_sem, hi, hi', e7, hin]
    rw [s_loop, hs, s_then_nrm]
    exact Mask_bad_loop k d (i + 1) _ _ _ _ _ _ _ (by omega)
theorem Mask_bad (k : Int) (h : k < 1 ∨ 5 < k) : evI pg .val n_field_Mask [.int .i64 k] [] = some (.int .u32 0, []) := by
  obtain ⟨a, b, c, d, e, f, g, x, hl⟩ := Mask_bad_loop k 32 0 .undef .undef .undef .undef .undef .undef [] (by omega)
  have ho := of_bad k h
  simp at hl
  rw [s_fn fn_field_Mask]
  simp [ir_field_Mask, go_sem, ho, hl]
end Go.Proofs.Ytgcpojicidaphaa
