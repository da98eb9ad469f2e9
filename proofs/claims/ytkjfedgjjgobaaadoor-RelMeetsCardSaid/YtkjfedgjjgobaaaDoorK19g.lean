/- Layer 19: a relation is joined to a relation (no claim; lemmas). -/
import Derived.Test.YtkjfedgjjgobaaaDoorK19f
set_option linter.unusedSimpArgs false
set_option linter.unusedVariables false
namespace Go.Proofs.YtkjfedgjjgobaaaDoor
open Go Go.Vm

/-- Rows, as far as they are joined. -/
def J (W U : Nat → Nat) (i : Nat) : Nat → Nat := fun b => if b < i then W b ||| U b else W b
theorem J_lt {n : Nat} {W U : Nat → Nat} (hW : ∀ a, a < n → W a < 2 ^ n) (hU : ∀ a, a < n → U a < 2 ^ n) (i : Nat) : ∀ a, a < n → J W U i a < 2 ^ n := by
  intro a ha
  unfold J
  split
  · exact Nat.or_lt_two_pow (hW a ha) (hU a ha)
  · exact hW a ha
theorem two_kw {n x : Nat} (h : x < 2 ^ n) : x < 2 ^ (64 * kw n) := Nat.lt_of_lt_of_le h (Nat.pow_le_pow_right (by omega) (kw_ge n))
theorem RelAt.join {H : List Vm.Obj} {p : Nat} {v : V} {n T : Nat} {I : Nat → Nat} {W U : Nat → Nat} {i : Nat} (h : RelAt H p v n T I (J W U i)) (hi : i < n) (hU : ∀ a, a < n → U a < 2 ^ n) :
    RelAt (H.set (I i) (.arr (wR (wl (kw n) (J W U i i ||| U i))))) p v n T I (J W U (i + 1)) := by
  have h1 := h.set hi (J W U i i ||| U i) (Nat.or_lt_two_pow (h.lt i hi) (hU i hi))
  have e : ∀ b, (if b = i then J W U i i ||| U i else J W U i b) = J W U (i + 1) b := by
    intro b
    unfold J
    by_cases c : b = i
    · subst c
      rw [if_pos rfl, if_neg (by omega), if_pos (by omega)]
    · rw [if_neg c]
      have : (b < i) ↔ (b < i + 1) := by omega
      simp [this]
  have e' : (fun b => if b = i then J W U i i ||| U i else J W U i b) = J W U (i + 1) := funext e
  rw [e'] at h1
  exact h1
section
variable {p : Nat} {v : V} {n T : Nat} {I : Nat → Nat} {W U : Nat → Nat}
theorem Join_loop_ip {t : Bool} {rv : V} (hu : RelV rv n U) (ys a5 a6 : V) (i : Nat) (hi : i ≤ n) (H : List Vm.Obj) (h : RelAt H p v n T I (J W U i)) :
    ∃ H', evCI pg (.loop ir_rel_Rel_Joinl0) ⟨[.ptr p 0 0, .undef, .ip t [rv] 0, .undef, ys, a5, a6, .undef, .undef, .int .i64 (n : Int), .int .i64 (i : Int), .undef], ⟨[], [], H⟩⟩ =
        some (.exit 2, ⟨[.ptr p 0 0, .undef, .ip t [rv] 0, .undef, ys, a5, a6, .undef, .undef, .int .i64 (n : Int), .int .i64 (n : Int), .bool false], ⟨[], [], H'⟩⟩) ∧ RelAt H' p v n T I (J W U n) ∧
      (∀ q, (∀ a, a < n → q ≠ I a) → H'[q]? = H[q]?) := by
  obtain ⟨B, hB⟩ : ∃ B, B = C.loop ir_rel_Rel_Joinl0 := ⟨_, rfl⟩
  by_cases c : i < n
  · have e3 := succ_i64 c (by have := h.le; omega)
    have hpl := get_lt h.obj
    have ho := h.obj
    have hg := get_el ho hpl
    obtain ⟨e1, e2⟩ := h.mat.ia c [] []
    have e2 := e2 false rfl
    obtain ⟨x, hx, ex⟩ := hu.row c
    have hrow := row_join_ok H (I i) (kw n) (J W U i i) (U i) x (h.mat.row i c) (kw_le h.le) (.sl hx) (by rw [hx.len, wR_len, wl_len]) (hx.slot none) (two_kw (h.lt i c)) (two_kw (hu.lt i c))
    obtain ⟨H', r1, r2, r3⟩ := Join_loop_ip (t := t) hu ys a5 a6 (i + 1) (by omega) _ (h.join c hu.lt)
    refine ⟨H', ?_, r2, fun q hq => by rw [r3 q hq, List.getElem?_set_ne (Ne.symm (hq i c))]⟩
    have hT : T < H.length := get_lt (h.mat.pos (by omega)).2
    obtain ⟨hv1, _⟩ := h.mat.pos (by omega)
    rw [hv1] at e1 ho hg
    rw [← r1, ← hB]
    conv => lhs; rw [s_loop_at hB]
    simp [ir_rel_Rel_Joinl0, go_sem, c, e3, ho, hpl, hg, e1, e2, ex, hrow, hx.is, hu.is, hT, -Int.natCast_add]
  · obtain rfl : i = n := by omega
    refine ⟨H, ?_, h, fun _ _ => rfl⟩
    rw [← hB, s_loop_at hB]
    simp [ir_rel_Rel_Joinl0, go_sem]
termination_by n - i
theorem Join_loop_ptr {p' : Nat} {v' : V} {T' : Nat} {I' : Nat → Nat} (hd : ∀ a, a < n → ¬ rft p' n T' I' (I a)) (ys a5 a6 : V) (i : Nat) (hi : i ≤ n) (H : List Vm.Obj) (h : RelAt H p v n T I (J W U i)) (hu : RelAt H p' v' n T' I' U) :
    ∃ H', evCI pg (.loop ir_rel_Rel_Joinl0) ⟨[.ptr p 0 0, .undef, .ptr p' 0 0, .undef, ys, a5, a6, .undef, .undef, .int .i64 (n : Int), .int .i64 (i : Int), .undef], ⟨[], [], H⟩⟩ =
        some (.exit 2, ⟨[.ptr p 0 0, .undef, .ptr p' 0 0, .undef, ys, a5, a6, .undef, .undef, .int .i64 (n : Int), .int .i64 (n : Int), .bool false], ⟨[], [], H'⟩⟩) ∧ RelAt H' p v n T I (J W U n) ∧
      (∀ q, (∀ a, a < n → q ≠ I a) → H'[q]? = H[q]?) := by
  obtain ⟨B, hB⟩ : ∃ B, B = C.loop ir_rel_Rel_Joinl0 := ⟨_, rfl⟩
  by_cases c : i < n
  · have e3 := succ_i64 c (by have := h.le; omega)
    have hpl := get_lt h.obj
    have ho := h.obj
    have hg := get_el ho hpl
    obtain ⟨e1, e2⟩ := h.mat.ia c [] []
    have e2 := e2 false rfl
    have hpl' := get_lt hu.obj
    have ho' := hu.obj
    have hg' := get_el ho' hpl'
    obtain ⟨f1, f2⟩ := hu.mat.ia c [] []
    have f2 := f2 false rfl
    have hne : I' i ≠ I i := fun e => hd i c (.inr (.inr ⟨i, c, e.symm⟩))
    have hrow := row_join_ok H (I i) (kw n) (J W U i i) (U i) (.rsl (I' i) 0 (kw n)) (h.mat.row i c) (kw_le h.le) (.rsl hne (hu.mat.row i c)) rfl rfl (two_kw (h.lt i c)) (two_kw (hu.lt i c))
    have hu' : RelAt (H.set (I i) (.arr (wR (wl (kw n) (J W U i i ||| U i))))) p' v' n T' I' U := hu.frame fun q hq => List.getElem?_set_ne (fun e => hd i c (by rw [e]; exact hq))
    obtain ⟨H', r1, r2, r3⟩ := Join_loop_ptr hd ys a5 a6 (i + 1) (by omega) _ (h.join c hu.lt) hu'
    refine ⟨H', ?_, r2, fun q hq => by rw [r3 q hq, List.getElem?_set_ne (Ne.symm (hq i c))]⟩
    have hT : T < H.length := get_lt (h.mat.pos (by omega)).2
    obtain ⟨hv1, _⟩ := h.mat.pos (by omega)
    have hT' : T' < H.length := get_lt (hu.mat.pos (by omega)).2
    obtain ⟨hv2, _⟩ := hu.mat.pos (by omega)
    rw [hv1] at e1 ho hg
    rw [hv2] at f1 ho' hg'
    rw [← r1, ← hB]
    conv => lhs; rw [s_loop_at hB]
    simp [ir_rel_Rel_Joinl0, go_sem, c, e3, ho, hpl, hg, e1, e2, ho', hpl', hg', f1, f2, hrow, hT, hT', -Int.natCast_add]
  · obtain rfl : i = n := by omega
    refine ⟨H, ?_, h, fun _ _ => rfl⟩
    rw [← hB, s_loop_at hB]
    simp [ir_rel_Rel_Joinl0, go_sem]
termination_by n - i
theorem Len_nil : evI pg .val n_rel_Rel_Len [.nilp] [] = some (.int .i64 0, []) := closed irL_ok 10 (by kernel_rfl)
/-- One step of joining. -/
theorem Join_step_ip {t : Bool} {rv : V} (hu : RelV rv n U) (ys : V) (j m : Nat) (hj : j < m) (hm : m ≤ 10) (H : List Vm.Obj) (h : RelAt H p v n T I W)
    (q : V) (hq : iaSV 1 ⟨[], [], H⟩ ys (.int .i64 (j : Int)) = some q) (hql : evLoad false 1 ⟨[], [], H⟩ q = some (.ip t [rv] 0)) :
    ∃ H', evCI pg ir_rel_Rel_Joinl1 ⟨[.ptr p 0 0, .undef, .undef, .undef, ys, .int .i64 (m : Int), .int .i64 (j : Int), .undef, .undef, .undef, .undef, .undef], ⟨[], [], H⟩⟩ =
        some (.nrm, ⟨[.ptr p 0 0, .undef, .undef, .undef, ys, .int .i64 (m : Int), .int .i64 ((j + 1 : Nat) : Int), .undef, .undef, .undef, .undef, .undef], ⟨[], [], H'⟩⟩) ∧ RelAt H' p v n T I (fun a => W a ||| U a) ∧
      (∀ q, (∀ a, a < n → q ≠ I a) → H'[q]? = H[q]?) := by
  have e3 := succ_i64 hj (by omega)
  have hpl := get_lt h.obj
  have ho := h.obj
  have hg := get_el ho hpl
  obtain ⟨u, hu1, him, _⟩ := h.imm true
  have hi7 := fun vs tk => him vs tk 4
  simp only [Nat.reduceAdd] at hi7
  have L1 := Len_ok (t := true) hu1
  have L2 := Len_ok (t := t) hu
  have hJ0 : J W U 0 = W := by funext b; simp [J]
  obtain ⟨H', r1, r2, r3⟩ := Join_loop_ip (t := t) hu ys (.int .i64 (m : Int)) (.int .i64 (j : Int)) 0 (by omega) H (by rw [hJ0]; exact h)
  have r2' : RelAt H' p v n T I (fun a => W a ||| U a) := ⟨r2.obj, r2.mat.congr fun a ha => by simp [J, ha], r2.np, fun a ha => by have := r2.lt a ha; simpa [J, ha] using this, r2.le⟩
  refine ⟨H', ?_, r2', r3⟩
  have hvl := h.mat.vlen
  rw [Int.natCast_zero] at r1
  simp [ir_rel_Rel_Joinl1, go_sem, hj, e3, ho, hpl, hg, hq, hql, hi7, L1, L2, hvl, r1, -Int.natCast_add]
theorem Join_step_ptr {p' : Nat} {v' : V} {T' : Nat} {I' : Nat → Nat} (hd : ∀ a, a < n → ¬ rft p' n T' I' (I a)) (ys : V) (j m : Nat) (hj : j < m) (hm : m ≤ 10) (H : List Vm.Obj) (h : RelAt H p v n T I W) (hu : RelAt H p' v' n T' I' U)
    (q : V) (hq : iaSV 1 ⟨[], [], H⟩ ys (.int .i64 (j : Int)) = some q) (hql : evLoad false 1 ⟨[], [], H⟩ q = some (.ptr p' 0 0)) :
    ∃ H', evCI pg ir_rel_Rel_Joinl1 ⟨[.ptr p 0 0, .undef, .undef, .undef, ys, .int .i64 (m : Int), .int .i64 (j : Int), .undef, .undef, .undef, .undef, .undef], ⟨[], [], H⟩⟩ =
        some (.nrm, ⟨[.ptr p 0 0, .undef, .undef, .undef, ys, .int .i64 (m : Int), .int .i64 ((j + 1 : Nat) : Int), .undef, .undef, .undef, .undef, .undef], ⟨[], [], H'⟩⟩) ∧ RelAt H' p v n T I (fun a => W a ||| U a) ∧
      (∀ q, (∀ a, a < n → q ≠ I a) → H'[q]? = H[q]?) := by
  have e3 := succ_i64 hj (by omega)
  have hpl := get_lt h.obj
  have ho := h.obj
  have hg := get_el ho hpl
  have hpl' := get_lt hu.obj
  have ho' := hu.obj
  have hg' := get_el ho' hpl'
  obtain ⟨u, hu1, him, _⟩ := h.imm true
  have hi7 := fun vs tk => him vs tk 4
  obtain ⟨u', hu1', him', _⟩ := hu.imm true
  have hi7' := fun vs tk => him' vs tk 4
  simp only [Nat.reduceAdd] at hi7 hi7'
  have L1 := Len_ok (t := true) hu1
  have L2 := Len_ok (t := true) hu1'
  have hJ0 : J W U 0 = W := by funext b; simp [J]
  obtain ⟨H', r1, r2, r3⟩ := Join_loop_ptr hd ys (.int .i64 (m : Int)) (.int .i64 (j : Int)) 0 (by omega) H (by rw [hJ0]; exact h) hu
  have r2' : RelAt H' p v n T I (fun a => W a ||| U a) := ⟨r2.obj, r2.mat.congr fun a ha => by simp [J, ha], r2.np, fun a ha => by have := r2.lt a ha; simpa [J, ha] using this, r2.le⟩
  refine ⟨H', ?_, r2', r3⟩
  have hvl := h.mat.vlen
  rw [Int.natCast_zero] at r1
  simp [ir_rel_Rel_Joinl1, go_sem, hj, e3, ho, hpl, hg, ho', hpl', hg', hq, hql, hi7, hi7', L1, L2, hvl, r1, -Int.natCast_add]
/-- A step that joins nothing: of another length. -/
theorem Join_step_len {p' n' : Nat} {v' : V} {T' : Nat} {I' : Nat → Nat} (hnn : n' ≠ n) (ys : V) (j m : Nat) (hj : j < m) (hm : m ≤ 10) (H : List Vm.Obj) (h : RelAt H p v n T I W) (hu : RelAt H p' v' n' T' I' U)
    (q : V) (hq : iaSV 1 ⟨[], [], H⟩ ys (.int .i64 (j : Int)) = some q) (hql : evLoad false 1 ⟨[], [], H⟩ q = some (.ptr p' 0 0)) :
    evCI pg ir_rel_Rel_Joinl1 ⟨[.ptr p 0 0, .undef, .undef, .undef, ys, .int .i64 (m : Int), .int .i64 (j : Int), .undef, .undef, .undef, .undef, .undef], ⟨[], [], H⟩⟩ =
        some (.nrm, ⟨[.ptr p 0 0, .undef, .undef, .undef, ys, .int .i64 (m : Int), .int .i64 ((j + 1 : Nat) : Int), .undef, .undef, .undef, .undef, .undef], ⟨[], [], H⟩⟩) := by
  have e3 := succ_i64 hj (by omega)
  have hpl := get_lt h.obj
  have ho := h.obj
  have hg := get_el ho hpl
  have hpl' := get_lt hu.obj
  have ho' := hu.obj
  have hg' := get_el ho' hpl'
  obtain ⟨u, hu1, him, _⟩ := h.imm true
  have hi7 := fun vs tk => him vs tk 4
  obtain ⟨u', hu1', him', _⟩ := hu.imm true
  have hi7' := fun vs tk => him' vs tk 4
  simp only [Nat.reduceAdd] at hi7 hi7'
  have L1 := Len_ok (t := true) hu1
  have L2 := Len_ok (t := true) hu1'
  simp [ir_rel_Rel_Joinl1, go_sem, hj, e3, ho, hpl, hg, ho', hpl', hg', hq, hql, hi7, hi7', L1, L2, hnn, -Int.natCast_add]
/-- .. of none. -/
theorem Join_step_nil (ys : V) (j m : Nat) (hj : j < m) (hm : m ≤ 10) (H : List Vm.Obj) (h : RelAt H p v n T I W) (q : V) (hq : iaSV 1 ⟨[], [], H⟩ ys (.int .i64 (j : Int)) = some q) (hql : evLoad false 1 ⟨[], [], H⟩ q = some .nilp) :
    evCI pg ir_rel_Rel_Joinl1 ⟨[.ptr p 0 0, .undef, .undef, .undef, ys, .int .i64 (m : Int), .int .i64 (j : Int), .undef, .undef, .undef, .undef, .undef], ⟨[], [], H⟩⟩ =
        some (.nrm, ⟨[.ptr p 0 0, .undef, .undef, .undef, ys, .int .i64 (m : Int), .int .i64 ((j + 1 : Nat) : Int), .undef, .undef, .undef, .undef, .undef], ⟨[], [], H⟩⟩) := by
  have e3 := succ_i64 hj (by omega)
  have hpl := get_lt h.obj
  have ho := h.obj
  have hg := get_el ho hpl
  obtain ⟨u, hu1, him, _⟩ := h.imm true
  have hi7 := fun vs tk => him vs tk 4
  simp only [Nat.reduceAdd] at hi7
  have L1 := Len_ok (t := true) hu1
  have L2 := Len_nil
  have hvl := h.mat.vlen
  by_cases c0 : n = 0
  · have hl0 : evCI pg (.loop ir_rel_Rel_Joinl0) ⟨[.ptr p 0 0, .undef, .nilp, .undef, ys, .int .i64 (m : Int), .int .i64 (j : Int), .undef, .undef, .int .i64 0, .int .i64 0, .undef], ⟨[], [], H⟩⟩ =
        some (.exit 2, ⟨[.ptr p 0 0, .undef, .nilp, .undef, ys, .int .i64 (m : Int), .int .i64 (j : Int), .undef, .undef, .int .i64 0, .int .i64 0, .bool false], ⟨[], [], H⟩⟩) := by
      rw [s_loop]
      simp [ir_rel_Rel_Joinl0, go_sem]
    rw [c0] at L1 hvl
    simp only [Int.natCast_zero] at L1
    simp [ir_rel_Rel_Joinl1, go_sem, hj, e3, ho, hpl, hg, hq, hql, hi7, L1, L2, hvl, hl0, -Int.natCast_add]
  · have hn0 : ¬ (0 : Int) = (n : Int) := by omega
    simp [ir_rel_Rel_Joinl1, go_sem, hj, e3, ho, hpl, hg, hq, hql, hi7, L1, L2, hn0, -Int.natCast_add]
end
end Go.Proofs.YtkjfedgjjgobaaaDoor
