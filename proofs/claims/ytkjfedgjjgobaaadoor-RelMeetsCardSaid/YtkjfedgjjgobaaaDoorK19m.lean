/- Layer 19: the program's relation of ways (no claim; lemmas). -/
import Derived.Test.YtkjfedgjjgobaaaDoorK19l
set_option linter.unusedSimpArgs false
set_option linter.unusedVariables false
namespace Go.Proofs.YtkjfedgjjgobaaaDoor
open Go Go.Vm

def updW (W : Nat → Nat) (a w : Nat) : Nat → Nat := fun b => if b = a then w else W b
theorem updW_same (W : Nat → Nat) (a : Nat) : updW W a (W a) = W := by
  funext b; unfold updW; split
  · rename_i e; rw [e]
  · rfl
theorem updW_at (W : Nat → Nat) (a w : Nat) : updW W a w a = w := by unfold updW; rw [if_pos rfl]
theorem updW_ne (W : Nat → Nat) {a b : Nat} (w : Nat) (h : b ≠ a) : updW W a w b = W b := by unfold updW; rw [if_neg h]
theorem sum_lt {α : Type} (f g : α → Nat) : ∀ (l : List α), (∀ x ∈ l, f x ≤ g x) → (∃ x ∈ l, f x < g x) → (l.map f).sum < (l.map g).sum
  | [], _, ⟨x, hx, _⟩ => by cases hx
  | y :: l, h, ⟨x, hx, hlt⟩ => by
    have le : ∀ (l : List α), (∀ x ∈ l, f x ≤ g x) → (l.map f).sum ≤ (l.map g).sum := by
      intro l
      induction l with
      | nil => intro _; exact Nat.le_refl _
      | cons z l ih =>
        intro h
        have h1 := h z (by simp)
        have h2 := ih fun x hx => h x (by simp [hx])
        simp only [List.map_cons, List.sum_cons]
        omega
    simp only [List.map_cons, List.sum_cons]
    have h1 := h y (by simp)
    rcases List.mem_cons.1 hx with rfl | hx
    · have := le l fun x hx => h x (by simp [hx])
      omega
    · have := sum_lt f g l (fun x hx => h x (by simp [hx])) ⟨x, hx, hlt⟩
      omega
/-- How much may still come. -/
def msr (n : Nat) (W : Nat → Nat) : Nat := ((List.range n).map fun a => 2 ^ n - W a).sum
theorem msr_lt {n a w : Nat} {W : Nat → Nat} (ha : a < n) (h1 : W a < w) (h2 : w < 2 ^ n) : msr n (updW W a w) < msr n W := by
  refine sum_lt _ _ _ (fun b _ => ?_) ⟨a, List.mem_range.2 ha, ?_⟩
  · unfold updW
    split
    · rename_i e; rw [e]; omega
    · exact Nat.le_refl _
  · rw [updW_at]; omega
theorem or_abs {w x y : Nat} (h : w ||| x = w) : (w ||| y) ||| x = w ||| y := by
  rw [Nat.or_assoc, Nat.or_comm y x, ← Nat.or_assoc, h]
theorem or_idem (a b : Nat) : (a ||| b) ||| b = a ||| b := by rw [Nat.or_assoc, Nat.or_self]
theorem or_bitle {w x b : Nat} (h : w ||| x = w) (hb : x.testBit b = true) : w.testBit b = true := by
  rw [← h, Nat.testBit_or, hb, Bool.or_true]
section
variable (n : Nat) (R C : Nat → Nat → Bool) (hC : ∀ a x b, a < n → x < n → b < n → C a x = true → C x b = true → C a b = true)
/-- Between the relation and its ways. -/
def Btw (n : Nat) (R C : Nat → Nat → Bool) (W : Nat → Nat) : Prop :=
  (∀ a b, a < n → b < n → R a b = true → (W a).testBit b = true) ∧ (∀ a b, a < n → b < n → (W a).testBit b = true → C a b = true)
include hC in
theorem Btw.step {W : Nat → Nat} {a b w : Nat} (h : Btw n R C (updW W a w)) (ha : a < n) (hb : b < n) (hwb : w.testBit b = true) : Btw n R C (updW W a (w ||| updW W a w b)) := by
  have hab : C a b = true := h.2 a b ha hb (by rw [updW_at]; exact hwb)
  refine ⟨fun x y hx hy hR => ?_, fun x y hx hy hq => ?_⟩
  · have := h.1 x y hx hy hR
    by_cases e : x = a
    · subst e
      rw [updW_at] at this ⊢
      rw [Nat.testBit_or, this, Bool.true_or]
    · rw [updW_ne _ _ e] at this ⊢
      exact this
  · by_cases e : x = a
    · subst e
      rw [updW_at, Nat.testBit_or, Bool.or_eq_true] at hq
      rcases hq with hq | hq
      · exact h.2 x y hx hy (by rw [updW_at]; exact hq)
      · exact hC x b y ha hb hy hab (h.2 b y hb hy hq)
    · rw [updW_ne _ _ e] at hq
      exact h.2 x y hx hy (by rw [updW_ne _ _ e]; exact hq)
variable (p : Nat) (v : V) (T : Nat) (I : Nat → Nat)
include hC in
theorem Close_l0 (W : Nat → Nat) (a : Nat) (ha : a < n) (q : List Nat) (hq : ∀ b ∈ q, b < n ∧ (W a).testBit b = true) (hql : q.length ≤ 512) (u : V) (hu : Sl u (iI (q.map fun b : Nat => (b : Int)))) (j : Nat) (hj : j ≤ q.length) (w : Nat)
    (hw : w ||| W a = w) (H : List Vm.Obj) (h : RelAt H p v n T I (updW W a w)) (hK : Btw n R C (updW W a w)) :
    ∃ H' w', evCI pg (.loop ir_rel_Rel_Closel0) ⟨[.undef, .undef, .ptr p 0 0, .int .i64 (a : Int), .bool (decide (¬ w = W a)), .undef, .undef, .int .i64 (n : Int), .int .i64 (a : Int), .undef, u, .int .i64 (q.length : Int), .int .i64 (j : Int), .undef, .undef], ⟨[], [], H⟩⟩ =
        some (.exit 4, ⟨[.undef, .undef, .ptr p 0 0, .int .i64 (a : Int), .bool (decide (¬ w' = W a)), .undef, .undef, .int .i64 (n : Int), .int .i64 (a : Int), .undef, u, .int .i64 (q.length : Int), .int .i64 (q.length : Int), .bool false, .undef], ⟨[], [], H'⟩⟩) ∧
      RelAt H' p v n T I (updW W a w') ∧ Btw n R C (updW W a w') ∧ w' ||| W a = w' ∧ w' ||| w = w' ∧ (∀ b ∈ q.drop j, w' ||| W b = w') := by
  obtain ⟨B, hB⟩ : ∃ B, B = Vm.C.loop ir_rel_Rel_Closel0 := ⟨_, rfl⟩
  by_cases c : j < q.length
  · have e3 := succ_i64 c (by omega)
    have hlm : (q.map fun b : Nat => (b : Int)).length = q.length := List.length_map ..
    have e1 := fun m => hu.ia (sz := 1) m .i64 (i := j) (by rw [iI_len, hlm]; exact c) (by simp [iI])
    simp only [iI_el, List.getElem_map] at e1
    obtain ⟨hb, hbit⟩ := hq q[j] (List.getElem_mem _)
    have hdrop := List.drop_eq_getElem_cons c
    have hmem : ∀ b ∈ q.drop (j + 1), b ∈ q := fun b hb => List.mem_of_mem_drop hb
    generalize q[j] = b at *
    have hpl := get_lt h.obj
    have ho := h.obj
    have hg := get_el ho hpl
    obtain ⟨a1, a2⟩ := h.mat.ia ha [] []
    have a2 := a2 false rfl
    obtain ⟨b1, b2⟩ := h.mat.ia hb [] []
    have b2 := b2 false rfl
    obtain ⟨hv, ht2⟩ := h.mat.pos (by omega)
    have hT := get_lt ht2
    have hrowa := h.mat.row a ha
    have hwa : updW W a w a = w := updW_at W a w
    simp only [hwa] at hrowa
    have hlta := h.lt a ha
    rw [hwa] at hlta
    have hwb := or_bitle hw hbit
    have hrdy : Rdy H (I a) (kw n) w (updW W a w b) (.rsl (I b) 0 (kw n)) := by
      by_cases e : b = a
      · subst e; rw [updW_at]; exact .own
      · exact .rsl (fun hc => e (h.mat.inj b a hb ha hc)) (h.mat.row b hb)
    have hrow := row_join_ok H (I a) (kw n) w (updW W a w b) (.rsl (I b) 0 (kw n)) hrowa (kw_le h.le) hrdy rfl rfl (two_kw hlta) (two_kw (h.lt b hb))
    have hset := h.set ha (w ||| updW W a w b) (Nat.or_lt_two_pow hlta (h.lt b hb))
    have hfe : (fun c => if c = a then w ||| updW W a w b else updW W a w c) = updW W a (w ||| updW W a w b) := by
      funext c
      unfold updW
      by_cases e : c = a <;> simp [e]
    rw [hfe] at hset
    have hub : w ||| updW W a w b = w ||| W b := by
      by_cases e : b = a
      · subst e; rw [updW_at, Nat.or_self, hw]
      · rw [updW_ne _ _ e]
    have hst := Btw.step n R C hC hK ha hb hwb
    obtain ⟨H', w', r1, r2, r3, r4, r5, r6⟩ := Close_l0 W a ha q hq hql u hu (j + 1) (by omega) (w ||| updW W a w b) (or_abs hw) _ hset hst
    refine ⟨H', w', ?_, r2, r3, r4, ?_, ?_⟩
    · rw [← r1, ← hB]
      conv => lhs; rw [s_loop_at hB]
      have hmore : decide (¬ w ||| updW W a w b = W a) = (decide (¬ w ||| updW W a w b = w) || decide (¬ w = W a)) := by
        rw [Bool.eq_iff_iff]
        simp only [decide_eq_true_eq, Bool.or_eq_true]
        constructor
        · intro h1
          by_cases h2 : w = W a
          · left; rw [← h2] at h1; exact h1
          · exact .inr h2
        · rintro (h1 | h1) h2
          · apply h1
            have h3 : w ||| W a = w ||| (w ||| updW W a w b) := by rw [h2]
            rw [hw, ← Nat.or_assoc, Nat.or_self] at h3
            exact h3.symm
          · apply h1
            have h3 : w ||| W a = w ||| (w ||| updW W a w b) := by rw [h2]
            rw [hw, ← Nat.or_assoc, Nat.or_self] at h3
            rw [h3, h2]
      rw [hmore]
      rw [hv] at a1 b1 ho hg
      generalize w ||| updW W a w b = w2 at *
      cases hd : decide (¬ w2 = w) with
      | true =>
        rw [hd] at hrow
        simp [ir_rel_Rel_Closel0, go_sem, hu.is, c, e1, e3, ho, hpl, hg, a1, a2, b1, b2, hrow, hT, -Int.natCast_add]
      | false =>
        rw [hd] at hrow
        simp [ir_rel_Rel_Closel0, go_sem, hu.is, c, e1, e3, ho, hpl, hg, a1, a2, b1, b2, hrow, hT, -Int.natCast_add]
    · rw [← r5, Nat.or_assoc, Nat.or_comm (w ||| updW W a w b) w, ← Nat.or_assoc w w, Nat.or_self]
    · rw [hdrop]
      intro x hx
      rcases List.mem_cons.1 hx with rfl | hx
      · rw [hub] at r5
        rw [← r5, Nat.or_assoc, or_idem]
      · exact r6 x hx
  · obtain rfl : j = q.length := by omega
    refine ⟨H, w, ?_, h, hK, hw, Nat.or_self _, by simp⟩
    rw [← hB, s_loop_at hB]
    simp [ir_rel_Rel_Closel0, go_sem, hu.is]
termination_by q.length - j
include hC in
theorem Close_l1 (i : Nat) (hi : i ≤ n) (W : Nat → Nat) (H : List Vm.Obj) (h : RelAt H p v n T I W) (hK : Btw n R C W) :
    (∃ H', evCI pg (.loop ir_rel_Rel_Closel1) ⟨[.undef, .undef, .ptr p 0 0, .undef, .undef, .undef, .undef, .int .i64 (n : Int), .int .i64 (i : Int), .undef, .undef, .undef, .undef, .undef, .undef], ⟨[], [], H⟩⟩ =
        some (.exit 2, ⟨[.undef, .undef, .ptr p 0 0, .undef, .undef, .undef, .undef, .int .i64 (n : Int), .int .i64 (n : Int), .bool false, .undef, .undef, .undef, .undef, .undef], ⟨[], [], H'⟩⟩) ∧ RelAt H' p v n T I W ∧ ∀ a b, i ≤ a → a < n → b < n → (W a).testBit b = true → W a ||| W b = W a) ∨
    (∃ H' W' i', evCI pg (.loop ir_rel_Rel_Closel1) ⟨[.undef, .undef, .ptr p 0 0, .undef, .undef, .undef, .undef, .int .i64 (n : Int), .int .i64 (i : Int), .undef, .undef, .undef, .undef, .undef, .undef], ⟨[], [], H⟩⟩ =
        some (.exit 1, ⟨[.undef, .undef, .ptr p 0 0, .undef, .undef, .undef, .undef, .int .i64 (n : Int), .int .i64 i', .undef, .undef, .undef, .undef, .undef, .bool true], ⟨[], [], H'⟩⟩) ∧ RelAt H' p v n T I W' ∧ Btw n R C W' ∧ msr n W' < msr n W) := by
  obtain ⟨B, hB⟩ : ∃ B, B = Vm.C.loop ir_rel_Rel_Closel1 := ⟨_, rfl⟩
  by_cases c : i < n
  · have e3 := succ_i64 c (by have := h.le; omega)
    have hpl := get_lt h.obj
    have ho := h.obj
    have hg := get_el ho hpl
    obtain ⟨a1, a2⟩ := h.mat.ia c [] []
    have a2 := a2 false rfl
    have hrow := h.mat.row i c
    have hrl := get_lt hrow
    have hrg := get_el hrow hrl
    have himm : omap2 (toImm ⟨[], [], H⟩ true 7) (wR (wl (kw n) (W i))) = some (wR (wl (kw n) (W i))) := omap2_same fun e he x hx => wR_imm e he x hx _ _ _
    have hlen : (wR (wl (kw n) (W i))).length = kw n := by rw [wR_len, wl_len]
    have hea := each_ok (.isl true (wR (wl (kw n) (W i)))) n (W i) (.isl _ _) h.le (h.lt i c)
    have hcl : CleanR (iI (rt n (W i))) := iI_clean _
    have hcl8 : clean 8 (ils (iI (rt n (W i)))) = true := e_clean_ils 7 _ (by simp only [List.all_eq_true]; exact hcl)
    have hlq : (rt n (W i)).length = (sb n (W i).testBit).length := by simp [rt]
    have hsl := Sl.ils (iI (rt n (W i)))
    have hq : ∀ b ∈ sb n (W i).testBit, b < n ∧ (W i).testBit b = true := by
      intro b hb
      have := List.mem_filter.1 hb
      exact ⟨List.mem_range.1 this.1, this.2⟩
    obtain ⟨H1, w', r1, r2, r3, r4, r5, r6⟩ := Close_l0 n R C hC p v T I W i c (sb n (W i).testBit) hq (by have := sb_len n (W i).testBit; have := h.le; omega) (ils (iI (rt n (W i)))) hsl 0 (by omega) (W i) (Nat.or_self _) H (by rw [updW_same]; exact h) (by rw [updW_same]; exact hK)
    rw [Int.natCast_zero] at r1
    have htk : (wR (wl (kw n) (W i))).take (kw n) = wR (wl (kw n) (W i)) := List.take_of_length_le (by omega)
    by_cases hm : w' = W i
    · subst hm
      rw [updW_same] at r2 r3
      have hclo : ∀ b, b < n → (W i).testBit b = true → W i ||| W b = W i := fun b hb hbit => r6 b (by rw [List.drop_zero]; exact List.mem_filter.2 ⟨List.mem_range.2 hb, hbit⟩)
      have step : ∀ (x : Option (Ex × St)), evCI pg B ⟨[.undef, .undef, .ptr p 0 0, .undef, .undef, .undef, .undef, .int .i64 (n : Int), .int .i64 ((i + 1 : Nat) : Int), .undef, .undef, .undef, .undef, .undef, .undef], ⟨[], [], H1⟩⟩ = x →
          evCI pg B ⟨[.undef, .undef, .ptr p 0 0, .undef, .undef, .undef, .undef, .int .i64 (n : Int), .int .i64 (i : Int), .undef, .undef, .undef, .undef, .undef, .undef], ⟨[], [], H⟩⟩ = x := by
        intro x hx
        rw [← hx]
        conv => lhs; rw [s_loop_at hB]
        simp only [not_true_eq_false, decide_false] at r1
        generalize wR (wl (kw n) (W i)) = rw0 at *
        generalize rt n (W i) = q0 at *
        simp [ir_rel_Rel_Closel1, go_sem, c, e3, ho, hpl, hg, a1, a2, hrow, hrl, hrg, himm, hlen, htk, hea, hcl8, hsl.is, hsl.rows, iI_len, hlq, r1, -Int.natCast_add]
      rcases Close_l1 (i + 1) (by omega) W H1 r2 r3 with ⟨H', s1, s2, s3⟩ | ⟨H', W', i', s1, s2⟩
      · left
        refine ⟨H', ?_, s2, fun a b hia ha hb hbit => ?_⟩
        · rw [← hB] at s1 ⊢
          exact step _ s1
        · by_cases e : a = i
          · subst e; exact hclo b hb hbit
          · exact s3 a b (by omega) ha hb hbit
      · right
        refine ⟨H', W', i', ?_, s2⟩
        rw [← hB] at s1 ⊢
        exact step _ s1
    · right
      refine ⟨H1, updW W i w', (i : Int), ?_, r2, r3, msr_lt c ?_ ?_⟩
      · rw [← hB, s_loop_at hB]
        simp only [not_true_eq_false, decide_false, hm, not_false_eq_true, decide_true] at r1
        generalize wR (wl (kw n) (W i)) = rw0 at *
        generalize rt n (W i) = q0 at *
        simp [ir_rel_Rel_Closel1, go_sem, c, e3, ho, hpl, hg, a1, a2, hrow, hrl, hrg, himm, hlen, htk, hea, hcl8, hsl.is, hsl.rows, iI_len, hlq, r1, -Int.natCast_add]
      · have : W i ≤ w' := by rw [← r4]; exact Nat.right_le_or
        omega
      · have := r2.lt i c
        rwa [updW_at] at this
  · obtain rfl : i = n := by omega
    left
    refine ⟨H, ?_, h, fun a b h1 h2 => by omega⟩
    rw [← hB, s_loop_at hB]
    simp [ir_rel_Rel_Closel1, go_sem]
termination_by n - i
include hC in
theorem Close_l2 (W : Nat → Nat) (H : List Vm.Obj) (h : RelAt H p v n T I W) (hK : Btw n R C W) (a7 a8 a14 : V) :
    ∃ H' W', evCI pg (.loop ir_rel_Rel_Closel2) ⟨[.undef, .undef, .ptr p 0 0, .undef, .undef, .undef, .undef, a7, a8, .undef, .undef, .undef, .undef, .undef, a14], ⟨[], [], H⟩⟩ =
        some (.exit 0, ⟨[.undef, .undef, .ptr p 0 0, .undef, .undef, .undef, .undef, .int .i64 (n : Int), .int .i64 (n : Int), .bool false, .undef, .undef, .undef, .undef, .undef], ⟨[], [], H'⟩⟩) ∧ RelAt H' p v n T I W' ∧ Btw n R C W' ∧
      ∀ a b, a < n → b < n → (W' a).testBit b = true → W' a ||| W' b = W' a := by
  obtain ⟨B, hB⟩ : ∃ B, B = Vm.C.loop ir_rel_Rel_Closel2 := ⟨_, rfl⟩
  have hpl := get_lt h.obj
  have ho := h.obj
  have hg := get_el ho hpl
  have hvl := h.mat.vlen
  rcases Close_l1 n R C hC p v T I 0 (by omega) W H h hK with ⟨H', s1, s2, s3⟩ | ⟨H1, W1, i', s1, s2, s3, s4⟩
  · rw [Int.natCast_zero] at s1
    refine ⟨H', W, ?_, s2, hK, fun a b ha hb hbit => s3 a b (by omega) ha hb hbit⟩
    rw [← hB, s_loop_at hB]
    simp [ir_rel_Rel_Closel2, go_sem, ho, hpl, hg, hvl, s1]
  · rw [Int.natCast_zero] at s1
    obtain ⟨H', W', r1, r2⟩ := Close_l2 W1 H1 s2 s3 (.int .i64 (n : Int)) (.int .i64 i') (.bool true)
    refine ⟨H', W', ?_, r2⟩
    rw [← r1, ← hB]
    conv => lhs; rw [s_loop_at hB]
    simp [ir_rel_Rel_Closel2, go_sem, ho, hpl, hg, hvl, s1]
termination_by msr n W
end
end Go.Proofs.YtkjfedgjjgobaaaDoor
