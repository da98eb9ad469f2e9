/- Layer 22: what a rule says is put into a relation (no claim; lemmas). -/
import Derived.Test.YtccdkkgimaajbaaDoorK22l
set_option linter.unusedSimpArgs false
set_option linter.unusedVariables false
namespace Go.Proofs.YtccdkkgimaajbaaDoor
open Go Go.Vm

/-- One hart's, the first ahead. -/
def srt2 (E : List Ev) : Prop := E.Pairwise fun x y => x.hart < y.hart ∨ (x.hart = y.hart ∧ x.at' < y.at')
def hrt (E : List Ev) (a : Nat) : Nat := match E[a]? with
  | some e => e.hart
  | none => 0
def pr (E : List Ev) (P : Nat → Nat → Bool) (a b : Nat) : Bool := decide (a < b) && (decide (hrt E a = hrt E b) && P a b)
theorem hrt_el {E : List Ev} {a : Nat} (h : a < E.length) : hrt E a = (E[a]).hart := by simp [hrt, h]
theorem srt2_le {E : List Ev} (hs : srt2 E) {a b : Nat} (hab : a ≤ b) (hb : b < E.length) : hrt E a ≤ hrt E b := by
  rw [hrt_el (by omega), hrt_el hb]
  rcases Nat.eq_or_lt_of_le hab with rfl | h
  · exact Nat.le_refl _
  · have := (List.pairwise_iff_getElem.1 hs) a b (by omega) hb h
    omega
theorem srt2_at {E : List Ev} (hs : srt2 E) {a b : Nat} (hab : a < b) (hb : b < E.length) (hh : hrt E a = hrt E b) : (E[a]).at' < (E[b]).at' := by
  have := (List.pairwise_iff_getElem.1 hs) a b (by omega) hb hab
  rw [hrt_el (by omega), hrt_el hb] at hh
  omega
section
variable {u : V} {lv av dv cv : Nat → V} {E : List Ev} {R : Nat → List Rt} {A D C : Nat → Nat → Nat} (w : Vw u lv av dv cv E R A D C) (hs : srt2 E) {f : Nat} {P : Nat → Nat → Bool}
  (hP : ∀ a b, a < b → b < E.length → hrt E a = hrt E b → evI pg .val f [.ip false (vwC u lv av dv cv) 0, .int .i64 (a : Int), .int .i64 (b : Int)] [] = some (.bool (P a b), []))
  {p : Nat} {v : V} {T : Nat} {I : Nat → Nat}
include w hs hP
theorem into_l0 (a : Nat) (ha : a < E.length) (b : Nat) (hab : a < b) (hb : b ≤ E.length) (H : List Vm.Obj) (W : Nat → Nat) (h : RelAt H p v E.length T I W) (z : V) (hz : ∃ n, z = .int .i64 n) (i : Int) :
    ∃ H' W' c, evCI pg (.loop ir_ppo_view_intol0) ⟨[.ip false (vwC u lv av dv cv) 0, .ptr p 0 0, .fn f [] [], .int .i64 (a : Int), .int .i64 (b : Int), z, .int .i64 i, .undef, .undef, .undef], ⟨[], [], H⟩⟩ =
        some (.exit 2, ⟨[.ip false (vwC u lv av dv cv) 0, .ptr p 0 0, .fn f [] [], .int .i64 (a : Int), .int .i64 c, z, .int .i64 i, .undef, .bool false, .undef], ⟨[], [], H'⟩⟩) ∧
      RelAt H' p v E.length T I W' ∧ (∀ c, c ≠ a → W' c = W c) ∧ ∀ j, j < E.length → (W' a).testBit j = ((W a).testBit j || (decide (b ≤ j) && (decide (hrt E a = hrt E j) && P a j))) := by
  obtain ⟨B, hB⟩ : ∃ B, B = Vm.C.loop ir_ppo_view_intol0 := ⟨_, rfl⟩
  obtain ⟨zn, rfl⟩ := hz
  have hle := w.le
  have h0 : (vwC u lv av dv cv)[0]? = some u := rfl
  have h0' : ∀ h : 0 < (vwC u lv av dv cv).length, (vwC u lv av dv cv)[0] = u := fun _ => rfl
  have hur : (rows u).length = E.length := by rw [w.ev.rows, evR_len]
  have hui := w.ev.is
  have hfp := w.fp
  by_cases c : b < E.length
  · have e3 := succ_i64 c (by omega)
    have e1 := fun m => w.ia ha m
    have e2 := fun m => w.ia c m
    have k1 := hrt_el ha
    have k2 := hrt_el c
    by_cases q : hrt E a = hrt E b
    · have hp := hP a b hab c q
      cases q2 : P a b with
      | true =>
        rw [q2] at hp
        have hadd := Add_ok h a b ha c
        obtain ⟨H', W', cc, r1, r2, r3, r4⟩ := into_l0 a ha (b + 1) (by omega) (by omega) _ _ (h.set ha (W a ||| 2 ^ b) (bit_lt (h.lt a ha) c)) (.int .i64 zn) ⟨zn, rfl⟩ i
        refine ⟨H', W', cc, ?_, r2, fun d hd => ?_, fun j hj => ?_⟩
        · rw [← r1, ← hB]
          conv => lhs; rw [s_loop_at hB]
          generalize vwC u lv av dv cv = vc at *
          have q' : (E[b]).hart = (E[a]).hart := by omega
          generalize E[a] = x at *
          generalize E[b] = y at *
          simp [ir_ppo_view_intol0, go_sem, hui, hur, c, e1, e2, e3, h0, h0', hfp, q', hp, hadd, fpCv, -Int.natCast_add]
        · rw [r3 d hd]
          simp [hd]
        · rw [r4 j hj]
          simp only [if_true, or_bit]
          by_cases e : j = b
          · subst e
            have d1 : ¬ (j + 1 ≤ j) := by omega
            simp [q, q2, d1]
          · have d1 : decide (b + 1 ≤ j) = decide (b ≤ j) := by rw [decide_eq_decide]; omega
            rw [if_neg e, d1]
      | false =>
        rw [q2] at hp
        obtain ⟨H', W', cc, r1, r2, r3, r4⟩ := into_l0 a ha (b + 1) (by omega) (by omega) H W h (.int .i64 zn) ⟨zn, rfl⟩ i
        refine ⟨H', W', cc, ?_, r2, r3, fun j hj => ?_⟩
        · rw [← r1, ← hB]
          conv => lhs; rw [s_loop_at hB]
          generalize vwC u lv av dv cv = vc at *
          have q' : (E[b]).hart = (E[a]).hart := by omega
          generalize E[a] = x at *
          generalize E[b] = y at *
          simp [ir_ppo_view_intol0, go_sem, hui, hur, c, e1, e2, e3, h0, h0', hfp, q', hp, fpCv, -Int.natCast_add]
        · rw [r4 j hj]
          by_cases e : j = b
          · subst e
            have d1 : ¬ (j + 1 ≤ j) := by omega
            simp [q2, d1]
          · have d1 : decide (b + 1 ≤ j) = decide (b ≤ j) := by rw [decide_eq_decide]; omega
            rw [d1]
    · refine ⟨H, W, (b : Int), ?_, h, fun _ _ => rfl, fun j hj => ?_⟩
      · rw [← hB]
        rw [s_loop_at hB]
        generalize vwC u lv av dv cv = vc at *
        have q' : ¬ (((E[b]).hart : Int) = ((E[a]).hart : Int)) := by omega
        have q'' : ¬ ((E[b]).hart = (E[a]).hart) := by omega
        generalize E[a] = x at *
        generalize E[b] = y at *
        simp [ir_ppo_view_intol0, go_sem, hui, hur, c, e1, e2, e3, h0, h0', hfp, q', q'']
      · by_cases d : b ≤ j
        · have := srt2_le hs d hj
          have := srt2_le hs (Nat.le_of_lt hab) c
          have : ¬ hrt E a = hrt E j := by omega
          simp [this]
        · simp [d]
  · obtain rfl : b = E.length := by omega
    refine ⟨H, W, (E.length : Int), ?_, h, fun _ _ => rfl, fun j hj => ?_⟩
    · rw [← hB, s_loop_at hB]
      generalize vwC u lv av dv cv = vc at *
      simp [ir_ppo_view_intol0, go_sem, hui, hur, h0, h0']
    · have : ¬ E.length ≤ j := by omega
      simp [this]
termination_by E.length - b
theorem into_l1 (a : Nat) (ha : a ≤ E.length) (H : List Vm.Obj) (W : Nat → Nat) (h : RelAt H p v E.length T I W) :
    ∃ H' W', evCI pg (.loop ir_ppo_view_intol1) ⟨[.ip false (vwC u lv av dv cv) 0, .ptr p 0 0, .fn f [] [], .undef, .undef, .int .i64 (E.length : Int), .int .i64 (a : Int), .undef, .undef, .undef], ⟨[], [], H⟩⟩ =
        some (.exit 0, ⟨[.ip false (vwC u lv av dv cv) 0, .ptr p 0 0, .fn f [] [], .undef, .undef, .int .i64 (E.length : Int), .int .i64 (E.length : Int), .bool false, .undef, .undef], ⟨[], [], H'⟩⟩) ∧
      RelAt H' p v E.length T I W' ∧ ∀ i j, i < E.length → j < E.length → (W' i).testBit j = ((W i).testBit j || (decide (a ≤ i) && pr E P i j)) := by
  obtain ⟨B, hB⟩ : ∃ B, B = Vm.C.loop ir_ppo_view_intol1 := ⟨_, rfl⟩
  have hle := w.le
  by_cases c : a < E.length
  · have e3 := succ_i64 c (by omega)
    obtain ⟨H1, W1, cc, r1, r2, r3, r4⟩ := into_l0 w hs hP a c (a + 1) (by omega) (by omega) H W h (.int .i64 (E.length : Int)) ⟨_, rfl⟩ (a : Int)
    obtain ⟨H', W', g1, g2, g3⟩ := into_l1 (a + 1) (by omega) H1 W1 r2
    refine ⟨H', W', ?_, g2, fun i j hi hj => ?_⟩
    · rw [← g1, ← hB]
      conv => lhs; rw [s_loop_at hB]
      generalize vwC u lv av dv cv = vc at *
      simp [ir_ppo_view_intol1, go_sem, c, e3, r1, -Int.natCast_add]
    · rw [g3 i j hi hj]
      by_cases e : i = a
      · subst e
        have d1 : ¬ (i + 1 ≤ i) := by omega
        have d2 : decide (i + 1 ≤ j) = decide (i < j) := rfl
        rw [r4 j hj, decide_eq_false d1, Bool.false_and, Bool.or_false, decide_eq_true (Nat.le_refl i), Bool.true_and, d2]
        rfl
      · have d1 : decide (a + 1 ≤ i) = decide (a ≤ i) := by rw [decide_eq_decide]; omega
        rw [r3 i e, d1]
  · obtain rfl : a = E.length := by omega
    refine ⟨H, W, ?_, h, fun i j hi _ => ?_⟩
    · rw [← hB, s_loop_at hB]
      generalize vwC u lv av dv cv = vc at *
      simp [ir_ppo_view_intol1, go_sem]
    · have : ¬ E.length ≤ i := by omega
      simp [this]
termination_by E.length - a
theorem into_ok (H : List Vm.Obj) (W : Nat → Nat) (h : RelAt H p v E.length T I W) :
    ∃ H' W', evI pg .heap n_ppo_view_into [.ip false (vwC u lv av dv cv) 0, .ptr p 0 0, .fn f [] []] H = some (.tup [], H') ∧ RelAt H' p v E.length T I W' ∧ ∀ i j, i < E.length → j < E.length → (W' i).testBit j = ((W i).testBit j || pr E P i j) := by
  obtain ⟨H', W', g1, g2, g3⟩ := into_l1 w hs hP 0 (by omega) H W h
  rw [Int.natCast_zero] at g1
  refine ⟨H', W', ?_, g2, fun i j hi hj => ?_⟩
  · have hur : (rows u).length = E.length := by rw [w.ev.rows, evR_len]
    have hui := w.ev.is
    have h0 : (vwC u lv av dv cv)[0]? = some u := rfl
    have h0' : ∀ h : 0 < (vwC u lv av dv cv).length, (vwC u lv av dv cv)[0] = u := fun _ => rfl
    generalize vwC u lv av dv cv = vc at *
    rw [s_fn fn_ppo_view_into]
    simp [ir_ppo_view_into, go_sem, h0, h0', hui, hur, g1]
  · rw [g3 i j hi hj]
    simp
end
end Go.Proofs.YtccdkkgimaajbaaDoor
