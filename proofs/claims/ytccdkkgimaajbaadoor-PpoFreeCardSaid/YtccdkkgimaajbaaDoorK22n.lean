/- Layer 22: one rule, all rules (no claim; lemmas). -/
import Derived.Test.YtccdkkgimaajbaaDoorK22m
set_option linter.unusedSimpArgs false
set_option linter.unusedVariables false
namespace Go.Proofs.YtccdkkgimaajbaaDoor
open Go Go.Vm

def rulE (R : Nat → List Rt) (A D C : Nat → Nat → Nat) (k : Nat) (x y : Ev) (M : List Ev) : Bool :=
  if k = 0 then r1 x y else if k = 1 then r2 x y M else if k = 2 then r3 x y else if k = 3 then r4 R x y else if k = 4 then x.r.ins.aq else if k = 5 then y.r.ins.rl
  else if k = 6 then strE x && strE y else if k = 7 then r8 x y else if k = 8 then hgs R A x y else if k = 9 then hgs R D x y else if k = 10 then y.st && hgs R C x y
  else if k = 11 then r12 R A D x y M else r13 R A x y
/-- What a rule says of two places. -/
def rul (R : Nat → List Rt) (A D C : Nat → Nat → Nat) (E : List Ev) (k a b : Nat) : Bool := match E[a]?, E[b]? with
  | some x, some y => rulE R A D C k x y (btw E a b)
  | _, _ => false
def fnn (k : Nat) : Nat := [33, 34, 35, 36, 37, 38, 39, 41, 42, 45, 47, 49, 50].getD k 0
theorem lt13 {k : Nat} (h : k < 13) : k = 0 ∨ k = 1 ∨ k = 2 ∨ k = 3 ∨ k = 4 ∨ k = 5 ∨ k = 6 ∨ k = 7 ∨ k = 8 ∨ k = 9 ∨ k = 10 ∨ k = 11 ∨ k = 12 := by omega
def tabF : List V := (List.range 13).map fun k => .fn (fnn k) [] []
theorem tabF_len : tabF.length = 13 := rfl
theorem rules_ok : evI pg .val n_ppo_rules [] [] = some (.agg tabF, []) := closed irL_ok 20 (by kernel_rfl)
theorem tabF_get {k : Nat} (h : k < 13) : tabF[k]? = some (.fn (fnn k) [] []) ∧ (tabF.drop k).take 1 = [.fn (fnn k) [] []] := by
  rcases lt13 h with rfl | rfl | rfl | rfl | rfl | rfl | rfl | rfl | rfl | rfl | rfl | rfl | rfl <;> exact ⟨rfl, rfl⟩
section
variable {u : V} {lv av dv cv : Nat → V} {E : List Ev} {R : Nat → List Rt} {A D C : Nat → Nat → Nat} (w : Vw u lv av dv cv E R A D C) (hs : srt2 E)
include w hs
theorem says_ok {k : Nat} (hk : k < 13) (a b : Nat) (hab : a < b) (hb : b < E.length) (hh : hrt E a = hrt E b) :
    evI pg .val (fnn k) [.ip false (vwC u lv av dv cv) 0, .int .i64 (a : Int), .int .i64 (b : Int)] [] = some (.bool (rul R A D C E k a b), []) := by
  have ha : a < E.length := by omega
  have hr : rul R A D C E k a b = rulE R A D C k E[a] E[b] (btw E a b) := by simp [rul, ha, hb]
  have hlt := srt2_at hs hab hb hh
  have hh' : (E[a]).hart = (E[b]).hart := by rw [hrt_el ha, hrt_el hb] at hh; exact hh
  rw [hr]
  rcases lt13 hk with rfl | rfl | rfl | rfl | rfl | rfl | rfl | rfl | rfl | rfl | rfl | rfl | rfl
  · exact vsame_ok w ha hb
  · exact loads_ok w hab hb
  · exact written_ok w ha hb
  · exact fenced_ok w hab hb hh' hlt
  · exact rules1_ok w ha
  · exact rules2_ok w hb
  · exact rules3_ok w ha hb
  · exact paired_ok w ha hb
  · exact rules4_ok w ha hb
  · exact rules5_ok w ha hb
  · exact rules6_ok w ha hb
  · exact through_ok w hab hb
  · exact known_ok w hab hb hlt
/-- What some rule of the first ones says. -/
def anyR (R : Nat → List Rt) (A D C : Nat → Nat → Nat) (E : List Ev) (k a b : Nat) : Bool := (List.range k).any fun j => rul R A D C E j a b
variable {p : Nat} {v : V} {T : Nat} {I : Nat → Nat}
theorem All_loop (k : Nat) (hk : k ≤ 13) (H : List Vm.Obj) (W : Nat → Nat) (h : RelAt H p v E.length T I W) :
    ∃ H' W', evCI pg (.loop ir_ppo_Alll0) ⟨[.undef, .undef, .undef, .ip false (vwC u lv av dv cv) 0, .undef, .ptr p 0 0, .undef, .undef, .agg tabF, .int .i64 (k : Int), .undef], ⟨[[], []], [], H⟩⟩ =
        some (.exit 0, ⟨[.undef, .undef, .undef, .ip false (vwC u lv av dv cv) 0, .undef, .ptr p 0 0, .undef, .undef, .agg tabF, .int .i64 13, .bool false], ⟨[[], []], [], H'⟩⟩) ∧
      RelAt H' p v E.length T I W' ∧ ∀ i j, i < E.length → j < E.length → (W' i).testBit j = ((W i).testBit j || pr E (fun a b => (List.range' k (13 - k)).any fun q => rul R A D C E q a b) i j) := by
  obtain ⟨B, hB⟩ : ∃ B, B = Vm.C.loop ir_ppo_Alll0 := ⟨_, rfl⟩
  by_cases c : k < 13
  · have e3 := succ_i64 c (by omega)
    obtain ⟨H1, W1, r1, r2, r3⟩ := into_ok w hs (says_ok w hs c) H W h
    obtain ⟨H', W', g1, g2, g3⟩ := All_loop (k + 1) (by omega) H1 W1 r2
    refine ⟨H', W', ?_, g2, fun i j hi hj => ?_⟩
    · rw [← g1, ← hB]
      conv => lhs; rw [s_loop_at hB]
      generalize vwC u lv av dv cv = vc at *
      obtain ⟨ht, ht2⟩ := tabF_get c
      have c12 : k ≤ 12 := by omega
      have htl := tabF_len
      have c' : (k : Int) < 13 := by omega
      generalize tabF = tf at *
      simp [ir_ppo_Alll0, go_sem, c, c', c12, e3, ht, ht2, htl, r1, evStore, splice, V.cells, V.exp, -Int.natCast_add]
    · rw [g3 i j hi hj, r3 i j hi hj]
      have hd : List.range' k (13 - k) = k :: List.range' (k + 1) (13 - (k + 1)) := by
        have : 13 - k = (13 - (k + 1)) + 1 := by omega
        rw [this, List.range'_succ]
      rw [hd]
      unfold pr
      simp only [List.any_cons]
      generalize ((List.range' (k + 1) (13 - (k + 1))).any fun q => rul R A D C E q i j) = z
      cases (W i).testBit j <;> cases decide (i < j) <;> cases decide (hrt E i = hrt E j) <;> cases rul R A D C E k i j <;> cases z <;> rfl
  · obtain rfl : k = 13 := by omega
    refine ⟨H, W, ?_, h, fun i j hi _ => ?_⟩
    · rw [← hB, s_loop_at hB]
      generalize vwC u lv av dv cv = vc at *
      generalize tabF = tf at *
      simp [ir_ppo_Alll0, go_sem]
    · simp [pr]
termination_by 13 - k
end
section
variable {u : V} {lv av dv cv : Nat → V} {E : List Ev} {R : Nat → List Rt} {A D C : Nat → Nat → Nat} (w : Vw u lv av dv cv E R A D C) (hs : srt2 E)
  {x0 x1 x2 x3 x4 : V} (hlk : evI pg .val n_ppo_look [.agg [x0, x1, x2, x3, x4]] [] = some (.tup [.ip false (vwC u lv av dv cv) 0, .bool true], [])) (hi : isS x0 = true ∧ isS x1 = true ∧ isS x2 = true ∧ isS x3 = true ∧ isS x4 = true)
include w hs hlk hi
theorem All_ok2 : ∃ rv W, evI pg .val n_ppo_All [.agg [x0, x1, x2, x3, x4]] [] = some (.ip false [rv] 0, []) ∧ clean 7 rv = true ∧ RelV rv E.length W ∧ ∀ i j, i < E.length → j < E.length → (W i).testBit j = pr E (anyR R A D C E 13) i j := by
  obtain ⟨H1, v, T, I, n1, n2, n3, n4⟩ := New_ok E.length w.le []
  obtain ⟨H', W', g1, g2, g3⟩ := All_loop w hs 0 (by omega) H1 _ n2
  obtain ⟨rv, q1, q2, q3⟩ := g2.imm false
  have q2 := fun vs tk => q2 vs tk 4
  simp only [Nat.reduceAdd] at q2
  refine ⟨rv, W', ?_, q3 rfl 4, q1, fun i j hi hj => ?_⟩
  · have hur : (rows u).length = E.length := by rw [w.ev.rows, evR_len]
    have hui := w.ev.is
    have h0 : (vwC u lv av dv cv)[0]? = some u := rfl
    have h0' : ∀ h : 0 < (vwC u lv av dv cv).length, (vwC u lv av dv cv)[0] = u := fun _ => rfl
    rw [Int.natCast_zero] at g1
    have ho := g2.obj
    simp only [List.length_nil] at n1 g1 ho
    have hol := get_lt ho
    have hog := get_el ho hol
    have hrul := rules_ok
    generalize vwC u lv av dv cv = vc at *
    generalize tabF = tf at *
    obtain ⟨i0, i1, i2, i3, i4⟩ := hi
    rw [s_fn fn_ppo_All]
    simp [ir_ppo_All, go_sem, hlk, h0, h0', hui, hur, n1, hrul, g1, q2, ho, hol, hog, i0, i1, i2, i3, i4, V.cells, V.exp]
  · rw [g3 i j hi hj]
    simp only [Nat.zero_testBit, Bool.false_or, Nat.sub_zero]
    rfl
theorem All_ok : ∃ rv W, evI pg .val n_ppo_All [.agg [x0, x1, x2, x3, x4]] [] = some (.ip false [rv] 0, []) ∧ RelV rv E.length W ∧ ∀ i j, i < E.length → j < E.length → (W i).testBit j = pr E (anyR R A D C E 13) i j := by
  obtain ⟨rv, W, h1, _, h2, h3⟩ := All_ok2 w hs hlk hi
  exact ⟨rv, W, h1, h2, h3⟩
theorem Rule_ok (k : Nat) (hk : k < 13) : ∃ rv W, evI pg .val n_ppo_Rule [.agg [x0, x1, x2, x3, x4], .int .i64 ((k : Int) + 1)] [] = some (.ip false [rv] 0, []) ∧ RelV rv E.length W ∧ ∀ i j, i < E.length → j < E.length → (W i).testBit j = pr E (fun a b => rul R A D C E k a b) i j := by
  obtain ⟨H1, v, T, I, n1, n2, n3, n4⟩ := New_ok E.length w.le []
  obtain ⟨H', W', g1, g2, g3⟩ := into_ok w hs (says_ok w hs hk) H1 _ n2
  obtain ⟨rv, q1, q2, q3⟩ := g2.imm false
  have q2 := fun vs tk => q2 vs tk 4
  simp only [Nat.reduceAdd] at q2
  refine ⟨rv, W', ?_, q1, fun i j hi hj => ?_⟩
  · have hur : (rows u).length = E.length := by rw [w.ev.rows, evR_len]
    have hui := w.ev.is
    have h0 : (vwC u lv av dv cv)[0]? = some u := rfl
    have h0' : ∀ h : 0 < (vwC u lv av dv cv).length, (vwC u lv av dv cv)[0] = u := fun _ => rfl
    have ho := g2.obj
    simp only [List.length_nil] at n1 g1 ho
    have hol := get_lt ho
    have hog := get_el ho hol
    have hrul := rules_ok
    obtain ⟨ht, ht2⟩ := tabF_get hk
    have c12 : k ≤ 12 := by omega
    have htl := tabF_len
    have k1 : ¬ ((k : Int) + 1 < 1) := by omega
    have k2 : ¬ (13 < (k : Int) + 1) := by omega
    have k3 : IntKind.i64.wrap ((k : Int) + 1 - 1) = (k : Int) := by rw [Int.add_sub_cancel]; exact i64_small (by omega)
    have k3' : IntKind.i64.wrap (k : Int) = (k : Int) := i64_small (by omega)
    have k4 : (k : Int) < 13 := by omega
    have k5 : (k : Int) + 1 ≤ 13 := by omega
    generalize vwC u lv av dv cv = vc at *
    generalize tabF = tf at *
    obtain ⟨i0, i1, i2, i3, i4⟩ := hi
    rw [s_fn fn_ppo_Rule]
    simp [ir_ppo_Rule, go_sem, hlk, h0, h0', hui, hur, n1, hrul, ht, ht2, htl, hk, c12, k1, k2, k3, k3', k4, k5, g1, q2, ho, hol, hog, i0, i1, i2, i3, i4, V.cells, V.exp]
  · rw [g3 i j hi hj]
    simp only [Nat.zero_testBit, Bool.false_or]
end
end Go.Proofs.YtccdkkgimaajbaaDoor
