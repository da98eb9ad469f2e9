/- Layer 22: two loads (no claim; lemmas). -/
import Derived.Test.YtccdkkgimaajbaaDoorK22h
set_option linter.unusedSimpArgs false
set_option linter.unusedVariables false
namespace Go.Proofs.YtccdkkgimaajbaaDoor
open Go Go.Vm

def stH (at_ : Int) (m : Ev) : Bool := m.st && hasE m at_
def byt (x y : Ev) (M : List Ev) (k : Nat) : Bool := hasE y (adE x.r + k) && (decide (x.r.tg k ≠ y.r.tg (adE x.r + k - adE y.r).toNat) && !M.any (stH (adE x.r + k)))
def r2 (x y : Ev) (M : List Ev) : Bool := (x.ld && (y.ld && ovE x y)) && (List.range (szO x.r.ins.op)).any (byt x y M)
theorem loads_l0 {bv : V} {M : List Ev} (hv : Sl bv (evR M)) (hM : M.length ≤ 512) (t : Bool) (cc : List V) (a b n k : Int) (x y : Ev) (at_ : Int) (i : Nat) (hi : i ≤ M.length) :
    ((M.drop i).any (stH at_) = true → ∃ j : Int, evCI pg (.loop ir_ppo_view_loadsl0) ⟨[.ip t cc 0, .int .i64 a, .int .i64 b, .undef, .lp 0 0, .lp 1 0, .undef, .int .i64 at_, .undef, .undef, .int .i64 n, .int .i64 k, .undef, .undef, bv, .int .i64 (M.length : Int), .int .i64 (i : Int), .undef, .undef], ⟨[evC x, evC y, []], [], []⟩⟩ =
      some (.exit 1, ⟨[.ip t cc 0, .int .i64 a, .int .i64 b, .undef, .lp 0 0, .lp 1 0, .undef, .int .i64 at_, .undef, .undef, .int .i64 n, .int .i64 k, .undef, .undef, bv, .int .i64 (M.length : Int), .int .i64 j, .undef, .bool true], ⟨[evC x, evC y, []], [], []⟩⟩)) ∧
    ((M.drop i).any (stH at_) = false → evCI pg (.loop ir_ppo_view_loadsl0) ⟨[.ip t cc 0, .int .i64 a, .int .i64 b, .undef, .lp 0 0, .lp 1 0, .undef, .int .i64 at_, .undef, .undef, .int .i64 n, .int .i64 k, .undef, .undef, bv, .int .i64 (M.length : Int), .int .i64 (i : Int), .undef, .undef], ⟨[evC x, evC y, []], [], []⟩⟩ =
      some (.exit 2, ⟨[.ip t cc 0, .int .i64 a, .int .i64 b, .undef, .lp 0 0, .lp 1 0, .undef, .int .i64 at_, .undef, .undef, .int .i64 n, .int .i64 k, .undef, .undef, bv, .int .i64 (M.length : Int), .int .i64 (M.length : Int), .bool false, .undef], ⟨[evC x, evC y, []], [], []⟩⟩)) := by
  obtain ⟨B, hB⟩ : ∃ B, B = Vm.C.loop ir_ppo_view_loadsl0 := ⟨_, rfl⟩
  by_cases c : i < M.length
  · have e3 := succ_i64 c (by omega)
    have e1 := fun m => hv.ia (sz := 33) m .i64 (i := i) (by rw [evR_len]; exact c) (evR_sz _ _ (List.getElem_mem _))
    simp only [evR_el] at e1
    have hh := has_ok M[i] at_
    obtain ⟨ih1, ih2⟩ := loads_l0 hv hM t cc a b n k x y at_ (i + 1) (by omega)
    rw [List.drop_eq_getElem_cons c, List.any_cons]
    rw [← hB] at ih1 ih2
    rw [← hB, s_loop_at hB]
    generalize M[i] = m at *
    have hm : stH at_ m = (m.st && hasE m at_) := rfl
    rw [hm]
    cases q1 : m.st with
    | false =>
      have q1' := q1
      simp only [Ev.st] at q1'
      rw [Bool.false_and, Bool.false_or]
      refine ⟨fun h => ?_, fun h => ?_⟩
      · obtain ⟨j, h⟩ := ih1 h
        refine ⟨j, ?_⟩
        rw [← h]
        simp [ir_ppo_view_loadsl0, go_sem, hv.is, c, e1, e3, q1', evStore, splice, V.cells, V.exp, -Int.natCast_add]
      · rw [← ih2 h]
        simp [ir_ppo_view_loadsl0, go_sem, hv.is, c, e1, e3, q1', evStore, splice, V.cells, V.exp, -Int.natCast_add]
    | true =>
      have q1' := q1
      simp only [Ev.st] at q1'
      rw [Bool.true_and]
      cases q2 : hasE m at_ with
      | false =>
        rw [q2] at hh
        rw [Bool.false_or]
        refine ⟨fun h => ?_, fun h => ?_⟩
        · obtain ⟨j, h⟩ := ih1 h
          refine ⟨j, ?_⟩
          rw [← h]
          simp [ir_ppo_view_loadsl0, go_sem, hv.is, c, e1, e3, q1', hh, evStore, splice, V.cells, V.exp, -Int.natCast_add]
        · rw [← ih2 h]
          simp [ir_ppo_view_loadsl0, go_sem, hv.is, c, e1, e3, q1', hh, evStore, splice, V.cells, V.exp, -Int.natCast_add]
      | true =>
        rw [q2] at hh
        rw [Bool.true_or]
        refine ⟨fun _ => ⟨(i : Int), ?_⟩, fun h => by cases h⟩
        simp [ir_ppo_view_loadsl0, go_sem, hv.is, c, e1, e3, q1', hh, evStore, splice, V.cells, V.exp, -Int.natCast_add]
  · obtain rfl : i = M.length := by omega
    rw [← hB, s_loop_at hB, List.drop_length]
    refine ⟨fun h => by simp at h, fun _ => ?_⟩
    simp [ir_ppo_view_loadsl0, go_sem, hv.is]
termination_by M.length - i
theorem evC_tgk (e : Ev) (k : Nat) (hk : k < 8) : (evC e)[20 + k]? = some (.int .i64 (e.r.tg k)) := by
  rcases (by omega : k = 0 ∨ k = 1 ∨ k = 2 ∨ k = 3 ∨ k = 4 ∨ k = 5 ∨ k = 6 ∨ k = 7) with rfl | rfl | rfl | rfl | rfl | rfl | rfl | rfl <;> rfl
section
variable {t : Bool} {u : V} {lv av dv cv : Nat → V} {E : List Ev} {R : Nat → List Rt} {A D C : Nat → Nat → Nat} (w : Vw u lv av dv cv E R A D C)
include w
variable {a b : Nat} (hab : a < b) (hb : b < E.length)
include hab hb
theorem loads_l1 (hx : 0 ≤ adE (E[a]).r ∧ adE (E[a]).r ≤ 1024) (hy : 0 ≤ adE (E[b]).r ∧ adE (E[b]).r ≤ 1024) (k : Nat) (hk : k ≤ szO (E[a]).r.ins.op) :
    evCI pg (.loop ir_ppo_view_loadsl1) ⟨[.ip t (vwC u lv av dv cv) 0, .int .i64 (a : Int), .int .i64 (b : Int), .undef, .lp 0 0, .lp 1 0, .undef, .undef, .undef, .undef, .int .i64 (szO (E[a]).r.ins.op : Nat), .int .i64 (k : Int), .undef, .undef, .undef, .undef, .undef, .undef, .undef], ⟨[evC E[a], evC E[b], []], [], []⟩⟩ =
      some (if (List.range' k (szO (E[a]).r.ins.op - k)).any (byt E[a] E[b] (btw E a b)) = true then (.ret, ⟨[.undef, .undef, .undef, .bool true, .undef, .undef, .undef, .undef, .undef, .undef, .undef, .undef, .undef, .undef, .undef, .undef, .undef, .undef, .undef], ⟨[[], [], []], [], []⟩⟩)
        else (.exit 0, ⟨[.ip t (vwC u lv av dv cv) 0, .int .i64 (a : Int), .int .i64 (b : Int), .undef, .lp 0 0, .lp 1 0, .undef, .undef, .undef, .undef, .int .i64 (szO (E[a]).r.ins.op : Nat), .int .i64 (szO (E[a]).r.ins.op : Nat), .bool false, .undef, .undef, .undef, .undef, .undef, .undef], ⟨[evC E[a], evC E[b], []], [], []⟩⟩)) := by
  obtain ⟨B, hB⟩ : ∃ B, B = Vm.C.loop ir_ppo_view_loadsl1 := ⟨_, rfl⟩
  have h8 := szO_le (E[a]).r.ins.op
  have hle := w.le
  by_cases c : k < szO (E[a]).r.ins.op
  · have e3 := succ_i64 c (by omega)
    have ih := loads_l1 hx hy (k + 1) (by omega)
    have hd : List.range' k (szO (E[a]).r.ins.op - k) = k :: List.range' (k + 1) (szO (E[a]).r.ins.op - (k + 1)) := by
      have : szO (E[a]).r.ins.op - k = (szO (E[a]).r.ins.op - (k + 1)) + 1 := by omega
      rw [this, List.range'_succ]
    have hH := has_ok E[b] (adE (E[a]).r + k)
    have ew : IntKind.i64.wrap (adE (E[a]).r + (k : Int)) = adE (E[a]).r + k := i64_small (by omega)
    obtain ⟨bv, g1, g2⟩ := between_ok (t := t) w hab hb
    have hbl : (btw E a b).length ≤ 512 := by rw [btw_len (by omega)]; omega
    obtain ⟨l1, l2⟩ := loads_l0 g2 hbl t (vwC u lv av dv cv) (a : Int) (b : Int) (szO (E[a]).r.ins.op : Nat) (k : Int) E[a] E[b] (adE (E[a]).r + k) 0 (by omega)
    rw [List.drop_zero, Int.natCast_zero] at l1 l2
    have hbr : (rows bv).length = (btw E a b).length := by rw [g2.rows, evR_len]
    have htx := evC_tgk E[a] k (by omega)
    have hby : byt E[a] E[b] (btw E a b) k = (hasE E[b] (adE (E[a]).r + k) && (decide ((E[a]).r.tg k ≠ (E[b]).r.tg (adE (E[a]).r + k - adE (E[b]).r).toNat) && !(btw E a b).any (stH (adE (E[a]).r + k)))) := rfl
    rw [hd, List.any_cons, hby]
    rw [← hB] at ih
    rw [← hB, s_loop_at hB]
    clear hd hby
    generalize vwC u lv av dv cv = cc at *
    have hkc : (k : Int) < ((szO (E[a]).r.ins.op : Nat) : Int) := by omega
    have hk8 : (k : Int) < 8 := by omega
    cases q1 : hasE E[b] (adE (E[a]).r + k) with
    | false =>
      rw [q1] at hH
      rw [Bool.false_and, Bool.false_or, ← ih]
      simp [ir_ppo_view_loadsl1, go_sem, c, hkc, e3, ew, hH, -Int.natCast_add]
    | true =>
      rw [q1] at hH
      have hin := q1
      unfold hasE ovl at hin
      simp only [Bool.and_eq_true, decide_eq_true_eq] at hin
      have h8y := szO_le (E[b]).r.ins.op
      obtain ⟨d, hd⟩ : ∃ d : Nat, adE (E[a]).r + k - adE (E[b]).r = d := ⟨(adE (E[a]).r + k - adE (E[b]).r).toNat, by omega⟩
      have hd8 : d < 8 := by omega
      have ew2 : IntKind.i64.wrap (adE (E[a]).r + k - adE (E[b]).r) = (d : Int) := by rw [hd]; exact i64_small (by omega)
      have hty := evC_tgk E[b] d hd8
      have hd8' : (d : Int) < 8 := by omega
      rw [hd, Int.toNat_natCast, Bool.true_and]
      have hk8' : k < 8 := by omega
      by_cases q2 : (E[a]).r.tg k = (E[b]).r.tg d
      · rw [decide_eq_false (fun h => h q2), Bool.false_and, Bool.false_or, ← ih]
        simp [ir_ppo_view_loadsl1, go_sem, c, hkc, e3, ew, ew2, hH, hk8, hk8', hd8, hd8', htx, hty, q2, -Int.natCast_add]
      · rw [decide_eq_true q2, Bool.true_and]
        cases q3 : (btw E a b).any (stH (adE (E[a]).r + k)) with
        | true =>
          obtain ⟨j, l1⟩ := l1 q3
          rw [Bool.not_true, Bool.false_or, ← ih]
          simp [ir_ppo_view_loadsl1, go_sem, c, hkc, e3, ew, ew2, hH, hk8, hk8', hd8, hd8', htx, hty, q2, g1, g2.is, hbr, l1, -Int.natCast_add]
        | false =>
          have l2 := l2 q3
          rw [Bool.not_false, Bool.true_or, if_pos rfl]
          simp [ir_ppo_view_loadsl1, go_sem, c, hkc, e3, ew, ew2, hH, hk8, hk8', hd8, hd8', htx, hty, q2, g1, g2.is, hbr, l2, -Int.natCast_add]
  · have e : k = szO (E[a]).r.ins.op := by omega
    rw [e, ← hB, s_loop_at hB, Nat.sub_self]
    simp [ir_ppo_view_loadsl1, go_sem]
termination_by szO (E[a]).r.ins.op - k
theorem loads_ok : evI pg .val n_ppo_view_loads [.ip t (vwC u lv av dv cv) 0, .int .i64 (a : Int), .int .i64 (b : Int)] [] = some (.bool (r2 E[a] E[b] (btw E a b)), []) := by
  have ha : a < E.length := by omega
  have e1 := fun m => w.ia ha m
  have e2 := fun m => w.ia hb m
  have hfp := w.fp
  have ho := overlap_ok E[a] E[b]
  have hu : ∀ r : Rt, adE r ≤ 1024 := fun r => by unfold adE; split <;> omega
  have hl : ovE E[a] E[b] = true → _ := fun h => loads_l1 (t := t) w hab hb (by
    unfold ovE ovl isR at h
    simp only [Bool.and_eq_true, decide_eq_true_eq] at h
    exact ⟨h.1.1.1.1, hu _⟩) (by
    unfold ovE ovl isR at h
    simp only [Bool.and_eq_true, decide_eq_true_eq] at h
    exact ⟨h.1.1.2.1, hu _⟩) 0 (Nat.zero_le _)
  have h0 : (vwC u lv av dv cv)[0]? = some u := rfl
  have h0' : ∀ h : 0 < (vwC u lv av dv cv).length, (vwC u lv av dv cv)[0] = u := fun _ => rfl
  have hr : r2 E[a] E[b] (btw E a b) = (((E[a]).ld && ((E[b]).ld && ovE E[a] E[b])) && (List.range (szO (E[a]).r.ins.op)).any (byt E[a] E[b] (btw E a b))) := rfl
  rw [hr]
  rw [Nat.sub_zero, ← List.range_eq_range', Int.natCast_zero] at hl
  generalize vwC u lv av dv cv = c at *
  generalize (List.range (szO (E[a]).r.ins.op)).any (byt E[a] E[b] (btw E a b)) = z at *
  generalize E[a] = x at *
  generalize E[b] = y at *
  rw [s_fn fn_ppo_view_loads]
  cases q1 : x.ld with
  | false =>
    simp only [Ev.ld] at q1
    simp [ir_ppo_view_loads, go_sem, hfp, e1, e2, h0, h0', q1, evStore, splice, V.cells, V.exp]
  | true =>
    simp only [Ev.ld] at q1
    cases q2 : y.ld with
    | false =>
      simp only [Ev.ld] at q2
      simp [ir_ppo_view_loads, go_sem, hfp, e1, e2, h0, h0', q1, q2, evStore, splice, V.cells, V.exp]
    | true =>
      simp only [Ev.ld] at q2
      cases q3 : ovE x y with
      | false =>
        rw [q3] at ho
        simp [ir_ppo_view_loads, go_sem, hfp, e1, e2, h0, h0', q1, q2, ho, evStore, splice, V.cells, V.exp]
      | true =>
        rw [q3] at ho
        have hl := hl q3
        cases z with
        | true =>
          rw [if_pos rfl] at hl
          simp [ir_ppo_view_loads, go_sem, hfp, e1, e2, h0, h0', q1, q2, ho, hl, evStore, splice, V.cells, V.exp]
        | false =>
          rw [if_neg (by simp)] at hl
          simp [ir_ppo_view_loads, go_sem, hfp, e1, e2, h0, h0', q1, q2, ho, hl, evStore, splice, V.cells, V.exp]
end
end Go.Proofs.YtccdkkgimaajbaaDoor
