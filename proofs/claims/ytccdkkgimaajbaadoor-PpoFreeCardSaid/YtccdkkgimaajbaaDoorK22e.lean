/- Layer 22: what hangs, and the rules that look along a list (no claim; lemmas). -/
import Derived.Test.YtccdkkgimaajbaaDoorK22d
set_option linter.unusedSimpArgs false
set_option linter.unusedVariables false
namespace Go.Proofs.YtccdkkgimaajbaaDoor
open Go Go.Vm

def hgs (R : Nat → List Rt) (A : Nat → Nat → Nat) (x y : Ev) : Bool := hasW (R x.hart).length (A x.hart) x.at' y.at'
def r13 (R : Nat → List Rt) (A : Nat → Nat → Nat) (x y : Ev) : Bool := y.st && (List.range' (x.at' + 1) (y.at' - (x.at' + 1))).any fun k => hasW (R x.hart).length (A x.hart) x.at' k
theorem lt3 {n : Nat} (h : n < 3) : n = 0 ∨ n = 1 ∨ n = 2 := by omega
section
variable {t : Bool} {u : V} {lv av dv cv : Nat → V} {E : List Ev} {R : Nat → List Rt} {A D C : Nat → Nat → Nat} (w : Vw u lv av dv cv E R A D C)
include w
variable {a b : Nat} (ha : a < E.length) (hb : b < E.length)
include ha hb
theorem hangsA_ok : evI pg .val n_ppo_view_hangs [.ip t (vwC u lv av dv cv) 0, .fn n_ppo_byAddress [] [], .int .i64 (a : Int), .int .i64 (b : Int)] [] = some (.bool (hgs R A E[a] E[b]), []) := by
  have e1 := fun m => w.ia ha m
  have e2 := fun m => w.ia hb m
  have hfp := w.fp
  obtain ⟨k1, k2⟩ := w.ok E[a] (List.getElem_mem _)
  have hr := Has_ok (t := false) (w.ad (E[a]).hart k1) ((E[a]).at' : Int) ((E[b]).at' : Int)
  have l0 := (w.li 0 (by omega)).1.is
  have l1 := (w.li 1 (by omega)).1.is
  have l2 := (w.li 2 (by omega)).1.is
  unfold hgs
  generalize E[a] = x at *
  generalize E[b] = y at *
  have hh := evCq_hart x
  rcases lt3 k1 with h | h | h <;> rw [h] at hr hh ⊢ <;>
  · have hc : ∀ z : Nat, evI pg .val n_ppo_byAddress [.agg [lv z, .ip false [av z] 0, .ip false [dv z] 0, .ip false [cv z] 0]] [] = some (.ip false [av z] 0, []) := by
      intro z
      rw [s_fn fn_ppo_byAddress]
      simp [ir_ppo_byAddress, go_sem, V.cells, V.exp]
    rw [s_fn fn_ppo_view_hangs]
    simp [ir_ppo_view_hangs, go_sem, vwC, hfp, e1, e2, hr, hh, hc, l0, l1, l2, h, fpCv]
theorem hangsD_ok : evI pg .val n_ppo_view_hangs [.ip t (vwC u lv av dv cv) 0, .fn n_ppo_byData [] [], .int .i64 (a : Int), .int .i64 (b : Int)] [] = some (.bool (hgs R D E[a] E[b]), []) := by
  have e1 := fun m => w.ia ha m
  have e2 := fun m => w.ia hb m
  have hfp := w.fp
  obtain ⟨k1, k2⟩ := w.ok E[a] (List.getElem_mem _)
  have hr := Has_ok (t := false) (w.da (E[a]).hart k1) ((E[a]).at' : Int) ((E[b]).at' : Int)
  have l0 := (w.li 0 (by omega)).1.is
  have l1 := (w.li 1 (by omega)).1.is
  have l2 := (w.li 2 (by omega)).1.is
  unfold hgs
  generalize E[a] = x at *
  generalize E[b] = y at *
  have hh := evCq_hart x
  rcases lt3 k1 with h | h | h <;> rw [h] at hr hh ⊢ <;>
  · have hc : ∀ z : Nat, evI pg .val n_ppo_byData [.agg [lv z, .ip false [av z] 0, .ip false [dv z] 0, .ip false [cv z] 0]] [] = some (.ip false [dv z] 0, []) := by
      intro z
      rw [s_fn fn_ppo_byData]
      simp [ir_ppo_byData, go_sem, V.cells, V.exp]
    rw [s_fn fn_ppo_view_hangs]
    simp [ir_ppo_view_hangs, go_sem, vwC, hfp, e1, e2, hr, hh, hc, l0, l1, l2, h, fpCv]
theorem hangsC_ok : evI pg .val n_ppo_view_hangs [.ip t (vwC u lv av dv cv) 0, .fn n_ppo_byCourse [] [], .int .i64 (a : Int), .int .i64 (b : Int)] [] = some (.bool (hgs R C E[a] E[b]), []) := by
  have e1 := fun m => w.ia ha m
  have e2 := fun m => w.ia hb m
  have hfp := w.fp
  obtain ⟨k1, k2⟩ := w.ok E[a] (List.getElem_mem _)
  have hr := Has_ok (t := false) (w.co (E[a]).hart k1) ((E[a]).at' : Int) ((E[b]).at' : Int)
  have l0 := (w.li 0 (by omega)).1.is
  have l1 := (w.li 1 (by omega)).1.is
  have l2 := (w.li 2 (by omega)).1.is
  unfold hgs
  generalize E[a] = x at *
  generalize E[b] = y at *
  have hh := evCq_hart x
  rcases lt3 k1 with h | h | h <;> rw [h] at hr hh ⊢ <;>
  · have hc : ∀ z : Nat, evI pg .val n_ppo_byCourse [.agg [lv z, .ip false [av z] 0, .ip false [dv z] 0, .ip false [cv z] 0]] [] = some (.ip false [cv z] 0, []) := by
      intro z
      rw [s_fn fn_ppo_byCourse]
      simp [ir_ppo_byCourse, go_sem, V.cells, V.exp]
    rw [s_fn fn_ppo_view_hangs]
    simp [ir_ppo_view_hangs, go_sem, vwC, hfp, e1, e2, hr, hh, hc, l0, l1, l2, h, fpCv]
theorem rules4_ok : evI pg .val n_ppo_rules_4 [.ip t (vwC u lv av dv cv) 0, .int .i64 (a : Int), .int .i64 (b : Int)] [] = some (.bool (hgs R A E[a] E[b]), []) := by
  have h := hangsA_ok (t := t) w ha hb
  have l0 := (w.li 0 (by omega)).1.is
  generalize vwC u lv av dv cv = c at *
  rw [s_fn fn_ppo_rules_4]
  simp [ir_ppo_rules_4, go_sem, h]
theorem rules5_ok : evI pg .val n_ppo_rules_5 [.ip t (vwC u lv av dv cv) 0, .int .i64 (a : Int), .int .i64 (b : Int)] [] = some (.bool (hgs R D E[a] E[b]), []) := by
  have h := hangsD_ok (t := t) w ha hb
  generalize vwC u lv av dv cv = c at *
  rw [s_fn fn_ppo_rules_5]
  simp [ir_ppo_rules_5, go_sem, h]
theorem rules6_ok : evI pg .val n_ppo_rules_6 [.ip t (vwC u lv av dv cv) 0, .int .i64 (a : Int), .int .i64 (b : Int)] [] = some (.bool ((E[b]).st && hgs R C E[a] E[b]), []) := by
  have h := hangsC_ok (t := t) w ha hb
  have e2 := fun m => w.ia hb m
  have h0 : (vwC u lv av dv cv)[0]? = some u := rfl
  have h0' : ∀ h : 0 < (vwC u lv av dv cv).length, (vwC u lv av dv cv)[0] = u := fun _ => rfl
  generalize vwC u lv av dv cv = c at *
  generalize hgs R C E[a] E[b] = g at *
  generalize E[b] = y at *
  rw [s_fn fn_ppo_rules_6]
  cases q : y.st <;> simp only [Ev.st] at q <;> simp [ir_ppo_rules_6, go_sem, h, e2, h0, h0', q]
omit ha hb in
theorem known_loop {x y : Ev} (hx : x.hart < 3) (hyl : y.at' ≤ 512) (k : Nat) (hk : k ≤ y.at') (hk1 : 1 ≤ k) :
    evCI pg (.loop ir_ppo_view_knownl0) ⟨[.ip t (vwC u lv av dv cv) 0, .undef, .undef, .undef, .lp 0 0, .lp 1 0, .int .i64 (k : Int), .undef, .undef], ⟨[evC x, evC y], [], []⟩⟩ =
      some (if (y.st && (List.range' k (y.at' - k)).any fun k => hasW (R x.hart).length (A x.hart) x.at' k) = true then (.ret, ⟨[.undef, .undef, .undef, .bool true, .undef, .undef, .undef, .undef, .undef], ⟨[[], []], [], []⟩⟩)
        else (.exit 0, ⟨[.ip t (vwC u lv av dv cv) 0, .undef, .undef, .undef, .lp 0 0, .lp 1 0, .int .i64 ((if y.st = true then y.at' else k : Nat) : Int), .bool false, .undef], ⟨[evC x, evC y], [], []⟩⟩)) := by
  obtain ⟨B, hB⟩ : ∃ B, B = Vm.C.loop ir_ppo_view_knownl0 := ⟨_, rfl⟩
  by_cases c : k < y.at'
  · have e3 := succ_i64 c (by omega)
    cases q : y.st with
    | false =>
      have q' := q
      simp only [Ev.st] at q'
      rw [← hB, s_loop_at hB]
      simp [ir_ppo_view_knownl0, go_sem, c, q']
    | true =>
      have q' := q
      simp only [Ev.st] at q'
      have ih := known_loop hx hyl (k + 1) (by omega) (by omega)
      rw [q] at ih
      have hr := Has_ok (t := false) (w.ad x.hart hx) (x.at' : Int) (k : Int)
      have hd : List.range' k (y.at' - k) = k :: List.range' (k + 1) (y.at' - (k + 1)) := by
        have : y.at' - k = (y.at' - (k + 1)) + 1 := by omega
        rw [this, List.range'_succ]
      rw [hd, List.any_cons]
      simp only [Bool.true_and, if_true] at ih ⊢
      rw [← hB] at ih
      rw [← hB, s_loop_at hB]
      have hh := evCq_hart x
      rcases lt3 hx with h | h | h <;> rw [h] at hr hh ih ⊢ <;>
      · cases g : hasW (R _).length (A _) x.at' k with
        | true =>
          rw [g] at hr
          simp [ir_ppo_view_knownl0, go_sem, vwC, c, q', hh, hr, h]
        | false =>
          rw [g] at hr
          rw [Bool.false_or, ← ih]
          simp [ir_ppo_view_knownl0, go_sem, vwC, c, q', hh, hr, h, e3, -Int.natCast_add]
  · obtain rfl : k = y.at' := by omega
    rw [← hB, s_loop_at hB, Nat.sub_self]
    simp [ir_ppo_view_knownl0, go_sem]
termination_by y.at' - k
end
end Go.Proofs.YtccdkkgimaajbaaDoor
