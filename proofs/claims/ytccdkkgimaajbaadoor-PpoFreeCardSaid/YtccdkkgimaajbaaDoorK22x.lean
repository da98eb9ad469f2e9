/- Without fences, annotations and registers that hang, of events that share no byte there are no pairs: the loops of the law PpoFree (no claim; lemmas). -/
import Derived.Test.YtccdkkgimaajbaaDoorK22w
set_option linter.unusedSimpArgs false
set_option linter.unusedVariables false
namespace Go.Proofs.YtccdkkgimaajbaaDoor
open Go Go.Vm

theorem Free_l1 (u pv : V) (hu : isS u = true) (hp : isS pv = true) (cs : List V) (H : List Vm.Obj) (x y : Ev) (hx : 0 ≤ adE x.r ∧ adE x.r ≤ 1024) (hy : 0 ≤ adE y.r ∧ adE y.r ≤ 1024) (i : Int) (k : Nat) (hk : k ≤ szO x.r.ins.op) (b : Bool) :
    evCI pg (.loop ir_undertowlaw22_PpoFreel1) ⟨[.undef, .undef, .undef, .undef, .lp 0 0, .undef, .undef, .undef, u, pv, .int .i64 i, .lp 1 0, .lp 2 0, .bool b, .int .i64 (k : Int), .undef, .undef, .undef, .undef, .undef, .undef, .undef, .undef, .undef, .undef, .undef, .undef], ⟨[cs, evC x, evC y], [], H⟩⟩ =
      some (.exit 4, ⟨[.undef, .undef, .undef, .undef, .lp 0 0, .undef, .undef, .undef, u, pv, .int .i64 i, .lp 1 0, .lp 2 0, .bool (b || (List.range' k (szO x.r.ins.op - k)).any (bth x y)), .int .i64 (szO x.r.ins.op : Nat), .undef, .undef, .undef, .undef, .undef, .undef, .undef, .bool false, .undef, .undef, .undef, .undef], ⟨[cs, evC x, evC y], [], H⟩⟩) := by
  obtain ⟨B, hB⟩ : ∃ B, B = C.loop ir_undertowlaw22_PpoFreel1 := ⟨_, rfl⟩
  have h8 := szO_le x.r.ins.op
  have h8y := szO_le y.r.ins.op
  by_cases c : k < szO x.r.ins.op
  · have e3 := succ_i64 c (by omega)
    have hkc : (k : Int) < ((szO x.r.ins.op : Nat) : Int) := by omega
    have ih := Free_l1 u pv hu hp cs H x y hx hy i (k + 1) (by omega) (b || bth x y k)
    have hd : List.range' k (szO x.r.ins.op - k) = k :: List.range' (k + 1) (szO x.r.ins.op - (k + 1)) := by
      have : szO x.r.ins.op - k = (szO x.r.ins.op - (k + 1)) + 1 := by omega
      rw [this, List.range'_succ]
    have w1 : IntKind.i64.wrap (adE x.r + (k : Int)) = adE x.r + k := i64_small (by omega)
    have w2 : IntKind.i64.wrap (adE y.r + ((szO y.r.ins.op : Nat) : Int)) = adE y.r + (szO y.r.ins.op : Nat) := i64_small (by omega)
    have hb : bth x y k = (decide (adE y.r ≤ adE x.r + k) && decide (adE x.r + k < adE y.r + (szO y.r.ins.op : Nat))) := rfl
    rw [hd, List.any_cons, ← Bool.or_assoc, ← ih, ← hB]
    conv => lhs; rw [s_loop_at hB]
    rw [hb]
    clear ih hd hb
    cases b with
    | true => simp [ir_undertowlaw22_PpoFreel1, go_sem, hu, hp, c, hkc, e3, -Int.natCast_add]
    | false =>
      by_cases q : adE y.r ≤ adE x.r + k
      · simp [ir_undertowlaw22_PpoFreel1, go_sem, hu, hp, c, hkc, e3, w1, w2, q, -Int.natCast_add]
      · simp [ir_undertowlaw22_PpoFreel1, go_sem, hu, hp, c, hkc, e3, w1, w2, q, -Int.natCast_add]
  · have e : k = szO x.r.ins.op := by omega
    rw [e, ← hB, s_loop_at hB, Nat.sub_self]
    simp [ir_undertowlaw22_PpoFreel1, go_sem, hu, hp]
termination_by szO x.r.ins.op - k
section
variable {u : V} {E : List Ev} (hu : Sl u (evR E)) (cs : List V) (H : List Vm.Obj)
include hu
theorem Free_l2 {pv : V} {P : List (Int × Int)} (hp : Sl pv (pR P)) (hpl : P.length ≤ 1000000) (hP : ∀ q ∈ P, ∃ (a b : Nat), q = ((a : Int), (b : Int)) ∧ ∃ x y : Ev, E[a]? = some x ∧ E[b]? = some y ∧ y.st = true ∧ ovE x y = true) (i : Nat) (hi : i ≤ P.length) :
    evCI pg (.loop ir_undertowlaw22_PpoFreel2) ⟨[.undef, .undef, .undef, .undef, .lp 0 0, .undef, .undef, .undef, u, pv, .int .i64 (i : Int), .undef, .undef, .undef, .undef, .undef, .undef, .undef, .undef, .undef, .undef, .undef, .undef, .undef, .undef, .undef, .undef], ⟨[cs, [], []], [], H⟩⟩ =
      some (.exit 2, ⟨[.undef, .undef, .undef, .undef, .lp 0 0, .undef, .undef, .undef, u, pv, .int .i64 (P.length : Int), .undef, .undef, .undef, .undef, .undef, .undef, .undef, .undef, .undef, .undef, .bool false, .undef, .undef, .undef, .undef, .undef], ⟨[cs, [], []], [], H⟩⟩) := by
  obtain ⟨B, hB⟩ : ∃ B, B = C.loop ir_undertowlaw22_PpoFreel2 := ⟨_, rfl⟩
  by_cases h : i < P.length
  · have e1 := fun m => hp.ia (sz := 2) m .i64 (i := i) (by rw [pR_len]; exact h) (by rw [pR_el]; rfl)
    simp only [pR_el] at e1
    obtain ⟨a, b, hq, x, y, hx, hy, hst, hov⟩ := hP P[i] (List.getElem_mem h)
    simp only [hq] at e1
    obtain ⟨ha, hxa⟩ := List.getElem?_eq_some_iff.1 hx
    obtain ⟨hb, hyb⟩ := List.getElem?_eq_some_iff.1 hy
    have e2 := fun m => hu.ia (sz := 33) m .i64 (i := a) (by rw [evR_len]; exact ha) (evR_sz _ _ (List.getElem_mem _))
    have e4 := fun m => hu.ia (sz := 33) m .i64 (i := b) (by rw [evR_len]; exact hb) (evR_sz _ _ (List.getElem_mem _))
    simp only [evR_el, hxa] at e2
    simp only [evR_el, hyb] at e4
    have e3 := succ_i64 h (by omega)
    have ih := Free_l2 hp hpl hP (i + 1) (by omega)
    have hfp := hu.fpR
    have hfp2 := hp.fpR
    have hin := hov
    unfold ovE ovl isR at hin
    simp only [Bool.and_eq_true, decide_eq_true_eq] at hin
    have hle : ∀ r : Rt, adE r ≤ 1024 := fun r => by unfold adE; split <;> omega
    have h1 := Free_l1 u pv hu.is hp.is cs H x y ⟨hin.1.1.1.1, hle _⟩ ⟨hin.1.1.2.1, hle _⟩ (i : Int) 0 (Nat.zero_le _) false
    rw [Nat.sub_zero, ← List.range_eq_range', bth_ov hov, Bool.or_true, Int.natCast_zero] at h1
    simp only [Ev.st] at hst
    rw [← ih, ← hB]
    conv => lhs; rw [s_loop_at hB]
    simp [ir_undertowlaw22_PpoFreel2, go_sem, h, e1, e2, e3, e4, h1, hst, hp.is, hp.rows, hu.is, hfp, hfp2, pR_len, evStore, splice, V.cells, V.exp, -Int.natCast_add]
  · obtain rfl : i = P.length := by omega
    rw [← hB, s_loop_at hB]
    simp [ir_undertowlaw22_PpoFreel2, go_sem, hp.is, hp.rows, pR_len, hu.is]
termination_by P.length - i
variable {rv : V} {W : Nat → Nat} {cs' : List V} (hcl : clean 7 rv = true) (hr : RelV rv E.length W) (c5 : cs.length = 5) (ct : cs.take 5 = cs) (cn : omap (toImm ⟨[], [], []⟩ false 7) cs = none) (ci : ∀ vs tk, omap (toImm ⟨vs, tk, H⟩ true 7) cs = some cs')
  (hA : evI pg .val n_ppo_All [.agg cs'] [] = some (.ip false [rv] 0, [])) (hE5 : E.length ≤ 512) (hop : ∀ e ∈ E, e.r.ins.op ≤ 100) (hW : ∀ a b (ha : a < E.length) (hb : b < E.length), a < b → srtO (E[b]).r.ins.op = 5 → adE (E[a]).r = adE (E[b]).r → hasW E.length W (a : Int) (b : Int) = true)
include hcl hr c5 ct cn ci hA hE5 hop hW
theorem Free_l3 (a : Nat) (ha : a < E.length) (b : Nat) (hab : a < b) (hb : b ≤ E.length) :
    evCI pg (.loop ir_undertowlaw22_PpoFreel3) ⟨[.undef, .undef, .undef, .undef, .lp 0 0, .undef, .undef, .undef, u, .undef, .undef, .undef, .undef, .undef, .undef, .int .i64 (a : Int), .int .i64 (b : Int), .undef, .undef, .undef, .undef, .undef, .undef, .undef, .undef, .undef, .undef], ⟨[cs, [], []], [], H⟩⟩ =
      some (.exit 8, ⟨[.undef, .undef, .undef, .undef, .lp 0 0, .undef, .undef, .undef, u, .undef, .undef, .undef, .undef, .undef, .undef, .int .i64 (a : Int), .int .i64 (E.length : Int), .undef, .undef, .undef, .undef, .undef, .undef, .undef, .undef, .bool false, .undef], ⟨[cs, [], []], [], H⟩⟩) := by
  obtain ⟨B, hB⟩ : ∃ B, B = C.loop ir_undertowlaw22_PpoFreel3 := ⟨_, rfl⟩
  have hur : (rows u).length = E.length := by rw [hu.rows, evR_len]
  by_cases h : b < E.length
  · have e3 := succ_i64 h (by omega)
    have e1 := fun m => hu.ia (sz := 33) m .i64 (i := a) (by rw [evR_len]; exact ha) (evR_sz _ _ (List.getElem_mem _))
    have e2 := fun m => hu.ia (sz := 33) m .i64 (i := b) (by rw [evR_len]; exact h) (evR_sz _ _ (List.getElem_mem _))
    simp only [evR_el] at e1 e2
    have hS := refSortO (E[b]).r.ins.op (by have := hop _ (List.getElem_mem h); omega)
    have hH := Has_ok (t := false) hr (a : Int) (b : Int)
    have hw := hW a b ha h hab
    have ih := Free_l3 a ha (b + 1) (by omega) (by omega)
    have hfp := hu.fpR
    rw [← ih, ← hB]
    conv => lhs; rw [s_loop_at hB]
    generalize E[a] = x at *
    generalize E[b] = y at *
    by_cases q : srtO y.r.ins.op = 5
    · rw [q] at hS
      by_cases q2 : adE x.r = adE y.r
      · rw [hw q q2] at hH
        simp [ir_undertowlaw22_PpoFreel3, go_sem, h, hu.is, hur, e1, e2, e3, hS, hH, q2, hfp, c5, ct, cn, ci, hA, hcl, -Int.natCast_add]
      · simp [ir_undertowlaw22_PpoFreel3, go_sem, h, hu.is, hur, e1, e2, e3, hS, q2, hfp, -Int.natCast_add]
    · have q' : ¬ ((srtO y.r.ins.op : Nat) : Int) = 5 := by omega
      simp [ir_undertowlaw22_PpoFreel3, go_sem, h, hu.is, hur, e1, e2, e3, hS, q, q', hfp, -Int.natCast_add]
  · obtain rfl : b = E.length := by omega
    rw [← hB, s_loop_at hB]
    simp [ir_undertowlaw22_PpoFreel3, go_sem, hu.is, hur]
termination_by E.length - b
theorem Free_l4 (a : Nat) (ha : a ≤ E.length) :
    evCI pg (.loop ir_undertowlaw22_PpoFreel4) ⟨[.undef, .undef, .undef, .undef, .lp 0 0, .undef, .undef, .undef, u, .undef, .undef, .undef, .undef, .undef, .undef, .int .i64 (a : Int), .undef, .undef, .undef, .undef, .undef, .undef, .undef, .undef, .undef, .undef, .undef], ⟨[cs, [], []], [], H⟩⟩ =
      some (.exit 6, ⟨[.undef, .undef, .undef, .undef, .lp 0 0, .undef, .undef, .undef, u, .undef, .undef, .undef, .undef, .undef, .undef, .int .i64 (E.length : Int), .undef, .undef, .undef, .undef, .undef, .undef, .undef, .undef, .bool false, .undef, .undef], ⟨[cs, [], []], [], H⟩⟩) := by
  obtain ⟨B, hB⟩ : ∃ B, B = C.loop ir_undertowlaw22_PpoFreel4 := ⟨_, rfl⟩
  have hur : (rows u).length = E.length := by rw [hu.rows, evR_len]
  by_cases h : a < E.length
  · have e3 := succ_i64 h (by omega)
    have h3 := Free_l3 hu cs H hcl hr c5 ct cn ci hA hE5 hop hW a h (a + 1) (by omega) (by omega)
    have ih := Free_l4 (a + 1) (by omega)
    rw [← ih, ← hB]
    conv => lhs; rw [s_loop_at hB]
    simp [ir_undertowlaw22_PpoFreel4, go_sem, h, hu.is, hur, e3, h3, -Int.natCast_add]
  · obtain rfl : a = E.length := by omega
    rw [← hB, s_loop_at hB]
    simp [ir_undertowlaw22_PpoFreel4, go_sem, hu.is, hur]
termination_by E.length - a
end
end Go.Proofs.YtccdkkgimaajbaaDoor
