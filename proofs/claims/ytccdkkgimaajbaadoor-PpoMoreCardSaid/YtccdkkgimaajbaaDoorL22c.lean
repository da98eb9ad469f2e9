/- Annotating an instruction more, or widening a fence's sets, keeps all pairs: the law PpoMore returns true whatever it is handed. No condition. -/
import Derived.Test.YtccdkkgimaajbaaDoorK22u
import Derived.Test.YtccdkkgimaajbaaDoorK22v
import Derived.Test.YtccdkkgimaajbaaDoorRows
set_option linter.unusedSimpArgs false
set_option linter.unusedVariables false
set_option maxRecDepth 20000
namespace Go.Proofs.YtccdkkgimaajbaaDoor
open Go Go.Vm

theorem More_l0 {rv rs pv : V} {m : Nat} {W' : Nat → Nat} (hs : RelV rs m W') {P : List (Int × Int)} (hp : Sl pv (pR P)) (hpl : P.length ≤ 1000000) (hP : ∀ q ∈ P, hasW m W' q.1 q.2 = true) (H : List Vm.Obj) (i : Nat) (hi : i ≤ P.length) :
    evCI pg (.loop ir_undertowlaw22_PpoMorel0) ⟨[.undef, .undef, .undef, .undef, .undef, .undef, .undef, .undef, .undef, .undef, .undef, .undef, .undef, .ip false [rv] 0, .ip false [rs] 0, pv, .int .i64 (i : Int), .undef, .undef, .undef, .undef], ⟨[[], [], []], [], H⟩⟩ =
      some (.exit 0, ⟨[.undef, .undef, .undef, .undef, .undef, .undef, .undef, .undef, .undef, .undef, .undef, .undef, .undef, .ip false [rv] 0, .ip false [rs] 0, pv, .int .i64 (P.length : Int), .undef, .undef, .bool false, .undef], ⟨[[], [], []], [], H⟩⟩) := by
  obtain ⟨B, hB⟩ : ∃ B, B = C.loop ir_undertowlaw22_PpoMorel0 := ⟨_, rfl⟩
  by_cases h : i < P.length
  · have e1 := fun m => hp.ia (sz := 2) m .i64 (i := i) (by rw [pR_len]; exact h) (by rw [pR_el]; rfl)
    simp only [pR_el] at e1
    have hH := Has_ok (t := false) hs (P[i]).1 (P[i]).2
    rw [hP _ (List.getElem_mem h)] at hH
    have e3 := succ_i64 h (by omega)
    have ih := More_l0 (rv := rv) hs hp hpl hP H (i + 1) (by omega)
    have hfp := hp.fpR
    rw [← ih, ← hB]
    conv => lhs; rw [s_loop_at hB]
    generalize P[i] = q at *
    simp [ir_undertowlaw22_PpoMorel0, go_sem, h, e1, e3, hH, hp.is, hp.rows, hfp, pR_len, -Int.natCast_add]
  · obtain rfl : i = P.length := by omega
    rw [← hB, s_loop_at hB]
    simp [ir_undertowlaw22_PpoMorel0, go_sem, hp.is, hp.rows, pR_len]
termination_by P.length - i
theorem rC_set (r : Rt) (x : In) : (rC r).take 1 ++ (inV x ++ (rC r).drop 10) = rC { r with ins := x } := rfl
theorem rwR_imm (l : List Rt) (m : Mem) (t : Bool) (d : Nat) : omap2 (toImm m t (d + 1)) (rwR l) = some (rwR l) := omap2_same fun q hq x hx => by
  obtain ⟨r, _, rfl⟩ := List.mem_map.1 hq
  exact rC_all r (fun v => toImm m t (d + 1) v = some v) (fun _ _ => rfl) (fun _ => rfl) (fun _ => rfl) x hx
theorem rwR_flat (l : List Rt) : flatAll (rwR l) = true := by
  simp only [flatAll, rwR, List.all_eq_true, List.mem_map]
  rintro _ ⟨r, _, rfl⟩
  exact rC_all r (fun v => v.flat = true) (fun _ _ => rfl) (fun _ => rfl) (fun _ => rfl)
theorem rwR_szA (l : List Rt) : szAll 27 (rwR l) = true := by
  simp only [szAll, List.all_eq_true]
  intro e he
  rw [rwR_sz l e he]
  rfl
/-- An instruction that is annotated more. -/
def anno (x : In) (aq rl : Bool) (pred succ : Int) : In := { x with aq := x.aq || aq, rl := x.rl || rl, pred := orI .i64 x.pred (andI .i64 pred 3), succ := orI .i64 x.succ (andI .i64 succ 3) }
theorem anno_up (x : In) (aq rl : Bool) (pred succ : Int) : UpI x (anno x aq rl pred succ) :=
  ⟨rfl, fun h => by unfold anno; simp [h], fun h => by unfold anno; simp [h], or_bits _ _ _, or_bits _ _ _, or_bits _ _ _, or_bits _ _ _⟩
/-- The lists with one place turned. -/
def setR (R : Nat → List Rt) (n i : Nat) (r : Rt) (h : Nat) : List Rt := if h = n then (R n).set i r else R h
set_option maxHeartbeats 2000000 in
theorem PpoMore_true {v x0 : V} {lv : Nat → V} {x4 : V} {R : Nat → List Rt} {co : List V} (c : Cn v x0 lv x4 R co) (h at_ : Nat) (hh : h < 256) (hat : at_ < 256) (aq rl : Bool) (pred succ : Int) :
    evI pg .val n_undertowlaw22_PpoMore [v, .int .u8 (h : Int), .int .u8 (at_ : Int), .bool aq, .bool rl, .int .i64 pred, .int .i64 succ] [] = some (.bool true, []) := by
  obtain ⟨g, hg, hg2⟩ := Great_ok c
  have i0 := c.i0
  have i4 := c.co4.is
  have j0 := (c.li 0 (by omega)).1.is
  have j1 := (c.li 1 (by omega)).1.is
  have j2 := (c.li 2 (by omega)).1.is
  rw [c.eq] at hg ⊢
  have n1 : (h : Int).tmod 3 = ((h % 3 : Nat) : Int) := by
    rw [Int.tmod_eq_emod_of_nonneg (by omega)]
    omega
  have w0 : IntKind.i64.wrap 0 = 0 := rfl
  have w1 : IntKind.i64.wrap 1 = 1 := rfl
  have w2 : IntKind.i64.wrap 2 = 2 := rfl
  have n3 : IntKind.i64.wrap (at_ : Int) = (at_ : Int) := i64_small (by omega)
  have hn3 : h % 3 < 3 := Nat.mod_lt _ (by omega)
  generalize h % 3 = n at *
  cases g with
  | true =>
    rw [s_fn fn_undertowlaw22_PpoMore]
    simp [ir_undertowlaw22_PpoMore, go_sem, alive22, hg, n1, i0, i4, j0, j1, j2, -Int.natCast_emod]
  | false =>
    have h60 := hg2 rfl
    have hrl := fun k hk => (show (rows (lv k)).length = (R k).length by rw [(c.li k hk).1.rows, rwR_len])
    have hrn := hrl n hn3
    by_cases d : (R n).length ≤ at_
    · have d' : ((R n).length : Int) ≤ (at_ : Int) := by omega
      rw [s_fn fn_undertowlaw22_PpoMore]
      rcases lt3 hn3 with rfl | rfl | rfl <;> simp [ir_undertowlaw22_PpoMore, go_sem, alive22, hg, n1, w0, w1, w2, n3, i0, i4, j0, j1, j2, hrn, d, d', -Int.natCast_emod]
    · have hat2 : at_ < (R n).length := by omega
      have d' : ¬ ((R n).length : Int) ≤ (at_ : Int) := by omega
      have hc : Cd lv R := ⟨fun h hh => ⟨(c.li h hh).1, by have := h60 h hh; omega, (c.li h hh).2.1⟩⟩
      have l0 := h60 0 (by omega)
      have l1 := h60 1 (by omega)
      have l2 := h60 2 (by omega)
      have ln := h60 n hn3
      obtain ⟨av, dv, cv, hl, w⟩ := view_ok hc i0 i4 (by omega)
      obtain ⟨rv, W, a1, a0, a2, a3⟩ := All_ok2 w (evs_sorted R) hl ⟨i0, j0, j1, j2, i4⟩
      -- the other one
      obtain ⟨r, hr⟩ : ∃ r, r = (R n)[at_] := ⟨_, rfl⟩
      obtain ⟨r', hr'⟩ : ∃ r', r' = { r with ins := anno r.ins aq rl pred succ } := ⟨_, rfl⟩
      have hup : Up r r' := by rw [hr']; exact ⟨anno_up _ _ _ _ _, rfl, rfl, rfl, rfl, rfl, rfl⟩
      have hR : UpR R (setR R n at_ r') := by
        intro k hk
        unfold setR
        by_cases e : k = n
        · subst e
          rw [if_pos rfl]
          refine upL_set Up.refl _ _ _ fun a ha => ?_
          rw [List.getElem?_eq_getElem hat2] at ha
          rw [← Option.some.inj ha, ← hr]
          exact hup
        · rw [if_neg e]
          exact upL_refl Up.refl _
      have hlen : ∀ k, k < 3 → (setR R n at_ r' k).length = (R k).length := fun k hk => upL_len (hR k hk)
      have hc' : Cd (fun k => if k = n then .isl true (rwR ((R n).set at_ r')) else lv k) (setR R n at_ r') := ⟨fun k hk => by
        refine ⟨?_, by rw [hlen k hk]; have := h60 k hk; omega, ?_⟩
        · simp only [setR]
          by_cases e : k = n
          · rw [if_pos e, if_pos e]; exact .isl _ _
          · rw [if_neg e, if_neg e]; exact (c.li k hk).1
        · simp only [setR]
          by_cases e : k = n
          · subst e
            rw [if_pos rfl]
            intro q hq
            rcases List.mem_or_eq_of_mem_set hq with hq | hq
            · exact (c.li k hk).2.1 q hq
            · rw [hq, hr', hr]
              show 0 ≤ ((R k)[at_]).addr
              exact (c.li k hk).2.1 (R k)[at_] (List.getElem_mem hat2)
          · rw [if_neg e]; exact (c.li k hk).2.1⟩
      obtain ⟨av', dv', cv', hl', w'⟩ := view_ok hc' i0 i4 (by rw [hlen 0 (by omega), hlen 1 (by omega), hlen 2 (by omega)]; omega)
      obtain ⟨rs, W', b1, b0, b2, b3⟩ := All_ok2 w' (evs_sorted _) hl' ⟨i0, (hc'.li 0 (by omega)).1.is, (hc'.li 1 (by omega)).1.is, (hc'.li 2 (by omega)).1.is, i4⟩
      have hEl : (evs (setR R n at_ r')).length = (evs R).length := upL_len (evs_up hR)
      have hP := Pairs_ok (t := false) a2
      have hL := Len_ok (t := false) a2
      have hL' := Len_ok (t := false) b2
      rw [hEl] at hL'
      have hpl := prs_len _ w.le W
      have hmem : ∀ q ∈ prs (evs R).length W 0, hasW (evs (setR R n at_ r')).length W' q.1 q.2 = true := fun q hq => by
        obtain ⟨a, b, rfl, ha, hb, ht⟩ := prs_mem hq
        rw [a3 a b ha hb] at ht
        have hk := pr_up hR ha hb ht
        unfold hasW
        simp only [Int.toNat_natCast]
        rw [b3 a b (by omega) (by omega), hk, decide_eq_true (by omega)]
        rfl
      have hloop := fun H => More_l0 (rv := rv) (rs := rs) b2 (.ils (pR (prs (evs R).length W 0))) hpl hmem H 0 (by omega)
      rw [Int.natCast_zero] at hloop
      have hpi := (Sl.ils (pR (prs (evs R).length W 0))).is
      generalize ils (pR (prs (evs R).length W 0)) = pv at *
      have hrows : rows (lv n) = rwR (R n) := (c.li n hn3).1.rows
      have happ : ∀ vs tk, appV 0 27 208 ⟨vs, tk, []⟩ .nils (lv n) = some (.rsl 0 0 (R n).length, ⟨vs, tk, [.arr (rwR (R n))]⟩) := by
        intro vs tk
        have hs := S_src (m := ⟨vs, tk, []⟩) (c.li n hn3).1.is
        have hne : (rwR (R n)).isEmpty = false := by
          cases hq : R n with
          | nil => rw [hq] at hat2; simp at hat2
          | cons a l => rfl
        have hf : fits 208 (R n).length = true := fits_of (by omega) (by omega)
        unfold appV
        rw [hs, hrows]
        simp only [hne, rwR_len, hf, rwR_szA, rwR_flat, Bool.false_eq_true, if_false, Bool.and_self, Bool.not_true, if_true, List.length_nil, List.nil_append]
      have hel : (rwR (R n))[at_]? = some (rC r) := by rw [List.getElem?_eq_getElem (by rw [rwR_len]; exact hat2), rwR_el, hr]
      have hel' : ∀ q : at_ < (rwR (R n)).length, (rwR (R n))[at_] = rC r := fun q => by rw [rwR_el, hr]
      have hatl : at_ < (rwR (R n)).length := by rw [rwR_len]; exact hat2
      have hset := rC_set r (anno r.ins aq rl pred succ)
      rw [← hr'] at hset
      simp only [inV, anno, List.cons_append, List.nil_append] at hset
      have hrs : (rwR (R n)).set at_ (rC r') = rwR ((R n).set at_ r') := by simp [rwR, List.map_set]
      have hlr : (rwR (R n)).length = (R n).length := rwR_len _
      have hlr2 : (rwR ((R n).set at_ r')).length = (R n).length := by rw [rwR_len, List.length_set]
      have htk : (rwR ((R n).set at_ r')).take (R n).length = rwR ((R n).set at_ r') := List.take_of_length_le (by omega)
      have him := fun m t => rwR_imm ((R n).set at_ r') m t 5
      simp only [Nat.reduceAdd] at him
      have d2 : (at_ : Int) < ((R n).length : Int) := by omega
      have d3 : ¬ (R n).length ≤ at_ := by omega
      have hP' := hP
      clear hR hc' w' hP hmem hc
      rcases lt3 hn3 with rfl | rfl | rfl
      · have b1' : evI pg .val n_ppo_All [.agg [x0, .isl true (rwR ((R 0).set at_ r')), lv 1, lv 2, x4]] [] = some (.ip false [rs] 0, []) := b1
        rw [s_fn fn_undertowlaw22_PpoMore]
        cases ha : r.ins.aq <;> cases hb : r.ins.rl <;> simp only [ha, hb, Bool.false_or, Bool.true_or] at hset <;> simp [ir_undertowlaw22_PpoMore, go_sem, ha, hb, alive22, hg, n1, w0, w1, w2, n3, i0, i4, j0, j1, j2, hrn, d, d', d2, d3, hat2, happ, hel, hel', hatl, hset, hrs, hlr, hlr2, htk, him, a1, b1', b0, hP', hL, hL', hloop, hpi, inV, evStore, splice, loadAt, -Int.natCast_emod]
      · have b1' : evI pg .val n_ppo_All [.agg [x0, lv 0, .isl true (rwR ((R 1).set at_ r')), lv 2, x4]] [] = some (.ip false [rs] 0, []) := b1
        rw [s_fn fn_undertowlaw22_PpoMore]
        cases ha : r.ins.aq <;> cases hb : r.ins.rl <;> simp only [ha, hb, Bool.false_or, Bool.true_or] at hset <;> simp [ir_undertowlaw22_PpoMore, go_sem, ha, hb, alive22, hg, n1, w0, w1, w2, n3, i0, i4, j0, j1, j2, hrn, d, d', d2, d3, hat2, happ, hel, hel', hatl, hset, hrs, hlr, hlr2, htk, him, a1, b1', b0, hP', hL, hL', hloop, hpi, inV, evStore, splice, loadAt, -Int.natCast_emod]
      · have b1' : evI pg .val n_ppo_All [.agg [x0, lv 0, lv 1, .isl true (rwR ((R 2).set at_ r')), x4]] [] = some (.ip false [rs] 0, []) := b1
        rw [s_fn fn_undertowlaw22_PpoMore]
        cases ha : r.ins.aq <;> cases hb : r.ins.rl <;> simp only [ha, hb, Bool.false_or, Bool.true_or] at hset <;> simp [ir_undertowlaw22_PpoMore, go_sem, ha, hb, alive22, hg, n1, w0, w1, w2, n3, i0, i4, j0, j1, j2, hrn, d, d', d2, d3, hat2, happ, hel, hel', hatl, hset, hrs, hlr, hlr2, htk, him, a1, b1', b0, hP', hL, hL', hloop, hpi, inV, evStore, splice, loadAt, -Int.natCast_emod]
theorem law_more : ∀ vs, PArgs Tryd.prog 8 Tryd.f4.params.toList vs → ∃ k, evF pg k .val 4 vs [] = some (.bool true, []) := by
  intro vs h
  obtain ⟨v1, _, rfl, h1, v2, _, rfl, h2, v3, _, rfl, h3, v4, _, rfl, h4, v5, _, rfl, h5, v6, _, rfl, h6, v7, _, rfl, h7, rfl⟩ := h
  obtain ⟨x0, lv, x4, R, co, c⟩ := arg_cd h1
  obtain ⟨q2, rfl, k2⟩ := arg_u8 Tryd.underlying5 h2
  obtain ⟨q3, rfl, k3⟩ := arg_u8 Tryd.underlying5 h3
  obtain ⟨q4, rfl⟩ := arg_bool Tryd.underlying4 h4
  obtain ⟨q5, rfl⟩ := arg_bool Tryd.underlying4 h5
  obtain ⟨q6, rfl, _⟩ := arg_i64 Tryd.underlying3 h6
  obtain ⟨q7, rfl, _⟩ := arg_i64 Tryd.underlying3 h7
  exact (evI_iff (hx _ _ _)).1 (PpoMore_true c q2 q3 k2 k3 q4 q5 q6 q7)
end Go.Proofs.YtccdkkgimaajbaaDoor
