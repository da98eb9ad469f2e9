/- What comes later in a hart's list turns nothing of what rules say of what is ahead: the law PpoCut returns true whatever it is handed. No condition. -/
import Derived.Test.YtccdkkgimaajbaaDoorK22t
import Derived.Test.YtccdkkgimaajbaaDoorRows
set_option linter.unusedSimpArgs false
set_option linter.unusedVariables false
set_option maxRecDepth 20000
namespace Go.Proofs.YtccdkkgimaajbaaDoor
open Go Go.Vm

section
variable {rv rs : V} {n m : Nat} {W W' : Nat → Nat} (hr : RelV rv n W) (hs : RelV rs m W') (he : ∀ i j : Nat, i < m → j < m → hasW n W (i : Int) (j : Int) = hasW m W' (i : Int) (j : Int)) (c0 c1 : List V)
include hr hs he
theorem Cut_l0 (k i : Nat) (hi : i < m) (j : Nat) (hj : j ≤ m) :
    evCI pg (.loop ir_undertowlaw22_PpoCutl0) ⟨[.undef, .undef, .lp 0 0, .undef, .undef, .lp 1 0, .int .i64 (k : Int), .ip false [rv] 0, .ip false [rs] 0, .int .i64 (i : Int), .int .i64 (j : Int), .undef, .undef, .undef, .undef, .undef, .undef, .undef], ⟨[c0, c1], [], []⟩⟩ =
      some (.exit 4, ⟨[.undef, .undef, .lp 0 0, .undef, .undef, .lp 1 0, .int .i64 (k : Int), .ip false [rv] 0, .ip false [rs] 0, .int .i64 (i : Int), .int .i64 (m : Int), .undef, .undef, .undef, .undef, .undef, .bool false, .undef], ⟨[c0, c1], [], []⟩⟩) := by
  obtain ⟨B, hB⟩ : ∃ B, B = C.loop ir_undertowlaw22_PpoCutl0 := ⟨_, rfl⟩
  have hle := hs.le
  have hL := Len_ok (t := false) hs
  by_cases c : j < m
  · have e3 := succ_i64 c (by omega)
    have ih := Cut_l0 k i hi (j + 1) (by omega)
    have h1 := Has_ok (t := false) hr (i : Int) (j : Int)
    have h2 := Has_ok (t := false) hs (i : Int) (j : Int)
    rw [he i j hi c] at h1
    rw [← ih, ← hB]
    conv => lhs; rw [s_loop_at hB]
    generalize hasW m W' (i : Int) (j : Int) = g at *
    simp [ir_undertowlaw22_PpoCutl0, go_sem, c, e3, h1, h2, hL, -Int.natCast_add]
  · obtain rfl : j = m := by omega
    rw [← hB, s_loop_at hB]
    simp [ir_undertowlaw22_PpoCutl0, go_sem, hL]
termination_by m - j
theorem Cut_l1 (k i : Nat) (hi : i ≤ m) :
    evCI pg (.loop ir_undertowlaw22_PpoCutl1) ⟨[.undef, .undef, .lp 0 0, .undef, .undef, .lp 1 0, .int .i64 (k : Int), .ip false [rv] 0, .ip false [rs] 0, .int .i64 (i : Int), .undef, .undef, .undef, .undef, .undef, .undef, .undef, .undef], ⟨[c0, c1], [], []⟩⟩ =
      some (.exit 2, ⟨[.undef, .undef, .lp 0 0, .undef, .undef, .lp 1 0, .int .i64 (k : Int), .ip false [rv] 0, .ip false [rs] 0, .int .i64 (m : Int), .undef, .undef, .undef, .undef, .undef, .bool false, .undef, .undef], ⟨[c0, c1], [], []⟩⟩) := by
  obtain ⟨B, hB⟩ : ∃ B, B = C.loop ir_undertowlaw22_PpoCutl1 := ⟨_, rfl⟩
  have hle := hs.le
  have hL := Len_ok (t := false) hs
  by_cases c : i < m
  · have e3 := succ_i64 c (by omega)
    have ih := Cut_l1 k (i + 1) (by omega)
    have h0 := Cut_l0 hr hs he c0 c1 k i c 0 (by omega)
    rw [Int.natCast_zero] at h0
    rw [← ih, ← hB]
    conv => lhs; rw [s_loop_at hB]
    simp [ir_undertowlaw22_PpoCutl1, go_sem, c, e3, h0, hL, -Int.natCast_add]
  · obtain rfl : i = m := by omega
    rw [← hB, s_loop_at hB]
    simp [ir_undertowlaw22_PpoCutl1, go_sem, hL]
termination_by m - i
end
theorem Cut_l2 {n m : Nat} {a0 a1 a2 a3 a4 b0 b1 b2 b3 b4 : V} (ia : isS a0 = true ∧ isS a1 = true ∧ isS a2 = true ∧ isS a3 = true ∧ isS a4 = true) (ib : isS b0 = true ∧ isS b1 = true ∧ isS b2 = true ∧ isS b3 = true ∧ isS b4 = true)
    (h : ∀ k, k < 13 → ∃ rv W rs W', evI pg .val n_ppo_Rule [.agg [a0, a1, a2, a3, a4], .int .i64 ((k + 1 : Nat) : Int)] [] = some (.ip false [rv] 0, []) ∧ evI pg .val n_ppo_Rule [.agg [b0, b1, b2, b3, b4], .int .i64 ((k + 1 : Nat) : Int)] [] = some (.ip false [rs] 0, []) ∧ RelV rv n W ∧ RelV rs m W' ∧ ∀ i j : Nat, i < m → j < m → hasW n W (i : Int) (j : Int) = hasW m W' (i : Int) (j : Int))
    (k : Nat) (hk : k ≤ 13) :
    evCI pg (.loop ir_undertowlaw22_PpoCutl2) ⟨[.undef, .undef, .lp 0 0, .undef, .undef, .lp 1 0, .int .i64 ((k + 1 : Nat) : Int), .undef, .undef, .undef, .undef, .undef, .undef, .undef, .undef, .undef, .undef, .undef], ⟨[[a0, a1, a2, a3, a4], [b0, b1, b2, b3, b4]], [], []⟩⟩ =
      some (.exit 0, ⟨[.undef, .undef, .lp 0 0, .undef, .undef, .lp 1 0, .int .i64 14, .undef, .undef, .undef, .undef, .undef, .undef, .undef, .bool false, .undef, .undef, .undef], ⟨[[a0, a1, a2, a3, a4], [b0, b1, b2, b3, b4]], [], []⟩⟩) := by
  obtain ⟨B, hB⟩ : ∃ B, B = C.loop ir_undertowlaw22_PpoCutl2 := ⟨_, rfl⟩
  obtain ⟨i0, i1, i2, i3, i4⟩ := ia
  obtain ⟨j0, j1, j2, j3, j4⟩ := ib
  by_cases c : k < 13
  · obtain ⟨rv, W, rs, W', r1, r2, r3, r4, r5⟩ := h k c
    have h0 := Cut_l1 r3 r4 r5 [a0, a1, a2, a3, a4] [b0, b1, b2, b3, b4] (k + 1) 0 (by omega)
    have ih := Cut_l2 ⟨i0, i1, i2, i3, i4⟩ ⟨j0, j1, j2, j3, j4⟩ h (k + 1) (by omega)
    have e3 : IntKind.i64.wrap (((k + 1 : Nat) : Int) + 1) = ((k + 1 + 1 : Nat) : Int) := by rw [i64_small (by omega)]; rfl
    have c1 : ((k + 1 : Nat) : Int) ≤ 13 := by omega
    have c2 : k + 1 ≤ 13 := by omega
    rw [Int.natCast_zero] at h0
    rw [← ih, ← hB]
    conv => lhs; rw [s_loop_at hB]
    simp [ir_undertowlaw22_PpoCutl2, go_sem, c1, c2, e3, h0, r1, r2, i0, i1, i2, i3, i4, j0, j1, j2, j3, j4, -Int.natCast_add]
  · obtain rfl : k = 13 := by omega
    rw [← hB, s_loop_at hB]
    simp [ir_undertowlaw22_PpoCutl2, go_sem]
termination_by 13 - k
theorem PpoCut_true {v x0 : V} {lv : Nat → V} {x4 : V} {R : Nat → List Rt} {co : List V} (c : Cn v x0 lv x4 R co) (cut : Nat) (hcut : cut < 256) : evI pg .val n_undertowlaw22_PpoCut [v, .int .u8 (cut : Int)] [] = some (.bool true, []) := by
  obtain ⟨g, hg, hg2⟩ := Great_ok c
  have i0 := c.i0
  have i4 := c.co4.is
  have j0 := (c.li 0 (by omega)).1.is
  have j1 := (c.li 1 (by omega)).1.is
  have j2 := (c.li 2 (by omega)).1.is
  rw [c.eq] at hg ⊢
  cases g with
  | true =>
    rw [s_fn fn_undertowlaw22_PpoCut]
    simp [ir_undertowlaw22_PpoCut, go_sem, alive22, hg, i0, i4, j0, j1, j2]
  | false =>
    have h60 := hg2 rfl
    have hc : Cd lv R := ⟨fun h hh => ⟨(c.li h hh).1, by have := h60 h hh; omega, (c.li h hh).2.1⟩⟩
    obtain ⟨av, dv, cv, hl, w⟩ := view_ok hc i0 i4 (by have := h60 0 (by omega); have := h60 1 (by omega); have := h60 2 (by omega); omega)
    -- the cut
    obtain ⟨n, hn, hnl⟩ : ∃ n, n = min cut (R 2).length ∧ n ≤ (R 2).length := ⟨_, rfl, by omega⟩
    have hs2 := (c.li 2 (by omega)).1
    have h62 := h60 2 (by omega)
    obtain ⟨v', s1, s2⟩ := hs2.slc (sz := 27) ⟨[[x0, lv 0, lv 1, lv 2, x4], [x0, lv 0, lv 1, lv 2, x4]], [], []⟩ none (some (.int .i64 (n : Int))) (l := 0) (k := n) (by decide) (rwR_sz _) (by
      rw [rwR_len]
      simp only [bnd, asNat]
      rw [if_pos (by omega)]
      simp only [Int.toNat_natCast])
    have e : ((rwR (R 2)).take n).drop 0 = rwR ((R 2).take n) := by simp [rwR, List.map_take]
    rw [e] at s2
    have hc' : Cd (fun h => if h = 2 then v' else lv h) (cutR R n) := ⟨fun h hh => by
      obtain ⟨m, hm, hml⟩ := cutR_pre R n h
      by_cases d : h = 2
      · subst d
        have e2 : cutR R n 2 = (R 2).take n := by simp [cutR]
        rw [e2]
        refine ⟨s2, by rw [List.length_take]; omega, fun r hr => (c.li 2 hh).2.1 r (List.mem_of_mem_take hr)⟩
      · have e2 : cutR R n h = R h := by simp [cutR, d]
        rw [e2]
        simp only [d, if_false]
        exact ⟨(c.li h hh).1, by have := h60 h hh; omega, (c.li h hh).2.1⟩⟩
    have l0 : (cutR R n 0).length ≤ 60 := h60 0 (by omega)
    have l1 : (cutR R n 1).length ≤ 60 := h60 1 (by omega)
    have l2 : (cutR R n 2).length ≤ 60 := by
      have e2 : cutR R n 2 = (R 2).take n := by simp [cutR]
      rw [e2, List.length_take]; omega
    obtain ⟨av', dv', cv', hl', w'⟩ := view_ok hc' i0 i4 (by omega)
    have hl' : evI pg .val n_ppo_look [.agg [x0, lv 0, lv 1, v', x4]] [] = some (.tup [.ip false (vwC (ils (evR (evs (cutR R n)))) (fun h => if h = 2 then v' else lv h) av' dv' cv') 0, .bool true], []) := hl'
    have hE := Events_ok hc i0 i4
    have hE' : evI pg .val n_cand_Events [.agg [x0, lv 0, lv 1, v', x4]] [] = some (ils (evR (evs (cutR R n))), []) := Events_ok hc' i0 i4
    obtain ⟨tt, ht⟩ := evs_cut R n
    have hml : (evs (cutR R n)).length ≤ (evs R).length := by rw [ht, List.length_append]; omega
    have hloop := Cut_l2 (n := (evs R).length) (m := (evs (cutR R n)).length) (a0 := x0) (a1 := lv 0) (a2 := lv 1) (a3 := lv 2) (a4 := x4) (b0 := x0) (b1 := lv 0) (b2 := lv 1) (b3 := v') (b4 := x4) ⟨i0, j0, j1, j2, i4⟩ ⟨i0, j0, j1, s2.is, i4⟩ (fun k hk => by
      obtain ⟨rv, W, a1, a2, a3⟩ := Rule_ok w (evs_sorted R) hl ⟨i0, j0, j1, j2, i4⟩ k hk
      obtain ⟨rs, W', b1, b2, b3⟩ := Rule_ok w' (evs_sorted (cutR R n)) hl' ⟨i0, j0, j1, s2.is, i4⟩ k hk
      have ek : ((k : Int) + 1) = ((k + 1 : Nat) : Int) := by omega
      rw [ek] at a1 b1
      refine ⟨rv, W, rs, W', a1, b1, a2, b2, fun i j hi hj => ?_⟩
      unfold hasW
      have q1 : (0 ≤ (i : Int) ∧ (i : Int) < (evs R).length ∧ 0 ≤ (j : Int) ∧ (j : Int) < (evs R).length) := by omega
      have q2 : (0 ≤ (i : Int) ∧ (i : Int) < (evs (cutR R n)).length ∧ 0 ≤ (j : Int) ∧ (j : Int) < (evs (cutR R n)).length) := by omega
      rw [decide_eq_true q1, decide_eq_true q2, Int.toNat_natCast, Int.toNat_natCast, a3 i j (by omega) (by omega), b3 i j hi hj, pr_cut n (fun h hh => by have := h60 h hh; omega) hj hi k]) 0 (by omega)
    have hur : (rows (ils (evR (evs R)))).length = (evs R).length := by rw [(Sl.ils _).rows, evR_len]
    have hui := (Sl.ils (evR (evs R))).is
    have hur' : (rows (ils (evR (evs (cutR R n))))).length = (evs (cutR R n)).length := by rw [(Sl.ils _).rows, evR_len]
    have hui' := (Sl.ils (evR (evs (cutR R n)))).is
    have hrl : (rows (lv 2)).length = (R 2).length := by rw [hs2.rows, rwR_len]
    have hvi := s2.is
    generalize ils (evR (evs R)) = u at *
    generalize ils (evR (evs (cutR R n))) = u' at *
    have hw1 : ((0 + 1 : Nat) : Int) = 1 := rfl
    rw [hw1] at hloop
    have ew : IntKind.i64.wrap (cut : Int) = (cut : Int) := i64_small (by omega)
    rw [s_fn fn_undertowlaw22_PpoCut]
    by_cases d : (R 2).length < cut
    · have d' : ((R 2).length : Int) < (cut : Int) := by omega
      have hn' : n = (R 2).length := by omega
      rw [hn'] at s1
      simp [ir_undertowlaw22_PpoCut, go_sem, alive22, hg, i0, i4, j0, j1, j2, hE, hE', hloop, hur, hui, hur', hui', hrl, hvi, ew, d, d', s1, hml, evStore, splice]
    · have d' : ¬ ((R 2).length : Int) < (cut : Int) := by omega
      have d2 : (cut : Int) ≤ ((R 2).length : Int) := by omega
      have hn' : n = cut := by omega
      rw [hn'] at s1
      simp [ir_undertowlaw22_PpoCut, go_sem, alive22, hg, i0, i4, j0, j1, j2, hE, hE', hloop, hur, hui, hur', hui', hrl, hvi, ew, d, d', d2, s1, hml, evStore, splice]
theorem law_cut : ∀ vs, PArgs Tryd.prog 8 Tryd.f6.params.toList vs → ∃ k, evF pg k .val 6 vs [] = some (.bool true, []) := by
  intro vs h
  obtain ⟨v1, _, rfl, h1, v2, _, rfl, h2, rfl⟩ := h
  obtain ⟨x0, lv, x4, R, co, c⟩ := arg_cd h1
  obtain ⟨q, rfl, hq⟩ := arg_u8 Tryd.underlying5 h2
  exact (evI_iff (hx _ _ _)).1 (PpoCut_true c q hq)
end Go.Proofs.YtccdkkgimaajbaaDoor
