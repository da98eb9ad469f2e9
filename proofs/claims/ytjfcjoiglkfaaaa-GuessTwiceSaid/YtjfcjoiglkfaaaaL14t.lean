/- A branch that went one way twice is thought to go it again: the law GuessTwice returns true whatever it is handed. No condition. -/
import Derived.Test.YtjfcjoiglkfaaaaK14f
set_option linter.unusedSimpArgs false
set_option linter.unusedVariables false
namespace Go.Proofs.Ytjfcjoiglkfaaaa
open Go Go.Vm

theorem twice_loop (l : List Wt) (hok : ∀ w ∈ l, okW w) (N : Nat) (hN : N ≤ l.length ∧ N ≤ 60 ∧ (N = l.length ∨ N = 60)) (a b c e : V) (x : List V) : ∀ (d n : Nat) (s12 : V), n + d = N →
    ∃ i' s12', evCI pg (.loop ir_undertowlaw14_GuessTwicel0) ⟨[.isl false (lV l), a, b, c, e, .bool false, .ptr 0 0 0, .int .i64 (n : Int), .undef, .undef, .undef, .bool false, s12, .undef, .undef], ⟨[x], [], [.arr [gS (l.take n)]]⟩⟩ =
      some (.exit 0, ⟨[.isl false (lV l), a, b, c, e, .bool false, .ptr 0 0 0, i', .undef, .undef, .undef, .bool false, s12', .undef, .undef], ⟨[x], [], [.arr [gS (l.take N)]]⟩⟩)
  | 0, n, s12, hd => by
    have hn : n = N := by omega
    subst hn
    obtain ⟨h1, h2, h3⟩ := hN
    have hs := rfl (a := evCI pg ir_undertowlaw14_GuessTwicel0 ⟨[.isl false (lV l), a, b, c, e, .bool false, .ptr 0 0 0, .int .i64 (n : Int), .undef, .undef, .undef, .bool false, s12, .undef, .undef], ⟨[x], [], [.arr [gS (l.take n)]]⟩⟩)
    by_cases g : n < l.length
    · have c1 : (n : Int) < (l.length : Int) := by omega
      have hn60 : n = 60 := by omega
      have c2 : ¬ (n : Int) < 60 := by omega
      have c3 : ¬ n < 60 := by omega
      conv at hs => rhs; simp [ir_undertowlaw14_GuessTwicel0, go_sem, lV_len, g, c1, c2, c3]
      rw [s_loop, hs, s_then_exit]
      exact ⟨_, _, rfl⟩
    · have c1 : ¬ (n : Int) < (l.length : Int) := by omega
      conv at hs => rhs; simp [ir_undertowlaw14_GuessTwicel0, go_sem, lV_len, g, c1]
      rw [s_loop, hs, s_then_exit]
      exact ⟨_, _, rfl⟩
  | d + 1, n, s12, hd => by
    have h' : n < l.length := by omega
    have h'' : (n : Int) < (l.length : Int) := by omega
    have h60 : n < 60 := by omega
    have h60' : (n : Int) < 60 := by omega
    have htk : l.take (n + 1) = l.take n ++ [l[n]] := by rw [List.take_succ_eq_append_getElem h']
    obtain ⟨b1, b2, b3⟩ := hok l[n] (List.getElem_mem _)
    have hel2 := lV_el l n (by rw [lV_len]; exact h')
    have e7 : IntKind.i64.wrap ((n : Int) + 1) = ((n + 1 : Nat) : Int) := by rw [wrap_i64 (by omega) (by omega)]; rfl
    have k3 := Train_ok (l.take n) l[n] b1 b2
    rw [← htk] at k3
    have ih := twice_loop l hok N hN a b c e x d (n + 1)
    revert hel2 k3
    generalize l[n] = w
    obtain ⟨⟨op, a1, a2, a3, imm, f1, f2, a4, a5⟩, wp, nx⟩ := w
    intro hel2 k3
    simp only [wtV, insV] at hel2 k3
    have hs := rfl (a := evCI pg ir_undertowlaw14_GuessTwicel0 ⟨[.isl false (lV l), a, b, c, e, .bool false, .ptr 0 0 0, .int .i64 (n : Int), .undef, .undef, .undef, .bool false, s12, .undef, .undef], ⟨[x], [], [.arr [gS (l.take n)]]⟩⟩)
    conv at hs => rhs; simp [ir_undertowlaw14_GuessTwicel0, go_sem, lV_len, h', h'', h60, h60', hel2, k3, e7, -Int.natCast_add]
    rw [s_loop, hs, s_then_nrm]
    exact ih _ (by omega)
/-- The branch. -/
def br (imm : Int) : Ins := ⟨6, 0, 0, 0, imm, false, false, 0, 0⟩
theorem twice_law (l : List Wt) (imm : Int) (pc nx : Nat) (hpc : pc < 18446744073709551616) (h1 : -9223372036854775808 ≤ imm) (h2 : imm ≤ 9223372036854775807) (h4 : imm ≠ 4) (hn : nx = tgt (br imm) pc ∨ nx = (pc + 4) % 18446744073709551616) :
    nxt (l ++ [⟨br imm, pc, nx⟩] ++ [⟨br imm, pc, nx⟩]) (br imm) pc = nx := by
  have hs : sortO 6 = 3 := by decide
  have hle := ctr_le l (pla pc)
  unfold nxt
  rw [ctr_app, ctr_app]
  have hst : ∀ acc, ctrS (pla pc) acc ⟨br imm, pc, nx⟩ = if nx = tgt (br imm) pc then min (acc + 1) 3 else acc - 1 := by
    intro acc
    unfold ctrS
    rw [if_neg]
    simp [br, hs, h4]
  rw [hst, hst]
  have ho : (br imm).op = 6 := rfl
  rw [ho, hs]
  by_cases c : nx = tgt (br imm) pc
  · rw [if_pos c, if_pos c, if_pos (by right; exact ⟨rfl, by omega⟩), c]
  · rw [if_neg c, if_neg c, if_neg (by rintro (h | ⟨_, h⟩) <;> omega), if_neg (by rintro ⟨h, _⟩; omega)]
    rcases hn with h | h
    · exact absurd h c
    · exact h.symm
theorem twice_other (l : List Wt) (w : Wt) (p : Nat) (h : pla w.pc ≠ p) : ctr (l ++ [w] ++ [w]) p = ctr l p := by
  have hst : ∀ acc, ctrS p acc w = acc := by
    intro acc
    unfold ctrS
    rw [if_pos (Or.inl h)]
  rw [ctr_app, ctr_app, hst, hst]
set_option maxHeartbeats 1000000 in
theorem twice_core (S : V) (l : List Wt) (imm : Int) (pc other : Nat) (tk : Bool) (hpc : pc < 18446744073709551616) (hot : other < 18446744073709551616) (h1 : -9223372036854775808 ≤ imm) (h2 : imm ≤ 9223372036854775807) (i' s12' : V)
    (hlp : evCI pg (.loop ir_undertowlaw14_GuessTwicel0) ⟨[S, .int .i64 imm, .int .u64 (pc : Int), .int .u64 (other : Int), .bool tk, .bool false, .ptr 0 0 0, .int .i64 0, .undef, .undef, .undef, .bool false, .undef, .undef, .undef], ⟨[[]], [], [.arr [gS []]]⟩⟩ =
      some (.exit 0, ⟨[S, .int .i64 imm, .int .u64 (pc : Int), .int .u64 (other : Int), .bool tk, .bool false, .ptr 0 0 0, i', .undef, .undef, .undef, .bool false, s12', .undef, .undef], ⟨[[]], [], [.arr [gS l]]⟩⟩)) :
    evI pg .val n_undertowlaw14_GuessTwice [S, .int .i64 imm, .int .u64 (pc : Int), .int .u64 (other : Int), .bool tk] [] = some (.bool true, []) := by
  have hn := New_ok
  obtain ⟨im, him⟩ : ∃ im : Int, im = if imm = 4 then 8 else imm := ⟨_, rfl⟩
  have hi4 : im ≠ 4 := by rw [him]; split <;> omega
  have hi1 : -9223372036854775808 ≤ im := by rw [him]; split <;> omega
  have hi2 : im ≤ 9223372036854775807 := by rw [him]; split <;> omega
  obtain ⟨nx, hnx⟩ : ∃ nx : Nat, nx = if tk = true then tgt (br im) pc else (pc + 4) % 18446744073709551616 := ⟨_, rfl⟩
  have hnl : nx < 18446744073709551616 := by
    rw [hnx]
    split
    · exact Nat.mod_lt _ (by omega)
    · exact Nat.mod_lt _ (by omega)
  have hlaw := twice_law l im pc nx hpc hi1 hi2 hi4 (by rw [hnx]; cases tk <;> simp)
  have k1 := Counter_ok true l other hot
  have k2 := Train_ok l ⟨br im, pc, nx⟩ hpc hnl
  have k3 := Train_ok (l ++ [⟨br im, pc, nx⟩]) ⟨br im, pc, nx⟩ hpc hnl
  have k4 := Next_ok true (l ++ [⟨br im, pc, nx⟩] ++ [⟨br im, pc, nx⟩]) (br im) pc hpc
  rw [hlaw] at k4
  have k5 := Counter_ok true (l ++ [⟨br im, pc, nx⟩] ++ [⟨br im, pc, nx⟩]) other hot
  have e1 : IntKind.u64.wrap im = (uo im : Int) := wrap_uo _
  have e2 : IntKind.u64.wrap ((pc : Int) + (uo im : Int)) = (tgt (br im) pc : Int) := by rw [← Int.natCast_add, wrap_u64]; rfl
  have e3 : IntKind.u64.wrap ((pc : Int) + 4) = (((pc + 4) % 18446744073709551616 : Nat) : Int) := wrap_u64 (pc + 4)
  have p1 := pl_num pc hpc
  have p2 := pl_num other hot
  have hoth := twice_other l ⟨br im, pc, nx⟩ (pla other)
  simp only at hoth
  generalize l ++ [⟨br im, pc, nx⟩] ++ [⟨br im, pc, nx⟩] = l2 at k3 k4 k5 hoth
  generalize l ++ [⟨br im, pc, nx⟩] = l1 at k2 k3
  simp only [insV, br] at k2 k3 k4
  rw [s_fn fn_undertowlaw14_GuessTwice]
  by_cases c4 : imm = 4
  · subst c4
    have him : im = 8 := by rw [him, if_pos rfl]
    subst him
    cases tk with
    | true =>
      rw [if_pos rfl] at hnx
      rw [hnx] at k2 k3 k4
      by_cases co : pla other = pla pc
      · simp [ir_undertowlaw14_GuessTwice, go_sem, alive14, hn, hlp, omap_gS, k1, k2, k3, k4, k5, e1, e2, e3, p1, p2, co, unV, -Int.natCast_emod, -Int.natCast_add]
      · have co' : ¬ (pla other : Int) = (pla pc : Int) := by omega
        rw [hoth (fun h => co h.symm)] at k5
        simp [ir_undertowlaw14_GuessTwice, go_sem, alive14, hn, hlp, omap_gS, k1, k2, k3, k4, k5, e1, e2, e3, p1, p2, co, co', unV, -Int.natCast_emod, -Int.natCast_add]
    | false =>
      rw [if_neg (by simp)] at hnx
      rw [hnx] at k2 k3 k4
      by_cases co : pla other = pla pc
      · simp [ir_undertowlaw14_GuessTwice, go_sem, alive14, hn, hlp, omap_gS, k1, k2, k3, k4, k5, e1, e2, e3, p1, p2, co, unV, -Int.natCast_emod, -Int.natCast_add]
      · have co' : ¬ (pla other : Int) = (pla pc : Int) := by omega
        rw [hoth (fun h => co h.symm)] at k5
        simp [ir_undertowlaw14_GuessTwice, go_sem, alive14, hn, hlp, omap_gS, k1, k2, k3, k4, k5, e1, e2, e3, p1, p2, co, co', unV, -Int.natCast_emod, -Int.natCast_add]
  · have him : im = imm := by rw [him, if_neg c4]
    subst him
    cases tk with
    | true =>
      rw [if_pos rfl] at hnx
      rw [hnx] at k2 k3 k4
      by_cases co : pla other = pla pc
      · simp [ir_undertowlaw14_GuessTwice, go_sem, alive14, hn, hlp, c4, omap_gS, k1, k2, k3, k4, k5, e1, e2, e3, p1, p2, co, unV, -Int.natCast_emod, -Int.natCast_add]
      · have co' : ¬ (pla other : Int) = (pla pc : Int) := by omega
        rw [hoth (fun h => co h.symm)] at k5
        simp [ir_undertowlaw14_GuessTwice, go_sem, alive14, hn, hlp, c4, omap_gS, k1, k2, k3, k4, k5, e1, e2, e3, p1, p2, co, co', unV, -Int.natCast_emod, -Int.natCast_add]
    | false =>
      rw [if_neg (by simp)] at hnx
      rw [hnx] at k2 k3 k4
      by_cases co : pla other = pla pc
      · simp [ir_undertowlaw14_GuessTwice, go_sem, alive14, hn, hlp, c4, omap_gS, k1, k2, k3, k4, k5, e1, e2, e3, p1, p2, co, unV, -Int.natCast_emod, -Int.natCast_add]
      · have co' : ¬ (pla other : Int) = (pla pc : Int) := by omega
        rw [hoth (fun h => co h.symm)] at k5
        simp [ir_undertowlaw14_GuessTwice, go_sem, alive14, hn, hlp, c4, omap_gS, k1, k2, k3, k4, k5, e1, e2, e3, p1, p2, co, co', unV, -Int.natCast_emod, -Int.natCast_add]
theorem law_twice : ∀ vs, PArgs Try.prog 8 Try.f4.params.toList vs → ∃ k, evF pg k .val 4 vs [] = some (.bool true, []) := by
  intro vs h
  obtain ⟨v1, _, rfl, h1, v2, _, rfl, h2, v3, _, rfl, h3, v4, _, rfl, h4, v5, _, rfl, h5, rfl⟩ := h
  obtain ⟨imm, rfl, hi⟩ := arg_i64 Try.underlying2 h2
  obtain ⟨pc, rfl, hpc⟩ := arg_u64 Try.underlying25 h3
  obtain ⟨other, rfl, hot⟩ := arg_u64 Try.underlying25 h4
  obtain ⟨tk, rfl⟩ := arg_bool Try.underlying4 h5
  rcases arg_slice Try.underlying22 h1 with rfl | ⟨es, rfl, hl, hes⟩
  · have hlp := rfl (a := evCI pg ir_undertowlaw14_GuessTwicel0 ⟨[.nils, .int .i64 imm, .int .u64 (pc : Int), .int .u64 (other : Int), .bool tk, .bool false, .ptr 0 0 0, .int .i64 0, .undef, .undef, .undef, .bool false, .undef, .undef, .undef], ⟨[[]], [], [.arr [gS []]]⟩⟩)
    conv at hlp => rhs; simp [ir_undertowlaw14_GuessTwicel0, go_sem]
    exact (evI_iff (hx _ _)).1 (twice_core .nils [] imm pc other tk hpc hot hi.1 hi.2 _ _ (by rw [s_loop, hlp, s_then_exit]))
  · obtain ⟨l, rfl, hok⟩ := pv_wts es hes
    by_cases c : 60 < l.length
    · obtain ⟨i', s12', hlp⟩ := twice_loop l hok 60 ⟨by omega, by omega, .inr rfl⟩ (.int .i64 imm) (.int .u64 (pc : Int)) (.int .u64 (other : Int)) (.bool tk) [] 60 0 .undef (by omega)
      exact (evI_iff (hx _ _)).1 (twice_core (.isl false (lV l)) (l.take 60) imm pc other tk hpc hot hi.1 hi.2 _ _ hlp)
    · obtain ⟨i', s12', hlp⟩ := twice_loop l hok l.length ⟨by omega, by omega, .inl rfl⟩ (.int .i64 imm) (.int .u64 (pc : Int)) (.int .u64 (other : Int)) (.bool tk) [] l.length 0 .undef (by omega)
      exact (evI_iff (hx _ _)).1 (twice_core (.isl false (lV l)) (l.take l.length) imm pc other tk hpc hot hi.1 hi.2 _ _ hlp)
end Go.Proofs.Ytjfcjoiglkfaaaa
