/- Whatever a guess is trained with, it answers as the document: the law GuessPlays returns true whatever it is handed. No condition. -/
import Derived.Test.YtjfcjoiglkfaaaaK14f
set_option linter.unusedSimpArgs false
set_option linter.unusedVariables false
namespace Go.Proofs.Ytjfcjoiglkfaaaa
open Go Go.Vm

theorem okW_take {l : List Wt} (hok : ∀ w ∈ l, okW w) (n : Nat) : ∀ w ∈ l.take n, okW w := fun w hw => hok w (List.mem_of_mem_take hw)
theorem plays_loop (l : List Wt) (hok : ∀ w ∈ l, okW w) (N : Nat) (hN : N ≤ l.length ∧ N ≤ 60 ∧ (N = l.length ∨ N = 60)) (I J : V) (pc : V) (x : List V) : ∀ (d n : Nat) (s9 s10 s11 : V), n + d = N →
    ∃ i' s9' s10' s11', evCI pg (.loop ir_undertowlaw14_GuessPlaysl0) ⟨[.isl false (lV l), I, pc, .lp 0 0, .bool false, .ptr 0 0 0, .nilp, .int .i64 (n : Int), .bool false, s9, s10, s11, .undef], ⟨[x], [], [.arr [gS (l.take n)]]⟩⟩ =
      some (.exit 0, ⟨[.isl false (lV l), I, pc, .lp 0 0, .bool false, .ptr 0 0 0, .nilp, i', .bool false, s9', s10', s11', .undef], ⟨[x], [], [.arr [gS (l.take N)]]⟩⟩)
  | 0, n, s9, s10, s11, hd => by
    have hn : n = N := by omega
    subst hn
    obtain ⟨h1, h2, h3⟩ := hN
    have hs := rfl (a := evCI pg ir_undertowlaw14_GuessPlaysl0 ⟨[.isl false (lV l), I, pc, .lp 0 0, .bool false, .ptr 0 0 0, .nilp, .int .i64 (n : Int), .bool false, s9, s10, s11, .undef], ⟨[x], [], [.arr [gS (l.take n)]]⟩⟩)
    by_cases c : n < l.length
    · have c1 : (n : Int) < (l.length : Int) := by omega
      have hn60 : n = 60 := by omega
      have c2 : ¬ (n : Int) < 60 := by omega
      have c3 : ¬ n < 60 := by omega
      conv at hs => rhs; simp [ir_undertowlaw14_GuessPlaysl0, go_sem, lV_len, c, c1, c2, c3]
      rw [s_loop, hs, s_then_exit]
      exact ⟨_, _, _, _, rfl⟩
    · have c1 : ¬ (n : Int) < (l.length : Int) := by omega
      conv at hs => rhs; simp [ir_undertowlaw14_GuessPlaysl0, go_sem, lV_len, c, c1]
      rw [s_loop, hs, s_then_exit]
      exact ⟨_, _, _, _, rfl⟩
  | d + 1, n, s9, s10, s11, hd => by
    have h' : n < l.length := by omega
    have h'' : (n : Int) < (l.length : Int) := by omega
    have h60 : n < 60 := by omega
    have h60' : (n : Int) < 60 := by omega
    have hcut1 := slc_lV l n (by omega)
    have hcut2 := slc_lV l (n + 1) (by omega)
    have htk : l.take (n + 1) = l.take n ++ [l[n]] := by rw [List.take_succ_eq_append_getElem h']
    obtain ⟨b1, b2, b3⟩ := hok l[n] (List.getElem_mem _)
    have hel2 := lV_el l n (by rw [lV_len]; exact h')
    have e7 : IntKind.i64.wrap ((n : Int) + 1) = ((n + 1 : Nat) : Int) := by rw [wrap_i64 (by omega) (by omega)]; rfl
    have hlen1 : (l.take n).length ≤ 9223372036854775806 := by rw [List.length_take]; omega
    have hlen2 : (l.take (n + 1)).length ≤ 9223372036854775806 := by rw [List.length_take]; omega
    have k1 := Next_ok true (l.take n) l[n].i l[n].pc b1
    have k2 := refNext_ok (l.take n) (okW_take hok n) hlen1 l[n].i b3 l[n].pc b1
    have k3 := Train_ok (l.take n) l[n] b1 b2
    rw [← htk] at k3
    have k4 := Train_nil l[n] [.arr [gS (l.take (n + 1))]]
    have k5 := Counter_ok true (l.take (n + 1)) l[n].pc b1
    have k6 := refCounter_ok (l.take (n + 1)) hlen2 (okW_take hok (n + 1)) l[n].pc b1
    have ih := plays_loop l hok N hN I J pc x d (n + 1)
    revert hel2 b1 b2 b3 k1 k2 k3 k4 k5 k6
    generalize l[n] = w
    obtain ⟨⟨op, a1, a2, a3, imm, f1, f2, a4, a5⟩, wp, nx⟩ := w
    intro b1 b2 b3 hel2 k1 k2 k3 k4 k5 k6
    simp only [wtV, insV] at b1 b2 b3 hel2 k1 k2 k3 k4 k5 k6
    have hs := rfl (a := evCI pg ir_undertowlaw14_GuessPlaysl0 ⟨[.isl false (lV l), I, pc, .lp 0 0, .bool false, .ptr 0 0 0, .nilp, .int .i64 (n : Int), .bool false, s9, s10, s11, .undef], ⟨[x], [], [.arr [gS (l.take n)]]⟩⟩)
    conv at hs => rhs; simp [ir_undertowlaw14_GuessPlaysl0, go_sem, lV_len, h', h'', h60, h60', hel2, hcut1, hcut2, omap_gS, k1, k2, k3, k4, k5, k6, e7, -Int.natCast_add]
    rw [s_loop, hs, s_then_nrm]
    exact ih _ _ _ (by omega)
theorem GuessPlays_true (l : List Wt) (hok : ∀ w ∈ l, okW w) (hll : l.length ≤ 9223372036854775807) (i : Ins) (hi : i.op ≤ 9223372036854775807) (pc : Nat) (hpc : pc < 18446744073709551616) : evI pg .val n_undertowlaw14_GuessPlays [.isl false (lV l), .agg (insV i), .int .u64 (pc : Int)] [] = some (.bool true, []) := by
  have hn := New_ok
  have k1 := Counter_nil pc
  have k2 := Next_nil i pc hpc
  have k3 := refNext_nil i hi pc hpc
  unfold insV at k2 k3 ⊢
  by_cases c : 60 < l.length
  · have c' : (60 : Int) < (l.length : Int) := by omega
    obtain ⟨i', s9', s10', s11', hlp⟩ := plays_loop l hok 60 ⟨by omega, by omega, .inr rfl⟩ (.agg (insV i)) .nilp (.int .u64 (pc : Int)) (insV i) 60 0 .undef .undef .undef (by omega)
    unfold insV at hlp
    simp at hlp
    rw [s_fn fn_undertowlaw14_GuessPlays]
    simp [ir_undertowlaw14_GuessPlays, go_sem, alive14, hn, hlp, lV_len, c, c', k1, k2, k3, unV]
  · have c' : ¬ (60 : Int) < (l.length : Int) := by omega
    have k4 := Next_ok true l i pc hpc
    have k5 := refNext_ok l hok (by omega) i hi pc hpc
    have k6 := Counter_ok true l pc hpc
    have k7 := refCounter_ok l (by omega) hok pc hpc
    obtain ⟨i', s9', s10', s11', hlp⟩ := plays_loop l hok l.length ⟨by omega, by omega, .inl rfl⟩ (.agg (insV i)) .nilp (.int .u64 (pc : Int)) (insV i) l.length 0 .undef .undef .undef (by omega)
    rw [List.take_length] at hlp
    unfold insV at hlp k4 k5
    simp at hlp
    rw [s_fn fn_undertowlaw14_GuessPlays]
    simp [ir_undertowlaw14_GuessPlays, go_sem, alive14, hn, hlp, lV_len, omap_gS, c, c', k1, k2, k3, k4, k5, k6, k7, unV]
theorem GuessPlays_nils (i : Ins) (hi : i.op ≤ 9223372036854775807) (pc : Nat) (hpc : pc < 18446744073709551616) : evI pg .val n_undertowlaw14_GuessPlays [.nils, .agg (insV i), .int .u64 (pc : Int)] [] = some (.bool true, []) := by
  have hn := New_ok
  have k1 := Counter_nil pc
  have k2 := Next_nil i pc hpc
  have k3 := refNext_nil i hi pc hpc
  have k4 := Next_ok true [] i pc hpc
  have k6 := Counter_ok true [] pc hpc
  have k7 := refCounter_nil pc
  have k0 : ctr [] (pla pc) = 1 := rfl
  rw [k0] at k6
  have hlp := rfl (a := evCI pg ir_undertowlaw14_GuessPlaysl0 ⟨[.nils, .agg (insV i), .int .u64 (pc : Int), .lp 0 0, .bool false, .ptr 0 0 0, .nilp, .int .i64 0, .bool false, .undef, .undef, .undef, .undef], ⟨[insV i], [], [.arr [gS []]]⟩⟩)
  unfold insV at k2 k3 k4 hlp ⊢
  conv at hlp => rhs; simp [ir_undertowlaw14_GuessPlaysl0, go_sem]
  rw [s_fn fn_undertowlaw14_GuessPlays]
  simp [ir_undertowlaw14_GuessPlays, go_sem, alive14, hn, s_loop, hlp, omap_gS, k1, k2, k3, k4, k6, k7, unV]
theorem law : ∀ vs, PArgs Try.prog 8 Try.f3.params.toList vs → ∃ k, evF pg k .val 3 vs [] = some (.bool true, []) := by
  intro vs h
  obtain ⟨v1, _, rfl, h1, v2, _, rfl, h2, v3, _, rfl, h3, rfl⟩ := h
  obtain ⟨pc, rfl, hpc⟩ := arg_u64 Try.underlying25 h3
  obtain ⟨cs, rfl, h4⟩ := arg_struct Try.underlying24 h2
  obtain ⟨i, rfl, hi⟩ := ins_of h4
  rcases arg_slice Try.underlying22 h1 with rfl | ⟨es, rfl, hl, hes⟩
  · exact (evI_iff (hx _ _)).1 (GuessPlays_nils i hi pc hpc)
  · obtain ⟨l, rfl, hok⟩ := pv_wts es hes
    have hl' : l.length ≤ 9223372036854775807 := by rw [lV_len] at hl; unfold maxLen at hl; omega
    exact (evI_iff (hx _ _)).1 (GuessPlays_true l hok hl' i hi pc hpc)
end Go.Proofs.Ytjfcjoiglkfaaaa
