/- Layer 14: where the document thinks it goes on (no claim; lemmas). -/
import Derived.Test.YtjfcjoiglkfaaaaK14d
import Derived.Test.YtjfcjoiglkfaaaaK14c
set_option linter.unusedSimpArgs false
set_option linter.unusedVariables false
namespace Go.Proofs.Ytjfcjoiglkfaaaa
open Go Go.Vm

theorem refNext_loop (l : List Wt) (hok : ∀ w ∈ l, okW w) (hl : l.length ≤ 9223372036854775806) (I J : V) (a : Nat) (ha : a < 18446744073709551616) (x : List V) (s5 : V) : ∀ (m : Nat) (iv : Int) (s9 s10 : V), m ≤ l.length → iv = (m : Int) - 1 →
    match (jmp (l.take m) (pla a)).2 with
    | true => ∃ i' s9' s10', evCI pg (.loop ir_undertowref14_Nextl0) ⟨[.isl false (lV l), I, .int .u64 (a : Int), .lp 0 0, .int .u64 0, s5, .int .i64 iv, .bool false, .bool true, s9, s10], ⟨[x], [], []⟩⟩ = some (.ret, ⟨[.isl false (lV l), I, .int .u64 (a : Int), .lp 0 0, .int .u64 ((jmp (l.take m) (pla a)).1 : Int), s5, i', .bool false, .bool true, s9', s10'], ⟨[x], [], []⟩⟩)
    | false => ∃ i' s9' s10', evCI pg (.loop ir_undertowref14_Nextl0) ⟨[.isl false (lV l), I, .int .u64 (a : Int), .lp 0 0, .int .u64 0, s5, .int .i64 iv, .bool false, .bool true, s9, s10], ⟨[x], [], []⟩⟩ = some (.exit 0, ⟨[.isl false (lV l), I, .int .u64 (a : Int), .lp 0 0, .int .u64 0, s5, i', .bool false, .bool true, s9', s10'], ⟨[x], [], []⟩⟩)
  | 0, iv, s9, s10, hm, hiv => by
    have hiv : iv = -1 := by omega
    subst hiv
    show ∃ i' s9' s10', _
    have hs := rfl (a := evCI pg ir_undertowref14_Nextl0 ⟨[.isl false (lV l), I, .int .u64 (a : Int), .lp 0 0, .int .u64 0, s5, .int .i64 (-1), .bool false, .bool true, s9, s10], ⟨[x], [], []⟩⟩)
    conv at hs => rhs; simp [ir_undertowref14_Nextl0, go_sem]
    rw [s_loop, hs, s_then_exit]
    exact ⟨_, _, _, rfl⟩
  | m + 1, iv, s9, s10, hm, hiv => by
    have hiv : iv = (m : Int) := by omega
    subst hiv
    have h' : m < l.length := by omega
    have h'' : (m : Int) < (l.length : Int) := by omega
    have htk : l.take (m + 1) = l.take m ++ [l[m]] := by rw [List.take_succ_eq_append_getElem h']
    rw [htk, jmp_app]
    obtain ⟨b1, b2, b3⟩ := hok l[m] (List.getElem_mem _)
    have hel2 := lV_el l m (by rw [lV_len]; exact h')
    have e7 : IntKind.i64.wrap ((m : Int) - 1) = (m : Int) - 1 := wrap_i64 (by omega) (by omega)
    revert hel2 b1 b2 b3
    generalize l[m] = w
    obtain ⟨⟨op, a1, a2, a3, imm, f1, f2, a4, a5⟩, pc, nx⟩ := w
    intro b1 b2 b3 hel2
    simp only [wtV] at b1 b2 b3 hel2
    have p1 := pl_num pc b1
    have p2 := pl_num a ha
    have ih := refNext_loop l hok hl I J a ha x s5 m ((m : Int) - 1)
    unfold jmpS
    simp only
    by_cases c1 : op = 4
    · by_cases c2 : pla pc = pla a
      · rw [if_pos ⟨c1, c2⟩]
        show ∃ i' s9' s10', _
        have hs := rfl (a := evCI pg ir_undertowref14_Nextl0 ⟨[.isl false (lV l), I, .int .u64 (a : Int), .lp 0 0, .int .u64 0, s5, .int .i64 (m : Int), .bool false, .bool true, s9, s10], ⟨[x], [], []⟩⟩)
        conv at hs => rhs; simp [ir_undertowref14_Nextl0, go_sem, lV_len, h', h'', hel2, p1, p2, c1, c2]
        rw [s_loop, hs, s_then_ret]
        exact ⟨_, _, _, rfl⟩
      · rw [if_neg (fun hh => c2 hh.2)]
        have c2' : ¬ (pla pc : Int) = (pla a : Int) := by omega
        have hs := rfl (a := evCI pg ir_undertowref14_Nextl0 ⟨[.isl false (lV l), I, .int .u64 (a : Int), .lp 0 0, .int .u64 0, s5, .int .i64 (m : Int), .bool false, .bool true, s9, s10], ⟨[x], [], []⟩⟩)
        conv at hs => rhs; simp [ir_undertowref14_Nextl0, go_sem, lV_len, h', h'', hel2, p1, p2, c1, c2, c2', e7]
        rw [s_loop, hs, s_then_nrm]
        exact ih _ _ (by omega) rfl
    · rw [if_neg (fun hh => c1 hh.1)]
      have hs := rfl (a := evCI pg ir_undertowref14_Nextl0 ⟨[.isl false (lV l), I, .int .u64 (a : Int), .lp 0 0, .int .u64 0, s5, .int .i64 (m : Int), .bool false, .bool true, s9, s10], ⟨[x], [], []⟩⟩)
      conv at hs => rhs; simp [ir_undertowref14_Nextl0, go_sem, lV_len, h', h'', hel2, p1, p2, c1, e7]
      rw [s_loop, hs, s_then_nrm]
      exact ih _ _ (by omega) rfl
theorem refNext_ok (l : List Wt) (hok : ∀ w ∈ l, okW w) (hl : l.length ≤ 9223372036854775806) (i : Ins) (hi : i.op ≤ 9223372036854775807) (a : Nat) (ha : a < 18446744073709551616) : evI pg .val n_undertowref14_Next [.isl false (lV l), .agg (insV i), .int .u64 (a : Int)] [] = some (.int .u64 (nxt l i a : Int), []) := by
  have hc := refCounter_ok l hl hok a ha
  have hs := refSort_ok i.op hi
  have e1 : IntKind.u64.wrap i.imm = (uo i.imm : Int) := wrap_uo _
  have e2 : IntKind.u64.wrap ((a : Int) + (uo i.imm : Int)) = (tgt i a : Int) := by rw [← Int.natCast_add, wrap_u64]; rfl
  have e3 : IntKind.u64.wrap ((a : Int) + 4) = (((a + 4) % 18446744073709551616 : Nat) : Int) := wrap_u64 (a + 4)
  have e4 : IntKind.i64.wrap ((l.length : Int) - 1) = (l.length : Int) - 1 := wrap_i64 (by omega) (by omega)
  rw [s_fn fn_undertowref14_Next]
  unfold nxt insV
  by_cases c1 : i.op = 3
  · have hs3 : sortO 3 = 2 := by decide
    rw [c1, hs3] at hs
    simp [ir_undertowref14_Next, go_sem, hs, c1, e1, e2]
  · by_cases c2 : sortO i.op = 3
    · rw [c2] at hs
      by_cases c3 : 1 < ctr l (pla a)
      · have c3' : (2 : Int) ≤ (ctr l (pla a) : Int) := by omega
        have c3'' : 2 ≤ ctr l (pla a) := by omega
        simp [ir_undertowref14_Next, go_sem, hs, hc, c1, c2, c3, c3', c3'', e1, e2]
      · have c3' : ¬ (2 : Int) ≤ (ctr l (pla a) : Int) := by omega
        have c3'' : ¬ 2 ≤ ctr l (pla a) := by omega
        have c4 : i.op ≠ 4 := by intro h4; rw [h4] at c2; revert c2; decide
        simp [ir_undertowref14_Next, go_sem, hs, hc, c1, c2, c3, c3', c3'', c4, e1, e2, e3, -Int.natCast_emod, -Int.natCast_add]
    · by_cases c4 : i.op = 4
      · have hs4 : sortO 4 = 2 := by decide
        rw [c4, hs4] at hs
        have hlp := refNext_loop l hok hl (.agg (insV i)) .nilp a ha (insV i) (.int .i64 2) l.length ((l.length : Int) - 1) .undef .undef (by omega) rfl
        rw [List.take_length] at hlp
        unfold insV at hlp
        rw [c4] at hlp
        cases hb : (jmp l (pla a)).2 with
        | true =>
          rw [hb] at hlp
          obtain ⟨i', s9', s10', hlp⟩ := hlp
          simp [ir_undertowref14_Next, go_sem, hs, hs4, c4, e1, e2, e3, e4, lV_len, hlp, hb, -Int.natCast_emod, -Int.natCast_add]
        | false =>
          rw [hb] at hlp
          obtain ⟨i', s9', s10', hlp⟩ := hlp
          simp [ir_undertowref14_Next, go_sem, hs, hs4, c4, e1, e2, e3, e4, lV_len, hlp, hb, -Int.natCast_emod, -Int.natCast_add]
      · simp [ir_undertowref14_Next, go_sem, hs, c1, c2, c4, e1, e2, e3, -Int.natCast_emod, -Int.natCast_add]
/-- Of no list. -/
theorem refCounter_nil (a : Nat) : evI pg .val n_undertowref14_Counter [.nils, .int .u64 (a : Int)] [] = some (.int .i64 1, []) := by
  have hs := rfl (a := evCI pg ir_undertowref14_Counterl0 ⟨[.nils, .int .u64 (a : Int), .int .i64 0, .int .i64 1, .int .i64 0, .undef, .undef, .undef, .undef, .undef, .undef], ⟨[[]], [], []⟩⟩)
  conv at hs => rhs; simp [ir_undertowref14_Counterl0, go_sem]
  rw [s_fn fn_undertowref14_Counter]
  simp [ir_undertowref14_Counter, go_sem, s_loop, hs]
theorem refNext_nil (i : Ins) (hi : i.op ≤ 9223372036854775807) (a : Nat) (ha : a < 18446744073709551616) : evI pg .val n_undertowref14_Next [.nils, .agg (insV i), .int .u64 (a : Int)] [] = some (.int .u64 (nxt [] i a : Int), []) := by
  have hc := refCounter_nil a
  have hs := refSort_ok i.op hi
  have j0 : jmp [] (pla a) = (0, false) := rfl
  have k0 : ctr [] (pla a) = 1 := rfl
  have e1 : IntKind.u64.wrap i.imm = (uo i.imm : Int) := wrap_uo _
  have e2 : IntKind.u64.wrap ((a : Int) + (uo i.imm : Int)) = (tgt i a : Int) := by rw [← Int.natCast_add, wrap_u64]; rfl
  have e3 : IntKind.u64.wrap ((a : Int) + 4) = (((a + 4) % 18446744073709551616 : Nat) : Int) := wrap_u64 (a + 4)
  have e4 : IntKind.i64.wrap (-1) = -1 := by rfl
  rw [s_fn fn_undertowref14_Next]
  unfold nxt insV
  by_cases c1 : i.op = 3
  · have hs3 : sortO 3 = 2 := by decide
    rw [c1, hs3] at hs
    simp [ir_undertowref14_Next, go_sem, hs, c1, e1, e2]
  · by_cases c2 : sortO i.op = 3
    · rw [c2] at hs
      have c4 : i.op ≠ 4 := by intro h4; rw [h4] at c2; revert c2; decide
      simp [ir_undertowref14_Next, go_sem, hs, hc, j0, k0, c1, c2, c4, e1, e2, e3, -Int.natCast_emod, -Int.natCast_add]
    · by_cases c4 : i.op = 4
      · have hs4 : sortO 4 = 2 := by decide
        rw [c4, hs4] at hs
        have hlp := rfl (a := evCI pg ir_undertowref14_Nextl0 ⟨[.nils, .agg [.int .i64 4, .int .i64 i.a, .int .i64 i.b, .int .i64 i.c, .int .i64 i.imm, .bool i.d, .bool i.e, .int .i64 i.f, .int .i64 i.g], .int .u64 (a : Int), .lp 0 0, .int .u64 0, .int .i64 2, .int .i64 (-1), .bool false, .bool true, .undef, .undef], ⟨[[.int .i64 4, .int .i64 i.a, .int .i64 i.b, .int .i64 i.c, .int .i64 i.imm, .bool i.d, .bool i.e, .int .i64 i.f, .int .i64 i.g]], [], []⟩⟩)
        conv at hlp => rhs; simp [ir_undertowref14_Nextl0, go_sem]
        simp [ir_undertowref14_Next, go_sem, hs, hs4, c4, j0, e1, e2, e3, e4, s_loop, hlp, -Int.natCast_emod, -Int.natCast_add]
      · simp [ir_undertowref14_Next, go_sem, hs, c1, c2, c4, e1, e2, e3, -Int.natCast_emod, -Int.natCast_add]
end Go.Proofs.Ytjfcjoiglkfaaaa
