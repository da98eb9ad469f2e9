/- Layer 14: what the program's guess comes to (no claim; lemmas). -/
import Derived.Test.YtjfcjoiglkfaaaaK14b
set_option linter.unusedSimpArgs false
set_option linter.unusedVariables false
namespace Go.Proofs.Ytjfcjoiglkfaaaa
open Go Go.Vm

attribute [go_sem] fill clean
def insV (i : Ins) : List V := [.int .i64 i.op, .int .i64 i.a, .int .i64 i.b, .int .i64 i.c, .int .i64 i.imm, .bool i.d, .bool i.e, .int .i64 i.f, .int .i64 i.g]
theorem Counter_ok (t : Bool) (l : List Wt) (a : Nat) (h : a < 18446744073709551616) : evI pg .val n_guess_Guess_Counter [.ip t (gS l) 0, .int .u64 (a : Int)] [] = some (.int .i64 (ctr l (pla a) : Int), []) := by
  have hl := gS_len l
  have hp := place_ok a h
  have hpl := pla_lt a
  have hpl' : (pla a : Int) < 16 := by omega
  rw [s_fn fn_guess_Guess_Counter]
  simp [ir_guess_Guess_Counter, go_sem, hp, hl, hpl, hpl', gS_ctr]
theorem Counter_nil (a : Nat) : evI pg .val n_guess_Guess_Counter [.nilp, .int .u64 (a : Int)] [] = some (.int .i64 0, []) := by
  rw [s_fn fn_guess_Guess_Counter]
  simp [ir_guess_Guess_Counter, go_sem]
theorem went_ok (t : Bool) (l : List Wt) (a : Nat) (h : a < 18446744073709551616) : evI pg .val n_guess_jumps_went [.ip t (gS l) 0, .int .u64 (a : Int)] [] = some (.agg [.int .u64 ((jmp l (pla a)).1 : Int), .bool (jmp l (pla a)).2], []) := by
  have hl := gS_len l
  have hp := place_ok a h
  have hpl := pla_lt a
  have hpl' : (pla a : Int) < 16 := by omega
  have h46 : pla a * 2 ≤ 46 := by omega
  rw [s_fn fn_guess_jumps_went]
  simp [ir_guess_jumps_went, go_sem, hp, hl, hpl, hpl', h46, gS_jump]
theorem New_ok : evI pg .heap n_guess_New [] [] = some (.ptr 0 0 0, [.arr [gS []]]) := by
  have e : gS [] = gC (List.replicate 16 (0, false)) (List.replicate 16 1) := by
    unfold gS jL cL jmp ctr
    rfl
  rw [e]
  exact closed irL_ok 100 (by kernel_rfl)
theorem Next_ok (t : Bool) (l : List Wt) (i : Ins) (a : Nat) (h : a < 18446744073709551616) : evI pg .val n_guess_Guess_Next [.ip t (gS l) 0, .agg (insV i), .int .u64 (a : Int)] [] = some (.int .u64 (nxt l i a : Int), []) := by
  have hl := gS_len l
  have hw := went_ok t l a h
  have hc := Counter_ok t l a h
  have hs := Sort_ok i.op
  have e1 : IntKind.u64.wrap i.imm = (uo i.imm : Int) := wrap_uo _
  have e2 : IntKind.u64.wrap ((a : Int) + (uo i.imm : Int)) = (tgt i a : Int) := by rw [← Int.natCast_add, wrap_u64]; rfl
  have e3 : IntKind.u64.wrap ((a : Int) + 4) = (((a + 4) % 18446744073709551616 : Nat) : Int) := wrap_u64 (a + 4)
  rw [s_fn fn_guess_Guess_Next]
  unfold nxt insV
  by_cases c1 : i.op = 3
  · simp [ir_guess_Guess_Next, go_sem, c1, e1, e2]
  · by_cases c2 : sortO i.op = 3
    · by_cases c3 : 1 < ctr l (pla a)
      · have c3' : (1 : Int) < (ctr l (pla a) : Int) := by omega
        rw [c2] at hs
        simp [ir_guess_Guess_Next, go_sem, c1, c2, c3, c3', hs, hc, e1, e2]
      · have c3' : ¬ (1 : Int) < (ctr l (pla a) : Int) := by omega
        have c4 : i.op ≠ 4 := by intro h4; rw [h4] at c2; revert c2; decide
        rw [c2] at hs
        simp [ir_guess_Guess_Next, go_sem, c1, c2, c3, c3', c4, hs, hc, e1, e2, e3, -Int.natCast_emod, -Int.natCast_add]
    · by_cases c4 : i.op = 4
      · have hs4 : sortO 4 = 2 := by decide
        rw [c4, hs4] at hs
        cases hb : (jmp l (pla a)).2 with
        | true =>
          rw [hb] at hw
          simp [ir_guess_Guess_Next, go_sem, c4, hs4, hs, hw, hb, e1, e2, e3, -Int.natCast_emod, -Int.natCast_add]
        | false =>
          rw [hb] at hw
          simp [ir_guess_Guess_Next, go_sem, c4, hs4, hs, hw, hb, e1, e2, e3, -Int.natCast_emod, -Int.natCast_add]
      · simp [ir_guess_Guess_Next, go_sem, c1, c2, c4, hs, e1, e2, e3, -Int.natCast_emod, -Int.natCast_add]
theorem Next_nil (i : Ins) (a : Nat) (h : a < 18446744073709551616) : evI pg .val n_guess_Guess_Next [.nilp, .agg (insV i), .int .u64 (a : Int)] [] = some (.int .u64 (nxt [] i a : Int), []) := by
  have hn := New_ok
  have hl := gS_len []
  have hw := went_ok true [] a h
  have hc := Counter_ok true [] a h
  have hs := Sort_ok i.op
  have j0 : jmp [] (pla a) = (0, false) := rfl
  have k0 : ctr [] (pla a) = 1 := rfl
  rw [j0] at hw
  rw [k0] at hc
  have e1 : IntKind.u64.wrap i.imm = (uo i.imm : Int) := wrap_uo _
  have e2 : IntKind.u64.wrap ((a : Int) + (uo i.imm : Int)) = (tgt i a : Int) := by rw [← Int.natCast_add, wrap_u64]; rfl
  have e3 : IntKind.u64.wrap ((a : Int) + 4) = (((a + 4) % 18446744073709551616 : Nat) : Int) := wrap_u64 (a + 4)
  rw [s_fn fn_guess_Guess_Next]
  unfold nxt insV
  by_cases c1 : i.op = 3
  · simp [ir_guess_Guess_Next, go_sem, hn, c1, e1, e2]
  · by_cases c2 : sortO i.op = 3
    · have c4 : i.op ≠ 4 := by intro h4; rw [h4] at c2; revert c2; decide
      rw [c2] at hs
      simp [ir_guess_Guess_Next, go_sem, hn, omap_gS, j0, k0, c1, c2, c4, hs, hc, e1, e2, e3, -Int.natCast_emod, -Int.natCast_add]
    · by_cases c4 : i.op = 4
      · have hs4 : sortO 4 = 2 := by decide
        rw [c4, hs4] at hs
        simp [ir_guess_Guess_Next, go_sem, hn, hl, omap_gS, j0, k0, c4, hs4, hs, hw, e1, e2, e3, -Int.natCast_emod, -Int.natCast_add]
      · simp [ir_guess_Guess_Next, go_sem, hn, j0, k0, c1, c2, c4, hs, e1, e2, e3, -Int.natCast_emod, -Int.natCast_add]
theorem Train_ok (l : List Wt) (w : Wt) (h : w.pc < 18446744073709551616) (h' : w.nx < 18446744073709551616) : evI pg .heap n_guess_Guess_Train [.ptr 0 0 0, .agg (insV w.i), .int .u64 (w.pc : Int), .int .u64 (w.nx : Int)] [.arr [gS l]] = some (.tup [], [.arr [gS (l ++ [w])]]) := by
  have hl := gS_len l
  have hp := place_ok w.pc h
  have hpl := pla_lt w.pc
  have hpl' : (pla w.pc : Int) < 16 := by omega
  have h46 : pla w.pc * 2 ≤ 46 := by omega
  have hs := Sort_ok w.i.op
  have e1 : IntKind.u64.wrap w.i.imm = (uo w.i.imm : Int) := wrap_uo _
  have e2 : IntKind.u64.wrap ((w.pc : Int) + (uo w.i.imm : Int)) = (tgt w.i w.pc : Int) := by rw [← Int.natCast_add, wrap_u64]; rfl
  have hle := ctr_le l (pla w.pc)
  have h47 : 32 + pla w.pc ≤ 47 := by omega
  have e8 : IntKind.i64.wrap ((ctr l (pla w.pc) : Int) + 1) = (ctr l (pla w.pc) : Int) + 1 := wrap_i64 (by omega) (by omega)
  have e8' : IntKind.i64.wrap ((ctr l (pla w.pc) : Int) - 1) = (ctr l (pla w.pc) : Int) - 1 := wrap_i64 (by omega) (by omega)
  have e9 : (if 3 < (ctr l (pla w.pc) : Int) + 1 then (3 : Int) else (ctr l (pla w.pc) : Int) + 1) = ((min (ctr l (pla w.pc) + 1) 3 : Nat) : Int) := by split <;> omega
  have e9' : (if (ctr l (pla w.pc) : Int) - 1 < 0 then (0 : Int) else (ctr l (pla w.pc) : Int) - 1) = ((ctr l (pla w.pc) - 1 : Nat) : Int) := by split <;> omega
  rw [s_fn fn_guess_Guess_Train]
  unfold insV
  by_cases c4 : w.i.op = 4
  · have hst := gS_j l w c4
    simp [ir_guess_Guess_Train, go_sem, c4, hp, hl, hpl, hpl', h46, hst]
  · by_cases c2 : sortO w.i.op = 3
    · rw [c2] at hs
      by_cases c5 : w.i.imm = 4
      · have hst := gS_n l w c4 (Or.inr c5)
        simp [ir_guess_Guess_Train, go_sem, c4, c2, c5, hp, hs, hl, hpl, hpl', h46]
        exact hst
      · by_cases c6 : w.nx = tgt w.i w.pc
        · have hst := gS_c l w (min (ctr l (pla w.pc) + 1) 3) c4 (by unfold ctrS; rw [if_neg (by simp [c2, c5]), if_pos c6])
          simp [ir_guess_Guess_Train, go_sem, c4, c2, c5, c6, hp, hs, hl, hpl, hpl', h46, gS_ctr, e1, e2, e8, e8', e9, e9', h47, hst]
        · have hst := gS_c l w (ctr l (pla w.pc) - 1) c4 (by unfold ctrS; rw [if_neg (by simp [c2, c5]), if_neg c6])
          have c6' : ¬ (w.nx : Int) = (tgt w.i w.pc : Int) := by omega
          simp [ir_guess_Guess_Train, go_sem, c4, c2, c5, c6, c6', hp, hs, hl, hpl, hpl', h46, gS_ctr, e1, e2, e8, e8', e9, e9', h47, hst]
    · have hst := gS_n l w c4 (Or.inl c2)
      simp [ir_guess_Guess_Train, go_sem, c4, c2, hp, hs, hl, hpl, hpl', h46]
      exact hst
end Go.Proofs.Ytjfcjoiglkfaaaa
