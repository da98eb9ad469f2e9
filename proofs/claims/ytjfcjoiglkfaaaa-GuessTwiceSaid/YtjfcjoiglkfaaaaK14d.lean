/- Layer 14: what the document's functions come to (no claim; lemmas). -/
import Derived.Test.YtjfcjoiglkfaaaaK14b
set_option linter.unusedSimpArgs false
set_option linter.unusedVariables false
namespace Go.Proofs.Ytjfcjoiglkfaaaa
open Go Go.Vm

def wtV (w : Wt) : List V := [.int .i64 w.i.op, .int .i64 w.i.a, .int .i64 w.i.b, .int .i64 w.i.c, .int .i64 w.i.imm, .bool w.i.d, .bool w.i.e, .int .i64 w.i.f, .int .i64 w.i.g, .int .u64 (w.pc : Int), .int .u64 (w.nx : Int)]
def lV (l : List Wt) : List (List V) := l.map wtV
theorem lV_len (l : List Wt) : (lV l).length = l.length := by simp [lV]
theorem lV_el (l : List Wt) (i : Nat) (h : i < (lV l).length) : (lV l)[i] = wtV (l[i]'(by simpa [lV] using h)) := by simp [lV]
theorem lV_take (l : List Wt) (i : Nat) : (lV l).take i = lV (l.take i) := by simp [lV]
def okW (w : Wt) : Prop := w.pc < 18446744073709551616 ∧ w.nx < 18446744073709551616 ∧ w.i.op ≤ 9223372036854775807
theorem refCounter_loop (l : List Wt) (hl : l.length ≤ 9223372036854775806) (hok : ∀ w ∈ l, okW w) (a : Nat) (ha : a < 18446744073709551616) : ∀ (d i : Nat) (s6 s7 s8 s9 s10 s5 : V) (x : List V) (acc : Nat), i + d = l.length → acc ≤ 3 →
    ∃ i' s5' s6' s7' s8' s9' s10' x', evCI pg (.loop ir_undertowref14_Counterl0) ⟨[.isl false (lV l), .int .u64 (a : Int), .int .i64 0, .int .i64 (acc : Int), .int .i64 (i : Int), s5, s6, s7, s8, s9, s10], ⟨[x], [], []⟩⟩ =
      some (.exit 0, ⟨[.isl false (lV l), .int .u64 (a : Int), .int .i64 0, .int .i64 (((l.drop i).foldl (ctrS (pla a)) acc : Nat) : Int), i', s5', s6', s7', s8', s9', s10'], ⟨[x'], [], []⟩⟩)
  | 0, i, s6, s7, s8, s9, s10, s5, x, acc, hd, hacc => by
    have h : ¬ ((i : Int) < (l.length : Int)) := by omega
    have h' : ¬ (i < l.length) := by omega
    have hs := rfl (a := evCI pg ir_undertowref14_Counterl0 ⟨[.isl false (lV l), .int .u64 (a : Int), .int .i64 0, .int .i64 (acc : Int), .int .i64 (i : Int), s5, s6, s7, s8, s9, s10], ⟨[x], [], []⟩⟩)
    conv at hs => rhs; simp [ir_undertowref14_Counterl0, go_sem, lV_len, h, h']
    rw [s_loop, hs, s_then_exit, List.drop_of_length_le (by omega)]
    exact ⟨_, _, _, _, _, _, _, _, rfl⟩
  | d + 1, i, s6, s7, s8, s9, s10, s5, x, acc, hd, hacc => by
    have h' : i < l.length := by omega
    have hdrop : l.drop i = l[i] :: l.drop (i + 1) := List.drop_eq_getElem_cons h'
    obtain ⟨b1, b2, b3⟩ := hok l[i] (List.getElem_mem _)
    have hel : (lV l)[i]? = some (wtV l[i]) := by rw [List.getElem?_eq_getElem (by rw [lV_len]; exact h'), lV_el]
    have hel2 := lV_el l i (by rw [lV_len]; exact h')
    revert hel hel2 hdrop b1 b2 b3
    generalize l[i] = w
    obtain ⟨⟨op, a1, a2, a3, imm, f1, f2, a4, a5⟩, pc, nx⟩ := w
    intro hdrop b1 b2 b3 hel hel2
    simp only [wtV] at b1 b2 b3 hel hel2
    have e7 : IntKind.i64.wrap ((i : Int) + 1) = (i : Int) + 1 := wrap_i64 (by omega) (by omega)
    have p1 := pl_num pc b1
    have p2 := pl_num a ha
    have hs5 := refSort_ok op b3
    have e1 : IntKind.u64.wrap imm = (uo imm : Int) := wrap_uo _
    have e2 : IntKind.u64.wrap ((pc : Int) + (uo imm : Int)) = (tgt ⟨op, a1, a2, a3, imm, f1, f2, a4, a5⟩ pc : Int) := by rw [← Int.natCast_add, wrap_u64]; rfl
    have hacc' := ctrS_le (pla a) acc ⟨⟨op, a1, a2, a3, imm, f1, f2, a4, a5⟩, pc, nx⟩ hacc
    by_cases c1 : pla pc = pla a
    · by_cases c2 : sortO op = 3
      · by_cases c3 : imm = 4
        · have hst : ctrS (pla a) acc ⟨⟨op, a1, a2, a3, imm, f1, f2, a4, a5⟩, pc, nx⟩ = acc := by unfold ctrS; rw [if_pos (Or.inr (Or.inr c3))]
          have hs := rfl (a := evCI pg ir_undertowref14_Counterl0 ⟨[.isl false (lV l), .int .u64 (a : Int), .int .i64 0, .int .i64 (acc : Int), .int .i64 (i : Int), s5, s6, s7, s8, s9, s10], ⟨[x], [], []⟩⟩)
          conv at hs => rhs; simp [ir_undertowref14_Counterl0, go_sem, lV_len, h', hel2, p1, p2, hs5, c1, c2, c3, e7, -Int.natCast_emod, -Int.natCast_add]
          rw [s_loop, hs, s_then_nrm, hdrop, List.foldl_cons, hst]
          exact refCounter_loop l hl hok a ha d (i + 1) _ _ _ _ _ _ _ _ (by omega) hacc
        · by_cases c4 : nx = tgt ⟨op, a1, a2, a3, imm, f1, f2, a4, a5⟩ pc
          · have c4' : (nx : Int) = (tgt ⟨op, a1, a2, a3, imm, f1, f2, a4, a5⟩ pc : Int) := by rw [c4]
            have hst : ctrS (pla a) acc ⟨⟨op, a1, a2, a3, imm, f1, f2, a4, a5⟩, pc, nx⟩ = min (acc + 1) 3 := by unfold ctrS; rw [if_neg (by simp [c1, c2, c3]), if_pos c4]
            rw [hst] at hacc'
            by_cases c5 : acc < 3
            · have c5' : (acc : Int) < 3 := by omega
              have e8 : IntKind.i64.wrap ((acc : Int) + 1) = ((min (acc + 1) 3 : Nat) : Int) := by rw [wrap_i64 (by omega) (by omega)]; omega
              have hs := rfl (a := evCI pg ir_undertowref14_Counterl0 ⟨[.isl false (lV l), .int .u64 (a : Int), .int .i64 0, .int .i64 (acc : Int), .int .i64 (i : Int), s5, s6, s7, s8, s9, s10], ⟨[x], [], []⟩⟩)
              conv at hs => rhs; simp [ir_undertowref14_Counterl0, go_sem, lV_len, h', hel2, p1, p2, hs5, c1, c2, c3, ← c4', c5, c5', e1, e2, e7, e8, -Int.natCast_emod, -Int.natCast_add]
              rw [s_loop, hs, s_then_nrm, hdrop, List.foldl_cons, hst]
              exact refCounter_loop l hl hok a ha d (i + 1) _ _ _ _ _ _ _ _ (by omega) hacc'
            · have c5' : ¬ (acc : Int) < 3 := by omega
              have e9 : min (acc + 1) 3 = acc := by omega
              rw [e9] at hst
              have hs := rfl (a := evCI pg ir_undertowref14_Counterl0 ⟨[.isl false (lV l), .int .u64 (a : Int), .int .i64 0, .int .i64 (acc : Int), .int .i64 (i : Int), s5, s6, s7, s8, s9, s10], ⟨[x], [], []⟩⟩)
              conv at hs => rhs; simp [ir_undertowref14_Counterl0, go_sem, lV_len, h', hel2, p1, p2, hs5, c1, c2, c3, ← c4', c5, c5', e1, e2, e7, -Int.natCast_emod, -Int.natCast_add]
              rw [s_loop, hs, s_then_nrm, hdrop, List.foldl_cons, hst]
              exact refCounter_loop l hl hok a ha d (i + 1) _ _ _ _ _ _ _ _ (by omega) hacc
          · have c4' : ¬ (nx : Int) = (tgt ⟨op, a1, a2, a3, imm, f1, f2, a4, a5⟩ pc : Int) := by omega
            have hst : ctrS (pla a) acc ⟨⟨op, a1, a2, a3, imm, f1, f2, a4, a5⟩, pc, nx⟩ = acc - 1 := by unfold ctrS; rw [if_neg (by simp [c1, c2, c3]), if_neg c4]
            rw [hst] at hacc'
            by_cases c5 : 0 < acc
            · have c5' : 0 < (acc : Int) := by omega
              have e8 : IntKind.i64.wrap ((acc : Int) - 1) = ((acc - 1 : Nat) : Int) := by rw [wrap_i64 (by omega) (by omega)]; omega
              have hs := rfl (a := evCI pg ir_undertowref14_Counterl0 ⟨[.isl false (lV l), .int .u64 (a : Int), .int .i64 0, .int .i64 (acc : Int), .int .i64 (i : Int), s5, s6, s7, s8, s9, s10], ⟨[x], [], []⟩⟩)
              conv at hs => rhs; simp [ir_undertowref14_Counterl0, go_sem, lV_len, h', hel2, p1, p2, hs5, c1, c2, c3, c4, c4', c5, c5', e1, e2, e7, e8, -Int.natCast_emod, -Int.natCast_add]
              rw [s_loop, hs, s_then_nrm, hdrop, List.foldl_cons, hst]
              exact refCounter_loop l hl hok a ha d (i + 1) _ _ _ _ _ _ _ _ (by omega) hacc'
            · have hz : acc = 0 := by omega
              subst hz
              have hs := rfl (a := evCI pg ir_undertowref14_Counterl0 ⟨[.isl false (lV l), .int .u64 (a : Int), .int .i64 0, .int .i64 ((0 : Nat) : Int), .int .i64 (i : Int), s5, s6, s7, s8, s9, s10], ⟨[x], [], []⟩⟩)
              conv at hs => rhs; simp [ir_undertowref14_Counterl0, go_sem, lV_len, h', hel2, p1, p2, hs5, c1, c2, c3, c4, c4', e1, e2, e7, -Int.natCast_emod, -Int.natCast_add]
              rw [s_loop, hs, s_then_nrm, hdrop, List.foldl_cons, hst]
              exact refCounter_loop l hl hok a ha d (i + 1) _ _ _ _ _ _ _ 0 (by omega) hacc
      · have hst : ctrS (pla a) acc ⟨⟨op, a1, a2, a3, imm, f1, f2, a4, a5⟩, pc, nx⟩ = acc := by unfold ctrS; rw [if_pos (Or.inr (Or.inl c2))]
        have hs := rfl (a := evCI pg ir_undertowref14_Counterl0 ⟨[.isl false (lV l), .int .u64 (a : Int), .int .i64 0, .int .i64 (acc : Int), .int .i64 (i : Int), s5, s6, s7, s8, s9, s10], ⟨[x], [], []⟩⟩)
        conv at hs => rhs; simp [ir_undertowref14_Counterl0, go_sem, lV_len, h', hel2, p1, p2, hs5, c1, c2, e7, -Int.natCast_emod, -Int.natCast_add]
        rw [s_loop, hs, s_then_nrm, hdrop, List.foldl_cons, hst]
        exact refCounter_loop l hl hok a ha d (i + 1) _ _ _ _ _ _ _ _ (by omega) hacc
    · have c1' : ¬ (pla pc : Int) = (pla a : Int) := by omega
      have hst : ctrS (pla a) acc ⟨⟨op, a1, a2, a3, imm, f1, f2, a4, a5⟩, pc, nx⟩ = acc := by unfold ctrS; rw [if_pos (Or.inl c1)]
      have hs := rfl (a := evCI pg ir_undertowref14_Counterl0 ⟨[.isl false (lV l), .int .u64 (a : Int), .int .i64 0, .int .i64 (acc : Int), .int .i64 (i : Int), s5, s6, s7, s8, s9, s10], ⟨[x], [], []⟩⟩)
      conv at hs => rhs; simp [ir_undertowref14_Counterl0, go_sem, lV_len, h', hel2, p1, p2, hs5, c1, c1', e7, -Int.natCast_emod, -Int.natCast_add]
      rw [s_loop, hs, s_then_nrm, hdrop, List.foldl_cons, hst]
      exact refCounter_loop l hl hok a ha d (i + 1) _ _ _ _ _ _ _ _ (by omega) hacc
theorem refCounter_ok (l : List Wt) (hl : l.length ≤ 9223372036854775806) (hok : ∀ w ∈ l, okW w) (a : Nat) (ha : a < 18446744073709551616) : evI pg .val n_undertowref14_Counter [.isl false (lV l), .int .u64 (a : Int)] [] = some (.int .i64 (ctr l (pla a) : Int), []) := by
  obtain ⟨i', s5', s6', s7', s8', s9', s10', x', h⟩ := refCounter_loop l hl hok a ha l.length 0 .undef .undef .undef .undef .undef .undef [] 1 (by omega) (by omega)
  simp at h
  rw [s_fn fn_undertowref14_Counter]
  simp [ir_undertowref14_Counter, go_sem, h]
  rfl
end Go.Proofs.Ytjfcjoiglkfaaaa
