/- Layer 19: does a list fit, the document's side (no claim; lemmas). -/
import Derived.Test.YtkjfedgjjgobaaaDoorK19s
set_option linter.unusedSimpArgs false
set_option linter.unusedVariables false
namespace Go.Proofs.YtkjfedgjjgobaaaDoor
open Go Go.Vm

/-- Does it fit, one after the other. -/
def rfit (R : Nat → Nat → Bool) (n : Nat) (g : Nat → Bool) (pre : List Int) : List Int → Bool
  | [] => true
  | a :: l => if 0 ≤ a ∧ a < n ∧ g a.toNat = false then (if ((pre ++ [a]).all fun b => !R a.toNat b.toNat) = true then rfit R n (goneA g a.toNat) (pre ++ [a]) l else false) else false
section
variable (tv : V) (n : Nat) (hn : n ≤ 512) (R : Nat → Nat → Bool) (ht : TabV tv n R) (u : V) (l : List Int) (hu : Sl u (iI l)) (hl : l.length = n)
include hn ht hu hl
theorem refFits_l0 (i : Nat) (hi : i < l.length) (a : Nat) (hia : l[i] = (a : Int)) (ha : a < n) (hb : ∀ k (h : k < l.length), k ≤ i → 0 ≤ l[k] ∧ l[k] < n) (gr : List (List V)) (k : Nat) (hk : k ≤ i + 1) :
    evCI pg (.loop ir_undertowref19_Fitsl0) ⟨[tv, u, .undef, .rsl 0 0 n, .int .i64 (i : Int), .int .i64 (k : Int), .undef, .undef, .undef, .undef, .undef], ⟨[], [], [.arr gr]⟩⟩ =
      some (if (((l.take (i + 1)).drop k).all fun b => !R a b.toNat) = true then (.exit 2, ⟨[tv, u, .undef, .rsl 0 0 n, .int .i64 (i : Int), .int .i64 ((i + 1 : Nat) : Int), .undef, .undef, .undef, .bool false, .undef], ⟨[], [], [.arr gr]⟩⟩)
      else (.ret, ⟨[.undef, .undef, .bool false, .undef, .undef, .undef, .undef, .undef, .undef, .undef, .undef], ⟨[], [], [.arr gr]⟩⟩)) := by
  obtain ⟨B, hB⟩ : ∃ B, B = Vm.C.loop ir_undertowref19_Fitsl0 := ⟨_, rfl⟩
  have hlt : (l.take (i + 1)).length = i + 1 := by simp; omega
  by_cases c : k < i + 1
  · have e3 := succ_i64 c (by omega)
    have ck : (k : Int) ≤ (i : Int) := by omega
    have ei := fun m => hu.ia (sz := 1) m .i64 (i := i) (by rw [iI_len]; exact hi) (by simp [iI])
    have ek := fun m => hu.ia (sz := 1) m .i64 (i := k) (by rw [iI_len]; omega) (by simp [iI])
    simp only [iI_el, hia] at ei ek
    have hbk := hb k (by omega) (by omega)
    have hdr : (l.take (i + 1)).drop k = l[k] :: (l.take (i + 1)).drop (k + 1) := by
      rw [List.drop_eq_getElem_cons (by omega), List.getElem_take]
    rw [hdr, List.all_cons]
    generalize l[k]'(by omega) = y at *
    obtain ⟨y, rfl⟩ : ∃ q : Nat, y = q := ⟨y.toNat, by omega⟩
    have hy : y < n := by omega
    obtain ⟨x, hx, ex⟩ := ht.row ha
    have e1 := TabV.el hx hy
    have ih := refFits_l0 i hi a hia ha hb gr (k + 1) (by omega)
    rw [Int.toNat_natCast]
    cases hR : R a y with
    | true =>
      rw [hR] at e1
      simp only [Bool.not_true, Bool.false_and, Bool.false_eq_true, if_false]
      rw [← hB, s_loop_at hB]
      simp [ir_undertowref19_Fitsl0, go_sem, ht.is, hu.is, hx.is, c, ck, e3, ei, ek, ex, e1, -Int.natCast_add]
    | false =>
      rw [hR] at e1
      simp only [Bool.not_false, Bool.true_and]
      rw [← ih, ← hB]
      conv => lhs; rw [s_loop_at hB]
      simp [ir_undertowref19_Fitsl0, go_sem, ht.is, hu.is, hx.is, c, ck, e3, ei, ek, ex, e1, -Int.natCast_add]
  · obtain rfl : k = i + 1 := by omega
    have ck : ¬ ((i + 1 : Nat) : Int) ≤ (i : Int) := by omega
    rw [← hB, s_loop_at hB, List.drop_eq_nil_of_le (by omega)]
    simp [ir_undertowref19_Fitsl0, go_sem, ck, -Int.natCast_add]
termination_by i + 1 - k
theorem refFits_l1 (i : Nat) (hi : i ≤ l.length) (g : Nat → Bool) (hb : ∀ k (h : k < l.length), k < i → 0 ≤ l[k] ∧ l[k] < n) :
    ∃ H', evCI pg (.loop ir_undertowref19_Fitsl1) ⟨[tv, u, .undef, .rsl 0 0 n, .int .i64 (i : Int), .undef, .undef, .undef, .undef, .undef, .undef], ⟨[], [], [.arr (bR n g)]⟩⟩ =
      some (if rfit R n g (l.take i) (l.drop i) = true then (.exit 0, ⟨[tv, u, .undef, .rsl 0 0 n, .int .i64 (l.length : Int), .undef, .undef, .bool false, .undef, .undef, .undef], ⟨[], [], H'⟩⟩)
      else (.ret, ⟨[.undef, .undef, .bool false, .undef, .undef, .undef, .undef, .undef, .undef, .undef, .undef], ⟨[], [], H'⟩⟩)) := by
  obtain ⟨B, hB⟩ : ∃ B, B = Vm.C.loop ir_undertowref19_Fitsl1 := ⟨_, rfl⟩
  by_cases c : i < l.length
  · have e3 := succ_i64 c (by omega)
    have ei := fun m => hu.ia (sz := 1) m .i64 (i := i) (by rw [iI_len]; exact c) (by simp [iI])
    simp only [iI_el] at ei
    have htk : l.take (i + 1) = l.take i ++ [l[i]] := List.take_succ_eq_append_getElem c
    have h0 := fun (a : Nat) (hia : l[i] = (a : Int)) (ha : a < n) hb gr => refFits_l0 tv n hn R ht u l hu hl i c a hia ha hb gr 0 (by omega)
    have ihh := fun g hb => refFits_l1 (i + 1) (by omega) g hb
    rw [List.drop_eq_getElem_cons c]
    unfold rfit
    rw [← htk]
    by_cases c1 : 0 ≤ l[i]
    · by_cases c2 : l[i] < n
      · obtain ⟨a, ha0⟩ : ∃ k : Nat, l[i] = k := ⟨l[i].toNat, by omega⟩
        have ha : a < n := by omega
        have hb' : ∀ k (h : k < l.length), k ≤ i → 0 ≤ l[k] ∧ l[k] < n := fun k h hk => by
          by_cases e : k = i
          · subst e; exact ⟨c1, c2⟩
          · exact hb k h (by omega)
        rw [ha0] at ei ⊢
        rw [Int.toNat_natCast]
        have hbl := bR_len n g
        have hbg := bR_get (n := n) g ha
        have hbrl : a < (bR n g).length := by omega
        have hbre := bR_el n g a hbrl
        have hneg : ¬ (a : Int) < 0 := by omega
        have hnn : ¬ n ≤ a := by omega
        cases hg : g a with
        | true =>
          rw [hg] at hbg hbre
          have hc : ¬ (0 ≤ (a : Int) ∧ (a : Int) < n ∧ true = false) := by simp
          refine ⟨[.arr (bR n g)], ?_⟩
          rw [if_neg hc, ← hB, s_loop_at hB]
          generalize bR n g = br at *
          simp [ir_undertowref19_Fitsl1, go_sem, ht.is, ht.len, hu.is, hu.rows, iI_len, c, e3, ei, hneg, hnn, ha, hbl, hbg, hbrl, hbre, asIx_nat, -Int.natCast_add]
        | false =>
          rw [hg] at hbg hbre
          have hc : (0 ≤ (a : Int) ∧ (a : Int) < n ∧ false = false) := ⟨by omega, by omega, rfl⟩
          rw [if_pos hc]
          have h0 := h0 a ha0 ha hb' (bR n (goneA g a))
          rw [List.drop_zero, Int.natCast_zero] at h0
          have hset : (bR n g).set a [.bool true] = bR n (goneA g a) := by
            rw [bR_set]
            apply bR_congr
            intro b hb
            unfold goneA
            by_cases e : b = a <;> simp [e]
          cases hall : (l.take (i + 1)).all fun b => !R a b.toNat with
          | true =>
            rw [hall] at h0
            simp only [if_true] at h0 ⊢
            obtain ⟨H', ih⟩ := ihh (goneA g a) (fun k h hk => hb' k h (by omega))
            refine ⟨H', ?_⟩
            rw [← ih, ← hB]
            conv => lhs; rw [s_loop_at hB]
            rw [← hset] at h0 ⊢
            generalize bR n g = br at *
            simp [ir_undertowref19_Fitsl1, go_sem, ht.is, ht.len, hu.is, hu.rows, iI_len, c, e3, ei, hneg, hnn, ha, hbl, hbg, hbrl, hbre, asIx_nat, h0, -Int.natCast_add]
          | false =>
            rw [hall] at h0
            simp only [Bool.false_eq_true, if_false] at h0 ⊢
            refine ⟨[.arr (bR n (goneA g a))], ?_⟩
            rw [← hB, s_loop_at hB]
            rw [← hset] at h0 ⊢
            generalize bR n g = br at *
            simp [ir_undertowref19_Fitsl1, go_sem, ht.is, ht.len, hu.is, hu.rows, iI_len, c, e3, ei, hneg, hnn, ha, hbl, hbg, hbrl, hbre, asIx_nat, h0, -Int.natCast_add]
      · have hc : ¬ (0 ≤ l[i] ∧ l[i] < n ∧ g l[i].toNat = false) := fun h => c2 h.2.1
        refine ⟨[.arr (bR n g)], ?_⟩
        have hneg : ¬ l[i] < 0 := by omega
        have hnn : (n : Int) ≤ l[i] := by omega
        rw [if_neg hc, ← hB, s_loop_at hB]
        generalize l[i] = y at *
        simp [ir_undertowref19_Fitsl1, go_sem, ht.is, ht.len, hu.is, hu.rows, iI_len, c, e3, ei, hneg, hnn, -Int.natCast_add]
    · have hc : ¬ (0 ≤ l[i] ∧ l[i] < n ∧ g l[i].toNat = false) := fun h => c1 h.1
      refine ⟨[.arr (bR n g)], ?_⟩
      have hneg : l[i] < 0 := by omega
      rw [if_neg hc, ← hB, s_loop_at hB]
      generalize l[i] = y at *
      simp [ir_undertowref19_Fitsl1, go_sem, ht.is, ht.len, hu.is, hu.rows, iI_len, c, e3, ei, hneg, -Int.natCast_add]
  · obtain rfl : i = l.length := by omega
    refine ⟨[.arr (bR n g)], ?_⟩
    rw [← hB, s_loop_at hB, List.drop_length]
    simp [ir_undertowref19_Fitsl1, go_sem, hu.is, hu.rows, iI_len, rfit]
termination_by l.length - i
end
theorem refFits_ok (tv : V) (n : Nat) (hn : n ≤ 512) (R : Nat → Nat → Bool) (ht : TabV tv n R) (u : V) (l : List Int) (hu : Sl u (iI l)) : evI pg .val n_undertowref19_Fits [tv, u] [] = some (.bool (decide (l.length = n) && rfit R n (fun _ => false) [] l), []) := by
  rw [s_fn fn_undertowref19_Fits]
  by_cases c : l.length = n
  · obtain ⟨H', h0⟩ := refFits_l1 tv n hn R ht u l hu c 0 (by omega) (fun _ => false) (fun k h hk => by omega)
    rw [List.drop_zero, List.take_zero, bR_rep, Int.natCast_zero] at h0
    have hk1 : n ≤ maxB := by unfold maxB; omega
    have hk5 : (n : Int) ≤ 9223372036854775807 := by omega
    cases hf : rfit R n (fun _ => false) [] l with
    | true =>
      rw [hf] at h0
      simp [ir_undertowref19_Fits, go_sem, ht.is, ht.len, hu.is, hu.rows, iI_len, c, hk1, hk5, h0]
    | false =>
      rw [hf] at h0
      simp [ir_undertowref19_Fits, go_sem, ht.is, ht.len, hu.is, hu.rows, iI_len, c, hk1, hk5, h0]
  · simp [ir_undertowref19_Fits, go_sem, ht.is, ht.len, hu.is, hu.rows, iI_len, c]
end Go.Proofs.YtkjfedgjjgobaaaDoor
