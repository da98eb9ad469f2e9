/- Layer 19: the document's order (no claim; lemmas). -/
import Derived.Test.YtkjfedgjjgobaaaDoorK19q
set_option linter.unusedSimpArgs false
set_option linter.unusedVariables false
namespace Go.Proofs.YtkjfedgjjgobaaaDoor
open Go Go.Vm

section
variable (tv : V) (n : Nat) (hn : n ≤ 512) (R : Nat → Nat → Bool) (ht : TabV tv n R)
include hn ht
theorem refOrder_l0 (gone : Nat → Bool) (es : List (List V)) (t0 : Nat) (best : Int) (a : Nat) (ha : a < n) (b : Nat) (hb : b ≤ n) (m : Bool) :
    evCI pg (.loop ir_undertowref19_Orderl0) ⟨[tv, .undef, .undef, .osl false 0 es, .rsl 0 0 n, .int .i64 best, .int .i64 (a : Int), .bool m, .int .i64 (b : Int), .undef, .undef, .undef, .undef, .undef], ⟨[], [t0], [.arr (bR n gone)]⟩⟩ =
      some (.exit 4, ⟨[tv, .undef, .undef, .osl false 0 es, .rsl 0 0 n, .int .i64 best, .int .i64 (a : Int), .bool (m && (List.range' b (n - b)).all fun x => gone x || !R x a), .int .i64 (n : Int), .undef, .undef, .bool false, .undef, .undef], ⟨[], [t0], [.arr (bR n gone)]⟩⟩) := by
  obtain ⟨B, hB⟩ : ∃ B, B = Vm.C.loop ir_undertowref19_Orderl0 := ⟨_, rfl⟩
  by_cases c : b < n
  · have e3 := succ_i64 c (by omega)
    have hrg : List.range' b (n - b) = b :: List.range' (b + 1) (n - (b + 1)) := by rw [show n - b = (n - (b + 1)) + 1 by omega, List.range'_succ]
    obtain ⟨x, hx, ex⟩ := ht.row c
    have e1 := TabV.el hx ha
    have hbl := bR_len n gone
    have hbg := bR_get (n := n) gone c
    have hbrl : b < (bR n gone).length := by omega
    have hbre := bR_el n gone b hbrl
    have ih := refOrder_l0 gone es t0 best a ha (b + 1) (by omega) (m && (gone b || !R b a))
    have hall : (m && (List.range' b (n - b)).all fun x => gone x || !R x a) = ((m && (gone b || !R b a)) && (List.range' (b + 1) (n - (b + 1))).all fun x => gone x || !R x a) := by
      rw [hrg, List.all_cons, Bool.and_assoc]
    rw [hall, ← ih, ← hB]
    conv => lhs; rw [s_loop_at hB]
    generalize bR n gone = br at *
    generalize gone b = gb at *
    generalize R b a = rb at *
    cases m with
    | false => simp [ir_undertowref19_Orderl0, go_sem, ht.is, ht.len, c, e3, -Int.natCast_add]
    | true =>
      cases gb with
      | true => simp [ir_undertowref19_Orderl0, go_sem, ht.is, ht.len, c, e3, hbl, hbg, hbrl, hbre, asIx_nat, -Int.natCast_add]
      | false =>
        cases rb with
        | true => simp [ir_undertowref19_Orderl0, go_sem, ht.is, ht.len, hx.is, ex, e1, c, e3, hbl, hbg, hbrl, hbre, asIx_nat, -Int.natCast_add]
        | false => simp [ir_undertowref19_Orderl0, go_sem, ht.is, ht.len, hx.is, ex, e1, c, e3, hbl, hbg, hbrl, hbre, asIx_nat, -Int.natCast_add]
  · obtain rfl : b = n := by omega
    rw [← hB, s_loop_at hB, Nat.sub_self, List.range'_zero]
    simp [ir_undertowref19_Orderl0, go_sem, ht.is, ht.len]
termination_by n - b
/-- The best one, or none. -/
def bst : Option Nat → Int
  | some a => (a : Int)
  | none => -1
theorem refOrder_l1 (gone : Nat → Bool) (es : List (List V)) (t0 : Nat) (i : Nat) (hi : i ≤ n) :
    ∃ a', evCI pg (.loop ir_undertowref19_Orderl1) ⟨[tv, .undef, .undef, .osl false 0 es, .rsl 0 0 n, .int .i64 (-1), .int .i64 (i : Int), .undef, .undef, .undef, .undef, .undef, .undef, .undef], ⟨[], [t0], [.arr (bR n gone)]⟩⟩ =
      some (.exit 2, ⟨[tv, .undef, .undef, .osl false 0 es, .rsl 0 0 n, .int .i64 (bst ((List.range' i (n - i)).find? (may R n gone))), .int .i64 a', .undef, .undef, .undef, .bool false, .undef, .undef, .undef], ⟨[], [t0], [.arr (bR n gone)]⟩⟩) := by
  obtain ⟨B, hB⟩ : ∃ B, B = Vm.C.loop ir_undertowref19_Orderl1 := ⟨_, rfl⟩
  by_cases c : i < n
  · have e3 := succ_i64 c (by omega)
    have hrg : List.range' i (n - i) = i :: List.range' (i + 1) (n - (i + 1)) := by rw [show n - i = (n - (i + 1)) + 1 by omega, List.range'_succ]
    rw [hrg, List.find?_cons]
    have hbl := bR_len n gone
    have hbg := bR_get (n := n) gone c
    have hbrl : i < (bR n gone).length := by omega
    have hbre := bR_el n gone i hbrl
    have h0 := refOrder_l0 tv n hn R ht gone es t0 (-1) i c 0 (by omega) (!gone i)
    have hmay : (!gone i && (List.range' 0 (n - 0)).all fun x => gone x || !R x i) = may R n gone i := by
      unfold may
      rw [Nat.sub_zero, ← List.range_eq_range']
    rw [hmay, Int.natCast_zero] at h0
    cases hm : may R n gone i with
    | false =>
      rw [hm] at h0
      obtain ⟨a', ih⟩ := refOrder_l1 gone es t0 (i + 1) (by omega)
      refine ⟨a', ?_⟩
      simp only
      rw [← ih, ← hB]
      conv => lhs; rw [s_loop_at hB]
      generalize bR n gone = br at *
      generalize gone i = gi at *
      simp [ir_undertowref19_Orderl1, go_sem, ht.is, ht.len, c, e3, hbl, hbg, hbrl, hbre, asIx_nat, h0, -Int.natCast_add]
    | true =>
      rw [hm] at h0
      refine ⟨((i + 1 : Nat) : Int), ?_⟩
      simp only [bst]
      have hge : ¬ (i : Int) < 0 := by omega
      have hend : evCI pg B ⟨[tv, .undef, .undef, .osl false 0 es, .rsl 0 0 n, .int .i64 (i : Int), .int .i64 ((i + 1 : Nat) : Int), .undef, .undef, .undef, .undef, .undef, .undef, .undef], ⟨[], [t0], [.arr (bR n gone)]⟩⟩ =
          some (.exit 2, ⟨[tv, .undef, .undef, .osl false 0 es, .rsl 0 0 n, .int .i64 (i : Int), .int .i64 ((i + 1 : Nat) : Int), .undef, .undef, .undef, .bool false, .undef, .undef, .undef], ⟨[], [t0], [.arr (bR n gone)]⟩⟩) := by
        rw [s_loop_at hB]
        by_cases c2 : i + 1 < n
        · simp [ir_undertowref19_Orderl1, go_sem, ht.is, ht.len, c2, hge, -Int.natCast_add]
        · simp [ir_undertowref19_Orderl1, go_sem, ht.is, ht.len, c2, hge, -Int.natCast_add]
      rw [← hB]
      conv => lhs; rw [s_loop_at hB]
      generalize bR n gone = br at *
      generalize gone i = gi at *
      simp [ir_undertowref19_Orderl1, go_sem, ht.is, ht.len, c, e3, hbl, hbg, hbrl, hbre, asIx_nat, h0, hend, -Int.natCast_add]
  · obtain rfl : i = n := by omega
    refine ⟨(i : Int), ?_⟩
    rw [← hB, s_loop_at hB, Nat.sub_self, List.range'_zero]
    simp [ir_undertowref19_Orderl1, go_sem, ht.is, ht.len, bst]
termination_by n - i
theorem refOrder_l2 (k : Nat) (gone : Nat → Bool) (out : List Int) (hk : out.length + k = n) :
    ∃ H', evCI pg (.loop ir_undertowref19_Orderl2) ⟨[tv, .undef, .undef, .osl false 0 (iI out), .rsl 0 0 n, .undef, .undef, .undef, .undef, .undef, .undef, .undef, .undef, .undef], ⟨[], [out.length], [.arr (bR n gone)]⟩⟩ =
      some (match kah R n k gone out with
        | some o => (.exit 0, ⟨[tv, .undef, .undef, .osl false 0 (iI o), .rsl 0 0 n, .undef, .undef, .undef, .undef, .bool false, .undef, .undef, .undef, .undef], ⟨[], [o.length], H'⟩⟩)
        | none => (.ret, ⟨[.undef, .nils, .bool false, .undef, .undef, .undef, .undef, .undef, .undef, .undef, .undef, .undef, .undef, .undef], ⟨[], [0], H'⟩⟩)) := by
  obtain ⟨B, hB⟩ : ∃ B, B = Vm.C.loop ir_undertowref19_Orderl2 := ⟨_, rfl⟩
  cases k with
  | zero =>
    have hn : out.length = n := by omega
    refine ⟨[.arr (bR n gone)], ?_⟩
    rw [← hB, s_loop_at hB]
    simp [ir_undertowref19_Orderl2, go_sem, iI_len, ht.is, ht.len, hn, kah]
  | succ k =>
    have hlt : out.length < n := by omega
    obtain ⟨a', h1⟩ := refOrder_l1 tv n hn R ht gone (iI out) out.length 0 (by omega)
    rw [Nat.sub_zero, ← List.range_eq_range', Int.natCast_zero] at h1
    unfold kah
    cases hf : (List.range n).find? (may R n gone) with
    | none =>
      refine ⟨[.arr (bR n gone)], ?_⟩
      rw [hf] at h1
      simp only [bst] at h1
      rw [← hB, s_loop_at hB]
      generalize bR n gone = br at *
      simp [ir_undertowref19_Orderl2, go_sem, iI_len, ht.is, ht.len, hlt, h1]
    | some a =>
      rw [hf] at h1
      simp only [bst] at h1
      have ha : a < n := List.mem_range.1 (List.mem_of_find?_eq_some hf)
      obtain ⟨H', ih⟩ := refOrder_l2 k (goneA gone a) (out ++ [(a : Int)]) (by simp; omega)
      refine ⟨H', ?_⟩
      have hga : (fun x => gone x || decide (x = a)) = goneA gone a := rfl
      simp only [hga]
      rw [← ih, ← hB]
      conv => lhs; rw [s_loop_at hB]
      have hset : (bR n gone).set a [.bool true] = bR n (goneA gone a) := by
        rw [bR_set]
        apply bR_congr
        intro b hb
        unfold goneA
        by_cases e : b = a <;> simp [e]
      have hbl := bR_len n gone
      have hbg := bR_get (n := n) gone ha
      have hbrl : a < (bR n gone).length := by omega
      have hbre := bR_el n gone a hbrl
      have ea := app_oneI (m := ⟨[], [out.length], [.arr (bR n (goneA gone a))]⟩) (l := out) (x := (a : Int)) rfl (by omega)
      simp only [List.set_cons_zero] at ea
      have hge : ¬ (a : Int) < 0 := by omega
      rw [List.length_append, List.length_singleton]
      rw [← hset] at ea ⊢
      generalize bR n gone = br at *
      generalize iI (out ++ [(a : Int)]) = oa at *
      simp [ir_undertowref19_Orderl2, go_sem, iI_len, ht.is, ht.len, hlt, h1, hge, hbl, hbg, hbrl, hbre, ha, asIx_nat, litParts, ea]
theorem refOrder_ok : evI pg .val n_undertowref19_Order [tv] [] = some (ordV (kah R n n (fun _ => false) []), []) := by
  obtain ⟨H', h3⟩ := refOrder_l2 tv n hn R ht n (fun _ => false) [] (by simp)
  have ei : iI [] = [] := rfl
  rw [ei, List.length_nil, bR_rep] at h3
  have hk1 : n ≤ maxB := by unfold maxB; omega
  have hk5 : (n : Int) ≤ 9223372036854775807 := by omega
  rw [s_fn fn_undertowref19_Order]
  cases hkk : kah R n n (fun _ => false) [] with
  | none =>
    rw [hkk] at h3
    simp [ir_undertowref19_Order, go_sem, ht.is, ht.len, hk1, hk5, h3, ordV]
  | some o =>
    rw [hkk] at h3
    simp [ir_undertowref19_Order, go_sem, ht.is, ht.len, hk1, hk5, h3, ordV]
end
end Go.Proofs.YtkjfedgjjgobaaaDoor
