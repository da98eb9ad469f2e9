/- Layer 19: the program's order, whole (no claim; lemmas). -/
import Derived.Test.YtkjfedgjjgobaaaDoorK19p
set_option linter.unusedSimpArgs false
set_option linter.unusedVariables false
namespace Go.Proofs.YtkjfedgjjgobaaaDoor
open Go Go.Vm

section
variable (t : Bool) (rv : V) (n : Nat) (W : Nat → Nat) (hr : RelV rv n W) (vs : List V)
include hr
theorem Order_l3 (k : Nat) (gone : Nat → Bool) (out : List Int) (hk : out.length + k = n) (a18 a19 a20 a21 : V) :
    ∃ H', evCI pg (.loop ir_rel_Rel_Orderl3) ⟨[.ip t [rv] 0, .undef, .undef, .rsl 0 0 n, .undef, .rsl 1 0 n, .osl false 0 (iI out), .undef, .undef, .undef, .undef, .undef, .undef, .undef, .undef, .undef, .undef, .undef, a18, a19, a20, a21], ⟨[vs], [out.length], [.arr (nR n fun b => (cntG (bitW W) n gone b : Int)), .arr (bR n gone)]⟩⟩ =
      some (match kah (bitW W) n k gone out with
        | some o => (.exit 2, ⟨[.ip t [rv] 0, .undef, .undef, .rsl 0 0 n, .undef, .rsl 1 0 n, .osl false 0 (iI o), .undef, .undef, .undef, .undef, .undef, .undef, .bool false, .undef, .undef, .undef, .undef, .undef, .undef, .undef, .undef], ⟨[vs], [o.length], H'⟩⟩)
        | none => (.ret, ⟨[.undef, .nils, .bool false, .undef, .undef, .undef, .undef, .undef, .undef, .undef, .undef, .undef, .undef, .undef, .undef, .undef, .undef, .undef, .undef, .undef, .undef, .undef], ⟨[vs], [0], H'⟩⟩)) := by
  obtain ⟨B, hB⟩ : ∃ B, B = Vm.C.loop ir_rel_Rel_Orderl3 := ⟨_, rfl⟩
  have hL := Len_ok (t := t) hr
  have hle := hr.le
  cases k with
  | zero =>
    have hn : out.length = n := by omega
    refine ⟨[.arr (nR n fun b => (cntG (bitW W) n gone b : Int)), .arr (bR n gone)], ?_⟩
    rw [← hB, s_loop_at hB]
    simp [ir_rel_Rel_Orderl3, go_sem, iI_len, hL, hn, kah]
  | succ k =>
    have hlt : out.length < n := by omega
    obtain ⟨h1, h2⟩ := Order_l2 t rv n W hr vs gone out (by omega) 0 (by omega)
    rw [Nat.sub_zero, ← List.range_eq_range', Int.natCast_zero] at h1 h2
    unfold kah
    cases hf : (List.range n).find? (may (bitW W) n gone) with
    | none =>
      refine ⟨[.arr (nR n fun b => (cntG (bitW W) n gone b : Int)), .arr (bR n gone)], ?_⟩
      have h1 := h1 hf
      rw [← hB, s_loop_at hB]
      generalize nR n (fun b => (cntG (bitW W) n gone b : Int)) = ar at *
      generalize bR n gone = br at *
      simp [ir_rel_Rel_Orderl3, go_sem, iI_len, hL, hlt, h1]
    | some a =>
      obtain ⟨u, x, y, z, h2⟩ := h2 a hf
      obtain ⟨H', ih⟩ := Order_l3 k (goneA gone a) (out ++ [(a : Int)]) (by simp; omega) u x y z
      refine ⟨H', ?_⟩
      have hga : (fun x => gone x || decide (x = a)) = goneA gone a := rfl
      simp only [hga]
      rw [← ih, ← hB]
      conv => lhs; rw [s_loop_at hB]
      generalize nR n (fun b => (cntG (bitW W) n gone b : Int)) = ar at *
      generalize nR n (fun b => (cntG (bitW W) n (goneA gone a) b : Int)) = ar2 at *
      generalize bR n gone = br at *
      generalize bR n (goneA gone a) = br2 at *
      generalize hoa : out ++ [(a : Int)] = oa at *
      simp [ir_rel_Rel_Orderl3, go_sem, iI_len, hL, hlt, h2]
/-- An order, and whether there is one. -/
def ordV : Option (List Int) → V
  | some o => .tup [ils (iI o), .bool true]
  | none => .tup [.nils, .bool false]
omit vs in
theorem Order_ok : evI pg .val n_rel_Rel_Order [.ip t [rv] 0] [] = some (ordV (kah (bitW W) n n (fun _ => false) []), []) := by
  have hL := Len_ok (t := t) hr
  have hP := Pairs_ok (t := t) hr
  have hle := hr.le
  have hlen : (prs n W 0).length ≤ 300000 := by
    have key : ∀ d i, i + d = n → (prs n W i).length ≤ 512 * d := by
      intro d
      induction d with
      | zero => intro i hi; obtain rfl : i = n := by omega
                rw [prs_end]; simp
      | succ d ih =>
        intro i hi
        have := ih (i + 1) (by omega)
        have h2 := rt_len n (W i)
        rw [prs_step W (by omega), List.length_append, List.length_map]
        omega
    have := key n 0 (by omega)
    omega
  have hbnd : ∀ q ∈ prs n W 0, 0 ≤ q.2 ∧ q.2 < n := by
    intro q hq
    unfold prs at hq
    obtain ⟨a, _, hq⟩ := List.mem_flatMap.1 hq
    obtain ⟨b, hb, rfl⟩ := List.mem_map.1 hq
    obtain ⟨j, hj, rfl⟩ := List.mem_map.1 hb
    have := List.mem_range.1 (List.mem_filter.1 hj).1
    simp only
    omega
  have hsl := Sl.ils (pR (prs n W 0))
  obtain ⟨vs', h0⟩ := Order_l0 t rv (ils (pR (prs n W 0))) n hle (prs n W 0) hlen hsl hbnd [] 0 0 (by omega) (fun _ => 0) (fun b => by omega)
  have e0 : nR n (fun b => (0 : Int) + (((prs n W 0).drop 0).countP (fun q => decide (q.2 = (b : Int))) : Nat)) = nR n (fun b => (cntG (bitW W) n (fun _ => false) b : Int)) := by
    apply nR_congr
    intro b hb
    rw [List.drop_zero, prs_count n W b hb, Int.zero_add]
  rw [e0, nR_rep, Int.natCast_zero] at h0
  obtain ⟨H', h3⟩ := Order_l3 t rv n W hr vs' n (fun _ => false) [] (by simp) .undef .undef .undef .undef
  have ei : iI [] = [] := rfl
  rw [ei, List.length_nil, bR_rep] at h3
  have hk4 : n * 8 ≤ maxB := by unfold maxB; omega
  have hk1 : n ≤ maxB := by unfold maxB; omega
  have hk5 : (n : Int) ≤ 9223372036854775807 := by omega
  rw [s_fn fn_rel_Rel_Order]
  generalize nR n (fun b => (cntG (bitW W) n (fun _ => false) b : Int)) = ar at *
  cases hkk : kah (bitW W) n n (fun _ => false) [] with
  | none =>
    rw [hkk] at h3
    simp [ir_rel_Rel_Order, go_sem, hL, hP, hk4, hk1, hk5, hsl.is, hsl.rows, pR_len, h0, h3, ordV]
  | some o =>
    rw [hkk] at h3
    simp [ir_rel_Rel_Order, go_sem, hL, hP, hk4, hk1, hk5, hsl.is, hsl.rows, pR_len, h0, h3, ordV]
end
end Go.Proofs.YtkjfedgjjgobaaaDoor
