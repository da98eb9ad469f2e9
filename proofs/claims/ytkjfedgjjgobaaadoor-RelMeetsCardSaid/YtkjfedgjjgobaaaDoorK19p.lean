/- Layer 19: the program's order, continued (no claim; lemmas). -/
import Derived.Test.YtkjfedgjjgobaaaDoorK19o
set_option linter.unusedSimpArgs false
set_option linter.unusedVariables false
namespace Go.Proofs.YtkjfedgjjgobaaaDoor
open Go Go.Vm

theorem Order_l1 (t : Bool) (rv u : V) (n : Nat) (hn : n ≤ 512) (q : List Nat) (hq : ∀ b ∈ q, b < n) (hql : q.length ≤ 512) (hu : Sl u (iI (q.map fun b : Nat => (b : Int)))) (out : V) (ho : ∃ es, out = .osl false 0 es) (gr : List (List V)) (vs : List V) (t0 : Nat) (j : Nat) (hj : j ≤ q.length) (g : Nat → Int) (hg : ∀ b, -(j : Int) ≤ g b ∧ g b ≤ 1000) :
    evCI pg (.loop ir_rel_Rel_Orderl1) ⟨[.ip t [rv] 0, .undef, .undef, .rsl 0 0 n, .undef, .rsl 1 0 n, out, .undef, .undef, .undef, .undef, .undef, .undef, .undef, .undef, .undef, .undef, .undef, u, .int .i64 (q.length : Int), .int .i64 (j : Int), .undef], ⟨[vs], [t0], [.arr (nR n g), .arr gr]⟩⟩ =
      some (.exit 6, ⟨[.ip t [rv] 0, .undef, .undef, .rsl 0 0 n, .undef, .rsl 1 0 n, out, .undef, .undef, .undef, .undef, .undef, .undef, .undef, .undef, .undef, .undef, .undef, u, .int .i64 (q.length : Int), .int .i64 (q.length : Int), .bool false], ⟨[vs], [t0], [.arr (nR n fun b => g b - ((q.drop j).countP (fun x => decide (x = b)) : Nat)), .arr gr]⟩⟩) := by
  obtain ⟨B, hB⟩ : ∃ B, B = Vm.C.loop ir_rel_Rel_Orderl1 := ⟨_, rfl⟩
  obtain ⟨es, rfl⟩ := ho
  by_cases c : j < q.length
  · have e3 := succ_i64 c (by omega)
    have hlm : (q.map fun b : Nat => (b : Int)).length = q.length := List.length_map ..
    have e1 := fun m => hu.ia (sz := 1) m .i64 (i := j) (by rw [iI_len, hlm]; exact c) (by simp [iI])
    simp only [iI_el, List.getElem_map] at e1
    have hb := hq q[j] (List.getElem_mem _)
    have hdr := List.drop_eq_getElem_cons c
    generalize q[j] = y at *
    have hgy := hg y
    have ih := Order_l1 t rv u n hn q hq hql hu (.osl false 0 es) ⟨es, rfl⟩ gr vs t0 (j + 1) (by omega) (fun b => if b = y then g y - 1 else g b) (fun b => by
      have := hg b
      split <;> omega)
    have hfe : nR n (fun b => g b - ((q.drop j).countP (fun x => decide (x = b)) : Nat)) = nR n (fun b => (if b = y then g y - 1 else g b) - ((q.drop (j + 1)).countP (fun x => decide (x = b)) : Nat)) := by
      apply nR_congr
      intro b hb
      rw [hdr, List.countP_cons]
      by_cases e : b = y
      · subst e
        simp
        omega
      · have h1 : ¬ y = b := fun h => e h.symm
        simp [e, h1]
    rw [hfe, ← ih, ← hB]
    conv => lhs; rw [s_loop_at hB]
    have e4 : IntKind.i64.wrap (g y - 1) = g y - 1 := wrap_i64 (by omega) (by omega)
    have hgl := nR_len n g
    have hgg := nR_get g hb
    rw [← nR_set n g y (g y - 1)]
    generalize nR n g = ar at *
    have hal : y < ar.length := by omega
    have hae : ar[y] = [.int .i64 (g y)] := by
      rw [List.getElem?_eq_getElem hal] at hgg; exact Option.some.inj hgg
    simp [ir_rel_Rel_Orderl1, go_sem, hu.is, c, e1, e3, e4, hgl, hgg, hal, hae, hb, asIx_nat, -Int.natCast_add]
  · obtain rfl : j = q.length := by omega
    rw [← hB, s_loop_at hB, List.drop_length]
    simp [ir_rel_Rel_Orderl1, go_sem, hu.is]
termination_by q.length - j
section
variable (t : Bool) (rv : V) (n : Nat) (W : Nat → Nat) (hr : RelV rv n W) (vs : List V)
include hr
/-- One more. -/
def goneA (gone : Nat → Bool) (a : Nat) : Nat → Bool := fun x => gone x || decide (x = a)
theorem Order_l2 (gone : Nat → Bool) (out : List Int) (ho : out.length ≤ 512) (i : Nat) (hi : i ≤ n) :
    ((List.range' i (n - i)).find? (may (bitW W) n gone) = none → evCI pg (.loop ir_rel_Rel_Orderl2) ⟨[.ip t [rv] 0, .undef, .undef, .rsl 0 0 n, .undef, .rsl 1 0 n, .osl false 0 (iI out), .undef, .undef, .undef, .undef, .undef, .undef, .undef, .int .i64 (n : Int), .int .i64 (i : Int), .undef, .undef, .undef, .undef, .undef, .undef], ⟨[vs], [out.length], [.arr (nR n fun b => (cntG (bitW W) n gone b : Int)), .arr (bR n gone)]⟩⟩ =
      some (.exit 4, ⟨[.ip t [rv] 0, .undef, .undef, .rsl 0 0 n, .undef, .rsl 1 0 n, .osl false 0 (iI out), .undef, .undef, .undef, .undef, .undef, .undef, .undef, .int .i64 (n : Int), .int .i64 (n : Int), .bool false, .undef, .undef, .undef, .undef, .undef], ⟨[vs], [out.length], [.arr (nR n fun b => (cntG (bitW W) n gone b : Int)), .arr (bR n gone)]⟩⟩)) ∧
    (∀ a, (List.range' i (n - i)).find? (may (bitW W) n gone) = some a → ∃ u x y z, evCI pg (.loop ir_rel_Rel_Orderl2) ⟨[.ip t [rv] 0, .undef, .undef, .rsl 0 0 n, .undef, .rsl 1 0 n, .osl false 0 (iI out), .undef, .undef, .undef, .undef, .undef, .undef, .undef, .int .i64 (n : Int), .int .i64 (i : Int), .undef, .undef, .undef, .undef, .undef, .undef], ⟨[vs], [out.length], [.arr (nR n fun b => (cntG (bitW W) n gone b : Int)), .arr (bR n gone)]⟩⟩ =
      some (.exit 3, ⟨[.ip t [rv] 0, .undef, .undef, .rsl 0 0 n, .undef, .rsl 1 0 n, .osl false 0 (iI (out ++ [(a : Int)])), .undef, .undef, .undef, .undef, .undef, .undef, .undef, .undef, .undef, .undef, .undef, u, x, y, z], ⟨[vs], [(out ++ [(a : Int)]).length], [.arr (nR n fun b => (cntG (bitW W) n (goneA gone a) b : Int)), .arr (bR n (goneA gone a))]⟩⟩)) := by
  obtain ⟨B, hB⟩ : ∃ B, B = Vm.C.loop ir_rel_Rel_Orderl2 := ⟨_, rfl⟩
  have hle := hr.le
  by_cases c : i < n
  · have e3 := succ_i64 c (by omega)
    have hrg : List.range' i (n - i) = i :: List.range' (i + 1) (n - (i + 1)) := by rw [show n - i = (n - (i + 1)) + 1 by omega, List.range'_succ]
    rw [hrg, List.find?_cons]
    have hgl := nR_len n fun b => (cntG (bitW W) n gone b : Int)
    have hgg := nR_get (fun b => (cntG (bitW W) n gone b : Int)) c
    have hbl := bR_len n gone
    have hbg := bR_get (n := n) gone c
    have hmc := may_cnt (bitW W) n gone i
    have hal : i < (nR n fun b => (cntG (bitW W) n gone b : Int)).length := by omega
    have hae := nR_el n (fun b => (cntG (bitW W) n gone b : Int)) i hal
    have hbrl : i < (bR n gone).length := by omega
    have hbre := bR_el n gone i hbrl
    obtain ⟨ih1, ih2⟩ := Order_l2 gone out ho (i + 1) (by omega)
    rw [← hB] at ih1 ih2 ⊢
    have hpos : ((0 : Int) < (cntG (bitW W) n gone i : Int)) ↔ ¬ ((cntG (bitW W) n gone i : Int) ≤ 0) := by omega
    cases hm : may (bitW W) n gone i with
    | false =>
      simp only
      have step : ∀ x, evCI pg B ⟨[.ip t [rv] 0, .undef, .undef, .rsl 0 0 n, .undef, .rsl 1 0 n, .osl false 0 (iI out), .undef, .undef, .undef, .undef, .undef, .undef, .undef, .int .i64 (n : Int), .int .i64 ((i + 1 : Nat) : Int), .undef, .undef, .undef, .undef, .undef, .undef], ⟨[vs], [out.length], [.arr (nR n fun b => (cntG (bitW W) n gone b : Int)), .arr (bR n gone)]⟩⟩ = x →
          evCI pg B ⟨[.ip t [rv] 0, .undef, .undef, .rsl 0 0 n, .undef, .rsl 1 0 n, .osl false 0 (iI out), .undef, .undef, .undef, .undef, .undef, .undef, .undef, .int .i64 (n : Int), .int .i64 (i : Int), .undef, .undef, .undef, .undef, .undef, .undef], ⟨[vs], [out.length], [.arr (nR n fun b => (cntG (bitW W) n gone b : Int)), .arr (bR n gone)]⟩⟩ = x := by
        intro x hx
        rw [← hx]
        conv => lhs; rw [s_loop_at hB]
        rw [hm] at hmc
        generalize nR n (fun b => (cntG (bitW W) n gone b : Int)) = ar at *
        generalize hgi : gone i = gi at *
        generalize bR n gone = br at *
        generalize (cntG (bitW W) n gone i : Int) = ci at *
        cases gi with
        | true =>
          simp [ir_rel_Rel_Orderl2, go_sem, c, e3, hgl, hgg, hbl, hbg, hal, hae, hbrl, hbre, asIx_nat, -Int.natCast_add]
        | false =>
          have hci : (0 : Int) < ci := by
            rw [hpos]
            simpa using hmc
          simp [ir_rel_Rel_Orderl2, go_sem, c, e3, hgl, hgg, hbl, hbg, hal, hae, hbrl, hbre, hci, asIx_nat, -Int.natCast_add]
      refine ⟨fun h => step _ (ih1 h), fun a h => ?_⟩
      obtain ⟨u, x, y, z, h1⟩ := ih2 a h
      exact ⟨u, x, y, z, step _ h1⟩
    | true =>
      refine ⟨fun h => by simp at h, fun a h => ?_⟩
      simp only [Option.some.injEq] at h
      subst h
      rw [hm] at hmc
      have hgi : gone i = false := by
        cases hq : gone i with
        | false => rfl
        | true => rw [hq] at hmc; simp at hmc
      have hci : ¬ (0 : Int) < (cntG (bitW W) n gone i : Int) := by
        rw [hpos, Classical.not_not]
        rw [hgi] at hmc
        simpa using hmc
      obtain ⟨x, hx, ex⟩ := hr.row c
      have hea := each_ok x n (W i) hx hle (hr.lt i c)
      have hlq : (rt n (W i)).length = (sb n (W i).testBit).length := by simp [rt]
      have hsl := Sl.ils (iI (rt n (W i)))
      have h1 := Order_l1 t rv (ils (iI (rt n (W i)))) n hle (sb n (W i).testBit) (fun b hb => List.mem_range.1 (List.mem_filter.1 hb).1) (by have := sb_len n (W i).testBit; omega) hsl (.osl false 0 (iI (out ++ [(i : Int)]))) ⟨_, rfl⟩ (bR n (goneA gone i)) vs (out.length + 1) 0 (by omega) (fun b => (cntG (bitW W) n gone b : Int)) (fun b => by have := cnt_le (bitW W) n gone b; omega)
      have hfin : nR n (fun b => (cntG (bitW W) n gone b : Int) - (((sb n (W i).testBit).drop 0).countP (fun x => decide (x = b)) : Nat)) = nR n (fun b => (cntG (bitW W) n (goneA gone i) b : Int)) := by
        apply nR_congr
        intro b hb
        rw [List.drop_zero, sb_count, cnt_pick (bitW W) n gone i b c hgi]
        have : (b < n ∧ (W i).testBit b = true) ↔ (bitW W i b = true) := ⟨fun h => h.2, fun h => ⟨hb, h⟩⟩
        simp only [this]
        unfold goneA
        split <;> omega
      rw [hfin, Int.natCast_zero] at h1
      have hset : (bR n gone).set i [.bool true] = bR n (goneA gone i) := by
        rw [bR_set]
        apply bR_congr
        intro b hb
        unfold goneA
        by_cases e : b = i <;> simp [e]
      have ea := app_oneI (m := ⟨[vs], [out.length], [.arr (nR n fun b => (cntG (bitW W) n gone b : Int)), .arr (bR n (goneA gone i))]⟩) (l := out) (x := (i : Int)) rfl (by omega)
      simp only [List.set_cons_zero] at ea
      refine ⟨ils (iI (rt n (W i))), .int .i64 ((sb n (W i).testBit).length : Int), .int .i64 ((sb n (W i).testBit).length : Int), .bool false, ?_⟩
      rw [s_loop_at hB, List.length_append, List.length_singleton]
      rw [← hset] at ea h1 ⊢
      generalize nR n (fun b => (cntG (bitW W) n gone b : Int)) = ar at *
      generalize nR n (fun b => (cntG (bitW W) n (goneA gone i) b : Int)) = ar2 at *
      generalize bR n gone = br at *
      generalize (cntG (bitW W) n gone i : Int) = ci at *
      rw [hgi] at hbg hbre
      simp [ir_rel_Rel_Orderl2, go_sem, c, e3, hgl, hgg, hbl, hbg, hal, hae, hbrl, hbre, hci, asIx_nat, litParts, ea, hr.is, ex, hx.is, hea, hsl.is, hsl.rows, iI_len, hlq, h1, -Int.natCast_add]
  · obtain rfl : i = n := by omega
    rw [Nat.sub_self, List.range'_zero]
    refine ⟨fun _ => ?_, fun a h => by simp at h⟩
    rw [← hB, s_loop_at hB]
    simp [ir_rel_Rel_Orderl2, go_sem]
termination_by n - i
end
end Go.Proofs.YtkjfedgjjgobaaaDoor
