/- Layer 19: does a list fit, the program's side (no claim; lemmas). -/
import Derived.Test.YtkjfedgjjgobaaaDoorK19r
set_option linter.unusedSimpArgs false
set_option linter.unusedVariables false
namespace Go.Proofs.YtkjfedgjjgobaaaDoor
open Go Go.Vm

/-- Where each thing stands, if all are things and none comes twice. -/
def fitA (n : Nat) : (Nat → Int) → Nat → List Int → Option (Nat → Int)
  | h, _, [] => some h
  | h, i, a :: l => if 0 ≤ a ∧ a < n ∧ h a.toNat ≤ 0 then fitA n (fun b => if b = a.toNat then (i : Int) + 1 else h b) (i + 1) l else none
section
variable (t : Bool) (rv : V) (n : Nat) (W : Nat → Nat) (hr : RelV rv n W)
include hr
theorem Fits_l0 (u : V) (l : List Int) (hu : Sl u (iI l)) (hl : l.length ≤ 512) (vs : List V) (j : Nat) (hj : j ≤ l.length) (h : Nat → Int) :
    ∃ H', evCI pg (.loop ir_rel_Rel_Fitsl0) ⟨[.ip t [rv] 0, .undef, .undef, .rsl 0 0 n, .undef, .undef, .undef, .undef, u, .int .i64 (l.length : Int), .int .i64 (j : Int), .undef, .undef, .undef, .undef, .undef, .undef, .undef], ⟨[vs], [], [.arr (nR n h)]⟩⟩ =
      some (match fitA n h j (l.drop j) with
      | some h' => (.exit 0, ⟨[.ip t [rv] 0, .undef, .undef, .rsl 0 0 n, .undef, .undef, .undef, .undef, u, .int .i64 (l.length : Int), .int .i64 (l.length : Int), .bool false, .undef, .undef, .undef, .undef, .undef, .undef], ⟨[vs], [], [.arr (nR n h')]⟩⟩)
      | none => (.ret, ⟨[.undef, .undef, .bool false, .undef, .undef, .undef, .undef, .undef, .undef, .undef, .undef, .undef, .undef, .undef, .undef, .undef, .undef, .undef], ⟨[vs], [], H'⟩⟩)) := by
  obtain ⟨B, hB⟩ : ∃ B, B = Vm.C.loop ir_rel_Rel_Fitsl0 := ⟨_, rfl⟩
  have hle := hr.le
  by_cases c : j < l.length
  · have e3 := succ_i64 c (by omega)
    have e1 := fun m => hu.ia (sz := 1) m .i64 (i := j) (by rw [iI_len]; exact c) (by simp [iI])
    simp only [iI_el] at e1
    rw [List.drop_eq_getElem_cons c]
    generalize l[j] = a at *
    have hi := is_ok (t := t) hr a
    unfold fitA
    by_cases h1 : 0 ≤ a ∧ a < n
    · simp only [h1, and_self, decide_true] at hi
      obtain ⟨a, rfl⟩ : ∃ k : Nat, a = k := ⟨a.toNat, by omega⟩
      have ha : a < n := by omega
      have hgl := nR_len n h
      have hgg := nR_get h ha
      have hal : a < (nR n h).length := by omega
      have hae := nR_el n h a hal
      by_cases h2 : h a ≤ 0
      · have hc : (0 ≤ (a : Int) ∧ (a : Int) < n ∧ h (a : Int).toNat ≤ 0) := ⟨h1.1, h1.2, h2⟩
        obtain ⟨H', ih⟩ := Fits_l0 u l hu hl vs (j + 1) (by omega) (fun b => if b = (a : Int).toNat then (j : Int) + 1 else h b)
        refine ⟨H', ?_⟩
        rw [if_pos hc, ← ih, ← hB]
        conv => lhs; rw [s_loop_at hB]
        have h3 : ¬ 0 < h a := by omega
        have hjj : (j : Int) + 1 = ((j + 1 : Nat) : Int) := by omega
        rw [Int.toNat_natCast, hjj, ← nR_set n h a ((j + 1 : Nat) : Int)]
        generalize nR n h = ar at *
        generalize h a = v at *
        simp [ir_rel_Rel_Fitsl0, go_sem, hu.is, c, e1, e3, hi, hgl, hgg, hal, hae, h3, ha, asIx_nat, -Int.natCast_add]
      · have hc : ¬ (0 ≤ (a : Int) ∧ (a : Int) < n ∧ h (a : Int).toNat ≤ 0) := fun h => h2 h.2.2
        refine ⟨[.arr (nR n h)], ?_⟩
        rw [if_neg hc, ← hB, s_loop_at hB]
        have h3 : 0 < h a := by omega
        generalize nR n h = ar at *
        generalize h a = v at *
        simp [ir_rel_Rel_Fitsl0, go_sem, hu.is, c, e1, e3, hi, hgl, hgg, hal, hae, h3, ha, asIx_nat, -Int.natCast_add]
    · have hc : ¬ (0 ≤ a ∧ a < n ∧ h a.toNat ≤ 0) := fun h => h1 ⟨h.1, h.2.1⟩
      simp only [h1, decide_false] at hi
      refine ⟨[.arr (nR n h)], ?_⟩
      rw [if_neg hc, ← hB, s_loop_at hB]
      simp [ir_rel_Rel_Fitsl0, go_sem, hu.is, c, e1, e3, hi, -Int.natCast_add]
  · obtain rfl : j = l.length := by omega
    refine ⟨[], ?_⟩
    rw [← hB, s_loop_at hB, List.drop_length]
    simp [ir_rel_Rel_Fitsl0, go_sem, hu.is, fitA]
termination_by l.length - j
omit hr in
theorem Fits_l1 (u : V) (l : List (Int × Int)) (hu : Sl u (pR l)) (hl : l.length ≤ 300000) (hb : ∀ q ∈ l, (0 ≤ q.1 ∧ q.1 < n) ∧ 0 ≤ q.2 ∧ q.2 < n) (h : Nat → Int) (vs : List V) (j : Nat) (hj : j ≤ l.length) :
    ∃ vs', evCI pg (.loop ir_rel_Rel_Fitsl1) ⟨[.undef, .undef, .undef, .rsl 0 0 n, .undef, .undef, .undef, .undef, .undef, .undef, .undef, .undef, .undef, u, .int .i64 (l.length : Int), .int .i64 (j : Int), .undef, .undef], ⟨[vs], [], [.arr (nR n h)]⟩⟩ =
      some (if ((l.drop j).all fun q => decide (h q.1.toNat < h q.2.toNat)) = true then (.exit 2, ⟨[.undef, .undef, .undef, .rsl 0 0 n, .undef, .undef, .undef, .undef, .undef, .undef, .undef, .undef, .undef, u, .int .i64 (l.length : Int), .int .i64 (l.length : Int), .bool false, .undef], ⟨[vs'], [], [.arr (nR n h)]⟩⟩)
      else (.ret, ⟨[.undef, .undef, .bool false, .undef, .undef, .undef, .undef, .undef, .undef, .undef, .undef, .undef, .undef, .undef, .undef, .undef, .undef, .undef], ⟨[vs'], [], [.arr (nR n h)]⟩⟩)) := by
  obtain ⟨B, hB⟩ : ∃ B, B = Vm.C.loop ir_rel_Rel_Fitsl1 := ⟨_, rfl⟩
  have hpl := pR_len l
  by_cases c : j < l.length
  · have e3 := succ_i64 c (by omega)
    have e1 := fun m => hu.ia (sz := 2) m .i64 (i := j) (by omega) (by simp [pR])
    simp only [pR_el] at e1
    have hbj := hb l[j] (List.getElem_mem _)
    rw [List.drop_eq_getElem_cons c, List.all_cons]
    generalize l[j] = q at *
    obtain ⟨x, y⟩ := q
    simp only at hbj e1 ⊢
    obtain ⟨x, rfl⟩ : ∃ k : Nat, x = k := ⟨x.toNat, by omega⟩
    obtain ⟨y, rfl⟩ : ∃ k : Nat, y = k := ⟨y.toNat, by omega⟩
    have hx : x < n := by omega
    have hy : y < n := by omega
    simp only [Int.toNat_natCast]
    have hgl := nR_len n h
    have hgx := nR_get h hx
    have hgy := nR_get h hy
    have hxl : x < (nR n h).length := by omega
    have hyl : y < (nR n h).length := by omega
    have hxe := nR_el n h x hxl
    have hye := nR_el n h y hyl
    by_cases h1 : h x < h y
    · obtain ⟨vs', ih⟩ := Fits_l1 u l hu hl hb h [] (j + 1) (by omega)
      refine ⟨vs', ?_⟩
      simp only [h1, decide_true, Bool.true_and]
      rw [← ih, ← hB]
      conv => lhs; rw [s_loop_at hB]
      have h2 : ¬ h y ≤ h x := by omega
      generalize nR n h = ar at *
      generalize h x = a at *
      generalize h y = b at *
      simp [ir_rel_Rel_Fitsl1, go_sem, hu.is, c, e1, e3, hgl, hgx, hgy, hxl, hyl, hxe, hye, h2, hx, hy, asIx_nat, -Int.natCast_add]
    · refine ⟨[], ?_⟩
      simp only [h1, decide_false, Bool.false_and, Bool.false_eq_true, if_false]
      rw [← hB, s_loop_at hB]
      have h2 : h y ≤ h x := by omega
      generalize nR n h = ar at *
      generalize h x = a at *
      generalize h y = b at *
      simp [ir_rel_Rel_Fitsl1, go_sem, hu.is, c, e1, e3, hgl, hgx, hgy, hxl, hyl, hxe, hye, h2, hx, hy, asIx_nat, -Int.natCast_add]
  · obtain rfl : j = l.length := by omega
    refine ⟨vs, ?_⟩
    rw [← hB, s_loop_at hB, List.drop_length]
    simp [ir_rel_Rel_Fitsl1, go_sem, hu.is]
termination_by l.length - j
/-- Does it fit? -/
def fitP (n : Nat) (W : Nat → Nat) (l : List Int) : Bool := decide (l.length = n) && match fitA n (fun _ => 0) 0 l with
  | none => false
  | some h => (prs n W 0).all fun q => decide (h q.1.toNat < h q.2.toNat)
theorem Fits_ok (u : V) (l : List Int) (hu : Sl u (iI l)) (hlm : l.length ≤ maxLen) : evI pg .val n_rel_Rel_Fits [.ip t [rv] 0, u] [] = some (.bool (fitP n W l), []) := by
  have hL := Len_ok (t := t) hr
  have hP := Pairs_ok (t := t) hr
  have hle := hr.le
  unfold fitP
  rw [s_fn fn_rel_Rel_Fits]
  by_cases c : l.length = n
  · have hlen : (prs n W 0).length ≤ 300000 := by
      have key : ∀ d i, i + d = n → (prs n W i).length ≤ 512 * d := by
        intro d
        induction d with
        | zero => intro i hi; obtain rfl : i = n := by omega
                  rw [prs_end]; simp
        | succ d ih =>
          intro i hi
          have := ih (i + 1) (by omega)
          have h2 := rt_len n (W i)
          rw [prs_step W (by omega), List.length_append, List.length_map]
          omega
      have := key n 0 (by omega)
      omega
    have hbnd : ∀ q ∈ prs n W 0, (0 ≤ q.1 ∧ q.1 < n) ∧ 0 ≤ q.2 ∧ q.2 < n := by
      intro q hq
      unfold prs at hq
      obtain ⟨a, ha, hq⟩ := List.mem_flatMap.1 hq
      obtain ⟨b, hb, rfl⟩ := List.mem_map.1 hq
      obtain ⟨j, hj, rfl⟩ := List.mem_map.1 hb
      have h1 := List.mem_range.1 (List.mem_filter.1 hj).1
      have h2 := List.mem_range'_1.1 ha
      simp only
      omega
    have hsl := Sl.ils (pR (prs n W 0))
    obtain ⟨H', h0⟩ := Fits_l0 t rv n W hr u l hu (by omega) [] 0 (by omega) (fun _ => 0)
    rw [List.drop_zero, nR_rep, Int.natCast_zero] at h0
    have hk1 : n * 8 ≤ maxB := by unfold maxB; omega
    have hk5 : (n : Int) ≤ 9223372036854775807 := by omega
    rw [c] at h0
    cases hf : fitA n (fun _ => 0) 0 l with
    | none =>
      rw [hf] at h0
      simp [ir_rel_Rel_Fits, go_sem, hu.is, hu.rows, iI_len, hL, c, hk1, hk5, h0]
    | some h =>
      rw [hf] at h0
      obtain ⟨vs', h1⟩ := Fits_l1 n (ils (pR (prs n W 0))) (prs n W 0) hsl hlen hbnd h [] 0 (by omega)
      rw [List.drop_zero, Int.natCast_zero] at h1
      simp only
      cases ha : (prs n W 0).all fun q => decide (h q.1.toNat < h q.2.toNat) with
      | true =>
        rw [ha] at h1
        simp [ir_rel_Rel_Fits, go_sem, hu.is, hu.rows, iI_len, hL, hP, c, hk1, hk5, h0, hsl.is, hsl.rows, pR_len, h1]
      | false =>
        rw [ha] at h1
        simp [ir_rel_Rel_Fits, go_sem, hu.is, hu.rows, iI_len, hL, hP, c, hk1, hk5, h0, hsl.is, hsl.rows, pR_len, h1]
  · simp [ir_rel_Rel_Fits, go_sem, hu.is, hu.rows, iI_len, hL, c]
end
end Go.Proofs.YtkjfedgjjgobaaaDoor
