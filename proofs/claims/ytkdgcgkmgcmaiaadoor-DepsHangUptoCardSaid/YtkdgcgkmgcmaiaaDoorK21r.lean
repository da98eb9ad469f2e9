/- Layer 21: the document's tables, by the course (no claim; lemmas). -/
import Derived.Test.YtkdgcgkmgcmaiaaDoorK21q
set_option linter.unusedSimpArgs false
set_option linter.unusedVariables false
namespace Go.Proofs.YtkdgcgkmgcmaiaaDoor
open Go Go.Vm

/-- A table, with one row set from a place on. -/
def setC (x m : Nat) (f : Nat → Nat → Bool) : Nat → Nat → Bool := fun a b => if a = x ∧ m ≤ b then true else f a b
theorem setC_step (x m : Nat) (f : Nat → Nat → Bool) : setC x m f = setC x (m + 1) (fun a b => if a = x then (if b = m then true else f x b) else f a b) := by
  funext a b
  unfold setC
  by_cases c : a = x
  · subst c
    by_cases c1 : b = m
    · subst c1; simp
    · have : (m ≤ b) ↔ (m + 1 ≤ b) := by omega
      simp [c1, this]
  · simp [c]
/-- Rows set behind a place. -/
def setW (i W : Nat) (f : Nat → Nat → Bool) : Nat → Nat → Bool := fun a b => f a b || (decide (i < b) && W.testBit a)
theorem setW_cons (i x : Nat) (q : List Nat) (f : Nat → Nat → Bool) : setW i (orL 0 (x :: q)) f = setW i (orL 0 q) (setC x (i + 1) f) := by
  funext a b
  unfold setW setC
  rw [orL_bit, orL_bit, Nat.zero_testBit]
  by_cases c : a = x
  · subst c
    by_cases c1 : i < b
    · have : i + 1 ≤ b := by omega
      simp [c1, this]
    · have : ¬ i + 1 ≤ b := by omega
      simp [c1, this]
  · simp [c]
theorem setW_zero (i : Nat) (f : Nat → Nat → Bool) : setW i 0 f = f := by
  funext a b
  unfold setW; simp
theorem ofF_zero (S : Nat → Nat) (q : List Int) (W : Nat) : ofF S q W = W ||| ofF S q 0 := by
  apply Nat.eq_of_testBit_eq
  intro a
  rw [Nat.testBit_or, ofF_bit, ofF_bit, Nat.zero_testBit, Bool.false_or]
theorem setW_or (i U W : Nat) (f : Nat → Nat → Bool) : setW i (U ||| W) f = setW i W (setW i U f) := by
  funext a b
  unfold setW
  rw [Nat.testBit_or]
  cases f a b <;> cases decide (i < b) <;> cases U.testBit a <;> cases W.testBit a <;> rfl
section
variable {lv : V} (kd : Int) (i n T : Nat) (hin : i < n) (h512 : n ≤ 512) (hlv : isS lv = true) (hlr : (rows lv).length = n) (I : Nat → Nat) (S : Nat → Nat)
  (fv : V) (q : List Int) (hf : Sl fv (iI q)) (hql : q.length ≤ 1000)
section
variable (j0 : Nat) (hj0 : j0 < q.length) (r : Nat) (hr : q[j0] = (r : Int)) (hr32 : r < 32) (p : List Nat) (hp : rt 512 (S r) = nL p) (hpn : ∀ a ∈ p, a < n) (hpl : p.length ≤ 512)
include hin h512 hlv hlr hf hql hr hr32 hp hpn hpl
omit hql hpl in
theorem H_l2 (j : Nat) (hj : j < p.length) (m : Nat) (hm : m ≤ n) (f : Nat → Nat → Bool) (H : List Vm.Obj) (h : TabAt H (.rsl T 0 n) n T I f) :
    ∃ H', evCI pg (.loop ir_undertowref21_Hangl2) ⟨[lv, .int .i64 kd, .undef, .rsl T 0 n, .int .i64 (i : Int), .lp 0 0, .undef, .undef, .undef, .undef, .undef, .undef, fv, .int .i64 (j0 : Int), .int .i64 (j : Int), .int .i64 (m : Int), .undef, .undef, .undef, .undef, .undef, .undef, .undef, .undef, .undef], ⟨[xc S, []], [], H⟩⟩ =
        some (.exit 10, ⟨[lv, .int .i64 kd, .undef, .rsl T 0 n, .int .i64 (i : Int), .lp 0 0, .undef, .undef, .undef, .undef, .undef, .undef, fv, .int .i64 (j0 : Int), .int .i64 (j : Int), .int .i64 (n : Int), .undef, .undef, .undef, .undef, .undef, .undef, .undef, .undef, .bool false], ⟨[xc S, []], [], H'⟩⟩) ∧ TabAt H' (.rsl T 0 n) n T I (setC p[j] m f) := by
  obtain ⟨B, hB⟩ : ∃ B, B = C.loop ir_undertowref21_Hangl2 := ⟨_, rfl⟩
  have hx := asIx_nat (k := .i64) hr32
  have hr32' : (r : Int) < 32 := by omega
  have hxg := xc_get S hr32
  have hxs := xv_sl (S r)
  rw [hp] at hxs
  have hpl' : (iI (nL p)).length = p.length := by rw [iI_len, nL_len]
  have f1 := fun m => hf.ia (sz := 1) m .i64 (i := j0) (by rw [iI_len]; exact hj0) (by simp [iI])
  simp only [iI_el, hr] at f1
  have hfi := hf.is
  have hfr := hf.rows
  by_cases c : m < n
  · have e1 := fun m => hxs.ia (sz := 1) m .i64 (i := j) (by rw [hpl']; exact hj) (by simp [iI])
    simp only [iI_el] at e1
    have e1' : (nL p)[j]'(by rw [nL_len]; exact hj) = ((p[j] : Nat) : Int) := by simp [nL]
    simp only [e1'] at e1
    have e3 := succ_i64 c (by omega)
    have ha := hpn p[j] (List.getElem_mem hj)
    obtain ⟨t1, t2, t3, t5, t6, t7, t8⟩ := tab_facts h ha c
    obtain ⟨H', q1, q2⟩ := H_l2 j hj (m + 1) (by omega) _ _ t8
    rw [setC_step]
    refine ⟨H', ?_, q2⟩
    rw [← q1, ← hB]
    conv => lhs; rw [s_loop_at hB]
    have w3 := xv_is (S r)
    have hxr := hxs.rows
    generalize xv (S r) = xr at *
    generalize xc S = xcs at *
    generalize p[j] = a at *
    have hai : (a : Int) < (n : Int) := by omega
    have hii : (m : Int) < (n : Int) := by omega
    obtain ⟨br, hbr⟩ : ∃ br, br = bR n (f a) := ⟨_, rfl⟩
    rw [← hbr] at t3 t5 q1 ⊢
    have t4 := get_el t3 t6
    have t9 := get_el t1 t2
    generalize (List.range n).map (fun a => [V.rsl (I a) 0 n]) = tr at *
    have t5l : m < br.length := by rw [hbr, bR_len]; exact c
    have t6l : br.length = n := by rw [hbr, bR_len]
    have t7e : br[m] = [.bool (f a m)] := by
      have := t5
      rw [List.getElem?_eq_getElem t5l] at this; exact Option.some.inj this
    simp [ir_undertowref21_Hangl2, go_sem, hx, hr32', hxg, hxr, f1, hfi, hfr, iI_len, e1, e3, c, hpl', w3, hlv, hlr, loadAt, t1, t2, t9, t3, t4, t5, t6, t7, t5l, t6l, t7e, ha, hai, hii, evStore, V.cells, splice, -Int.natCast_add]
  · obtain rfl : m = n := by omega
    refine ⟨H, ?_, ?_⟩
    · rw [← hB, s_loop_at hB]
      generalize xc S = xcs at *
      simp [ir_undertowref21_Hangl2, go_sem, hlv, hlr, -Int.natCast_add]
    · refine MatAt.congr h fun a ha => bR_congr fun b hb => ?_
      unfold setC
      rw [if_neg (by omega)]
termination_by n - m
omit hql in
theorem H_l3 (j : Nat) (hj : j ≤ p.length) (f : Nat → Nat → Bool) (H : List Vm.Obj) (h : TabAt H (.rsl T 0 n) n T I f) :
    ∃ H', evCI pg (.loop ir_undertowref21_Hangl3) ⟨[lv, .int .i64 kd, .undef, .rsl T 0 n, .int .i64 (i : Int), .lp 0 0, .undef, .undef, .undef, .undef, .undef, .undef, fv, .int .i64 (j0 : Int), .int .i64 (j : Int), .undef, .undef, .undef, .undef, .undef, .undef, .undef, .undef, .undef, .undef], ⟨[xc S, []], [], H⟩⟩ =
        some (.exit 8, ⟨[lv, .int .i64 kd, .undef, .rsl T 0 n, .int .i64 (i : Int), .lp 0 0, .undef, .undef, .undef, .undef, .undef, .undef, fv, .int .i64 (j0 : Int), .int .i64 (p.length : Int), .undef, .undef, .undef, .undef, .undef, .undef, .undef, .undef, .bool false, .undef], ⟨[xc S, []], [], H'⟩⟩) ∧ TabAt H' (.rsl T 0 n) n T I (setW i (orL 0 (p.drop j)) f) := by
  obtain ⟨B, hB⟩ : ∃ B, B = C.loop ir_undertowref21_Hangl3 := ⟨_, rfl⟩
  have hx := asIx_nat (k := .i64) hr32
  have hr32' : (r : Int) < 32 := by omega
  have hxg := xc_get S hr32
  have hxs := xv_sl (S r)
  rw [hp] at hxs
  have hpl' : (iI (nL p)).length = p.length := by rw [iI_len, nL_len]
  have f1 := fun m => hf.ia (sz := 1) m .i64 (i := j0) (by rw [iI_len]; exact hj0) (by simp [iI])
  simp only [iI_el, hr] at f1
  have hfi := hf.is
  have hfr := hf.rows
  by_cases c : j < p.length
  · have e3 := succ_i64 c (by omega)
    have e4 := succ_i64 hin (by omega)
    obtain ⟨H1, q1, q2⟩ := H_l2 kd i n T hin h512 hlv hlr I S fv q hf j0 hj0 r hr hr32 p hp hpn j c (i + 1) (by omega) f H h
    obtain ⟨H', q3, q4⟩ := H_l3 (j + 1) (by omega) _ _ q2
    rw [List.drop_eq_getElem_cons c, setW_cons]
    refine ⟨H', ?_, q4⟩
    rw [← q3, ← hB]
    conv => lhs; rw [s_loop_at hB]
    have w3 := xv_is (S r)
    have hxr := hxs.rows
    generalize xv (S r) = xr at *
    generalize xc S = xcs at *
    simp [ir_undertowref21_Hangl3, go_sem, hx, hr32', hxg, hxr, f1, hfi, hfr, iI_len, e3, e4, c, hpl', w3, hlv, loadAt, q1, -Int.natCast_add]
  · obtain rfl : j = p.length := by omega
    refine ⟨H, ?_, ?_⟩
    · rw [← hB, s_loop_at hB]
      have w3 := xv_is (S r)
      have hxr := hxs.rows
      generalize xv (S r) = xr at *
      generalize xc S = xcs at *
      simp [ir_undertowref21_Hangl3, go_sem, hx, hr32', hxg, hxr, f1, hfi, hfr, iI_len, hpl', w3, hlv, loadAt, -Int.natCast_add]
    · rw [List.drop_length]
      have : orL 0 [] = 0 := rfl
      rw [this, setW_zero]; exact h
termination_by p.length - j
end
variable (n5 : Nat) (h5 : n5 = 512) (hS : ∀ r, r < 32 → S r < 2 ^ n5) (hSi : ∀ r a, r < 32 → (S r).testBit a = true → a < n) (hq : ∀ a ∈ q, 0 < a ∧ a < 32)
include hin h512 hlv hlr hf hql h5 hS hSi hq
theorem H_l4 (j0 : Nat) (hj : j0 ≤ q.length) (f : Nat → Nat → Bool) (H : List Vm.Obj) (h : TabAt H (.rsl T 0 n) n T I f) :
    ∃ H', evCI pg (.loop ir_undertowref21_Hangl4) ⟨[lv, .int .i64 kd, .undef, .rsl T 0 n, .int .i64 (i : Int), .lp 0 0, .undef, .undef, .undef, .undef, .undef, .undef, fv, .int .i64 (j0 : Int), .undef, .undef, .undef, .undef, .undef, .undef, .undef, .undef, .undef, .undef, .undef], ⟨[xc S, []], [], H⟩⟩ =
        some (.exit 6, ⟨[lv, .int .i64 kd, .undef, .rsl T 0 n, .int .i64 (i : Int), .lp 0 0, .undef, .undef, .undef, .undef, .undef, .undef, fv, .int .i64 (q.length : Int), .undef, .undef, .undef, .undef, .undef, .undef, .undef, .undef, .bool false, .undef, .undef], ⟨[xc S, []], [], H'⟩⟩) ∧ TabAt H' (.rsl T 0 n) n T I (setW i (ofF S (q.drop j0) 0) f) := by
  obtain ⟨B, hB⟩ : ∃ B, B = C.loop ir_undertowref21_Hangl4 := ⟨_, rfl⟩
  have hfi := hf.is
  have hfr := hf.rows
  by_cases c : j0 < q.length
  · have e3 := succ_i64 c (by omega)
    have h0 := hq q[j0] (List.getElem_mem c)
    obtain ⟨r, hr⟩ : ∃ r : Nat, q[j0] = (r : Int) := ⟨q[j0].toNat, by omega⟩
    have hr32 : r < 32 := by omega
    obtain ⟨H1, q1, q2⟩ := H_l3 kd i n T hin h512 hlv hlr I S fv q hf j0 c r hr hr32 (sb 512 (S r).testBit) (rt_nL 512 (S r)) (fun a ha => hSi r a hr32 (mem_sb.1 ha).2) (sb_len _ _) 0 (by omega) f H h
    rw [List.drop_zero, Int.natCast_zero] at *
    have ho : orL 0 (sb 512 (S r).testBit) = S r := by
      have := orL_sb (hS r hr32) 0
      rw [h5, Nat.zero_or] at this
      exact this
    rw [ho] at q2
    obtain ⟨H', q3, q4⟩ := H_l4 (j0 + 1) (by omega) _ _ q2
    have ef : ofF S (q.drop j0) 0 = S r ||| ofF S (q.drop (j0 + 1)) 0 := by
      rw [← ofF_zero, List.drop_eq_getElem_cons c]
      have : ofF S (q[j0] :: q.drop (j0 + 1)) 0 = ofF S (q.drop (j0 + 1)) (if 0 < q[j0] ∧ q[j0] < 32 then 0 ||| S q[j0].toNat else 0) := rfl
      rw [this, if_pos h0, hr, Int.toNat_natCast, Nat.zero_or]
    rw [ef, setW_or]
    refine ⟨H', ?_, q4⟩
    rw [← q3, ← hB]
    conv => lhs; rw [s_loop_at hB]
    generalize xc S = xcs at *
    simp [ir_undertowref21_Hangl4, go_sem, c, e3, hfi, hfr, iI_len, hlv, q1, -Int.natCast_add]
  · obtain rfl : j0 = q.length := by omega
    refine ⟨H, ?_, ?_⟩
    · rw [← hB, s_loop_at hB]
      generalize xc S = xcs at *
      simp [ir_undertowref21_Hangl4, go_sem, hfi, hfr, iI_len, hlv, -Int.natCast_add]
    · rw [List.drop_length]
      have : ofF S [] 0 = 0 := rfl
      rw [this, setW_zero]; exact h
termination_by q.length - j0
end
end Go.Proofs.YtkdgcgkmgcmaiaaDoor
