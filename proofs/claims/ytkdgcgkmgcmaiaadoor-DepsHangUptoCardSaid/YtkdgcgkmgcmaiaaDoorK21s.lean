/- Layer 21: the document's tables (no claim; lemmas). -/
import Derived.Test.YtkdgcgkmgcmaiaaDoorK21r
set_option linter.unusedSimpArgs false
set_option linter.unusedVariables false
namespace Go.Proofs.YtkdgcgkmgcmaiaaDoor
open Go Go.Vm

theorem MatAt.slotK {H : List Vm.Obj} {v : V} {n k T : Nat} {I : Nat → Nat} {R : Nat → List (List V)} (h : MatAt H v n k T I R) : ∀ q, slotV q v = some v := by
  intro q
  rcases h.top with ⟨_, h1⟩ | ⟨_, h1, _⟩ <;> subst h1 <;> rfl
theorem rAt_z (l : List In) : ∀ i, rAt l i 0 = 0
  | 0 => rfl
  | i + 1 => by
    cases h : l[i]? with
    | none => simpa [rAt, h] using rAt_z l i
    | some y =>
      simp only [rAt, h]
      unfold bhd
      split
      · exact rAt_z l i
      · rename_i c
        have := tgt_le y
        unfold up
        rw [if_neg (by omega)]
        exact rAt_z l i
theorem ofS_one (S : Nat → Nat) (h0 : S 0 = 0) {r : Nat} (hr : r < 32) : ofS S ([(r : Int)].filter fun r => decide (r ≠ 0)) = S r := by
  by_cases c : r = 0
  · subst c; rw [h0]; rfl
  · have h1 : 0 < r := by omega
    have h2 : (r : Int) < 32 := by omega
    simp [c, ofS, h1, h2]
theorem sto_iff {op : Int} : sto op = true ↔ (srtO op = 5 ∨ srtO op = 11 ∨ srtO op = 12) := by
  unfold sto
  simp only [Bool.or_eq_true, beq_iff_eq]
  omega
theorem mem_iff {op : Int} : memO op = true ↔ (srtO op = 4 ∨ srtO op = 5 ∨ srtO op = 10 ∨ srtO op = 11 ∨ srtO op = 12) := by
  unfold memO
  simp only [Bool.or_eq_true, beq_iff_eq]
  omega
theorem rg0 : rg 0 = 0 := rfl
theorem dA_reg {S : Nat → Nat} (h0 : S 0 = 0) {y : In} (hm : memO y.op = true) {r : Nat} (hr : rg y.rs1 = (r : Int)) : dA S y = S r := by
  have hr2 := rg_le y.rs1
  have h1 : rd1 (no2 y).op = true := by
    have e : (no2 y).op = y.op := rfl
    rw [e]
    have := mem_iff.1 hm
    unfold rd1
    rcases this with e | e | e | e | e <;> simp [e]
  have e1 : (no2 y).rs1 = y.rs1 := rfl
  have e2 : (no2 y).rs2 = 0 := rfl
  unfold dA
  rw [if_pos hm]
  have hs : srcs (no2 y) = [(r : Int)].filter fun r => decide (r ≠ 0) := by
    unfold srcs src0
    rw [h1, e1, e2, hr, rg0, if_pos rfl]
    cases rd2 (no2 y).op <;> simp [List.filter_cons]
  rw [hs, ofS_one S h0 (by omega)]
theorem dD_reg {S : Nat → Nat} (h0 : S 0 = 0) {y : In} (hm : sto y.op = true) {r : Nat} (hr : rg y.rs2 = (r : Int)) : dD S y = S r := by
  have hr2 := rg_le y.rs2
  have h1 : rd2 (no1 y).op = true := by
    have e : (no1 y).op = y.op := rfl
    rw [e]
    have := sto_iff.1 hm
    unfold rd2
    rcases this with e | e | e <;> simp [e]
  have e1 : (no1 y).rs2 = y.rs2 := rfl
  have e2 : (no1 y).rs1 = 0 := rfl
  unfold dD
  rw [if_pos hm]
  have hs : srcs (no1 y) = [(r : Int)].filter fun r => decide (r ≠ 0) := by
    unfold srcs src0
    rw [h1, e1, e2, hr, rg0, if_pos rfl]
    cases rd1 (no1 y).op <;> simp [List.filter_cons]
  rw [hs, ofS_one S h0 (by omega)]
/-- The tables, as far as they are made. -/
def FA (l : List In) (i : Nat) : Nat → Nat → Bool := fun a b => decide (b < i) && (hA l b).testBit a
def FD (l : List In) (i : Nat) : Nat → Nat → Bool := fun a b => decide (b < i) && (hD l b).testBit a
def FC (l : List In) (i : Nat) : Nat → Nat → Bool := fun a b => (cAt l (min i b)).testBit a
theorem F_step {g : Nat → Nat} {i : Nat} {U : Nat} (hU : g i = U) (h5 : ∀ a, U.testBit a = true → a < 512) : (fun a b => decide (b < i + 1) && (g b).testBit a) = setB i (sb 512 U.testBit) (fun a b => decide (b < i) && (g b).testBit a) := by
  funext a b
  unfold setB
  by_cases c : b = i
  · subst c
    rw [hU]
    cases hb : U.testBit a with
    | true => simp [mem_sb, hb, h5 a hb]
    | false => simp [mem_sb, hb]
  · have : (b < i + 1) ↔ (b < i) := by omega
    simp [c, this]
theorem F_no {g : Nat → Nat} {i : Nat} (hU : g i = 0) : (fun a b => decide (b < i + 1) && (g b).testBit a) = (fun a b => decide (b < i) && (g b).testBit a) := by
  funext a b
  by_cases c : b = i
  · subst c
    rw [hU]; simp
  · have : (b < i + 1) ↔ (b < i) := by omega
    simp [this]
theorem FA_step {l : List In} {i : Nat} (h : i < l.length) (hl : l.length ≤ 512) (hm : memO l[i].op = true) {r : Nat} (hr : rg l[i].rs1 = (r : Int)) : FA l (i + 1) = setB i (sb 512 (rAt l i r).testBit) (FA l i) := by
  have hr2 := rg_le l[i].rs1
  refine F_step (g := hA l) ?_ fun a ha => by have := lt_two (rAt_lt l i r (by omega)) ha; omega
  unfold hA
  rw [List.getElem?_eq_getElem h]
  exact dA_reg (rAt_z l i) hm hr
theorem FA_step_no {l : List In} {i : Nat} (h : i < l.length) (hm : memO l[i].op = false) : FA l (i + 1) = FA l i := by
  refine F_no (g := hA l) ?_
  unfold hA
  rw [List.getElem?_eq_getElem h]
  simp [dA, hm]
theorem FD_step {l : List In} {i : Nat} (h : i < l.length) (hl : l.length ≤ 512) (hm : sto l[i].op = true) {r : Nat} (hr : rg l[i].rs2 = (r : Int)) : FD l (i + 1) = setB i (sb 512 (rAt l i r).testBit) (FD l i) := by
  have hr2 := rg_le l[i].rs2
  refine F_step (g := hD l) ?_ fun a ha => by have := lt_two (rAt_lt l i r (by omega)) ha; omega
  unfold hD
  rw [List.getElem?_eq_getElem h]
  exact dD_reg (rAt_z l i) hm hr
theorem FD_step_no {l : List In} {i : Nat} (h : i < l.length) (hm : sto l[i].op = false) : FD l (i + 1) = FD l i := by
  refine F_no (g := hD l) ?_
  unfold hD
  rw [List.getElem?_eq_getElem h]
  simp [dD, hm]
theorem FC_step {l : List In} {i : Nat} (h : i < l.length) : FC l (i + 1) = setW i (if crs l[i].op then ofS (rAt l i) (srcs l[i]) else 0) (FC l i) := by
  funext a b
  show (cAt l (min (i + 1) b)).testBit a = ((cAt l (min i b)).testBit a || (decide (i < b) && (if crs l[i].op then ofS (rAt l i) (srcs l[i]) else 0).testBit a))
  by_cases c : i < b
  · rw [show min (i + 1) b = i + 1 by omega, show min i b = i by omega, cAt_succ h, Nat.testBit_or]
    simp [c]
  · rw [show min (i + 1) b = b by omega, show min i b = b by omega]
    simp [c]
section
variable {l : List In} {lv : V} (hl : Sl lv (rtR l)) (hok : ∀ x ∈ l, okI x) (hlen : l.length ≤ 512) {T : Nat} {I : Nat → Nat}
include hl hok hlen
set_option maxRecDepth 100000 in
theorem H5A (i : Nat) (hi : i ≤ l.length) (H : List Vm.Obj) (h : TabAt H (.rsl T 0 l.length) l.length T I (FA l i)) :
    ∃ H', evCI pg (.loop ir_undertowref21_Hangl5) ⟨[lv, .int .i64 1, .undef, .rsl T 0 l.length, .int .i64 (i : Int), .undef, .undef, .undef, .undef, .undef, .undef, .undef, .undef, .undef, .undef, .undef, .undef, .undef, .undef, .undef, .undef, .undef, .undef, .undef, .undef], ⟨[[], []], [], H⟩⟩ =
        some (.exit 0, ⟨[lv, .int .i64 1, .undef, .rsl T 0 l.length, .int .i64 (l.length : Int), .undef, .undef, .undef, .undef, .undef, .undef, .undef, .undef, .undef, .undef, .undef, .bool false, .undef, .undef, .undef, .undef, .undef, .undef, .undef, .undef], ⟨[[], []], [], H'⟩⟩) ∧ TabAt H' (.rsl T 0 l.length) l.length T I (FA l l.length) := by
  obtain ⟨B, hB⟩ : ∃ B, B = C.loop ir_undertowref21_Hangl5 := ⟨_, rfl⟩
  by_cases h' : i < l.length
  · have e1 := fun m => hl.ia (sz := 27) m .i64 (i := i) (by rw [rtR_len]; exact h') (by rw [rtR_el]; rfl)
    simp only [rtR_el] at e1
    have e3 := succ_i64 h' (by omega)
    have hR := refRoots_ok hl hok hlen i (by omega)
    have hy := hok l[i] (List.getElem_mem h')
    have hSo := refSortO l[i].op hy
    have r1 := refRegister_ok l[i].rs1
    have r2 := refRegister_ok l[i].rs2
    have g1 := rg_le l[i].rs1
    have g2 := rg_le l[i].rs2
    have hT := get_lt (MatAt.pos h (by omega)).2
    have hln := xc_len (rAt l i)
    have hl0 := xc_len (fun _ => 0)
    have tin := rtV_in l[i]
    rw [List.drop_one] at tin
    have tl := rtV_len l[i]
    have hSi : ∀ r a, r < 32 → (rAt l i r).testBit a = true → a < l.length := fun r a hr ha => Nat.lt_trans (lt_two (rAt_lt l i r hr) ha) h'
    obtain ⟨sz, hsz, hsm⟩ := refSizeO l[i].op hy
    cases cm : memO l[i].op with
    | true =>
      obtain ⟨r, hr⟩ : ∃ r : Nat, rg l[i].rs1 = (r : Int) := ⟨(rg l[i].rs1).toNat, by omega⟩
      have hr32 : r < 32 := by omega
      have hz1 : (0 : Int) < (sz : Int) := by have : 0 < sz := by rw [cm] at hsm; simpa using hsm
                                              omega
      have hz2 : 0 < sz := by omega
      obtain ⟨H1, q1, q2⟩ := H_l0 (lv := lv) 1 (.int .i64 (srtO l[i].op : Nat)) i l.length T h' I (rAt l i) (inV l[i]) r hr32 (sb 512 (rAt l i r).testBit) (rt_nL 512 (rAt l i r)) (fun a ha => hSi r a hr32 (mem_sb.1 ha).2) (sb_len _ _) (.int .i64 (rg l[i].rs2)) 0 (by omega) (FA l i) H h
      have hstep := FA_step h' hlen cm hr
      rw [List.drop_zero, ← hstep] at q2
      obtain ⟨H', q3, q4⟩ := H5A (i + 1) (by omega) _ q2
      refine ⟨H', ?_, q4⟩
      rw [hr] at r1
      rw [Int.natCast_zero] at q1
      rw [← q3, ← hB]
      conv => lhs; rw [s_loop_at hB]
      simp only [ir_undertowref21_Hangl5, ← rep32, xc_zero]
      simp only [inV] at q1 tin
      generalize rtV l[i] = y at *
      generalize xc (rAt l i) = x1 at *
      generalize xc (fun _ => 0) = x0 at *
      have hd0 : List.drop 32 x0 = [] := List.drop_of_length_le (by omega)
      simp [go_sem, hsz, hz1, hz2, hR, hSo, r1, r2, hl.is, hl.rows, rtR_len, h', e1, e3, loadAt, V.cells, evStore, splice, hln, hl0, tl, tin, hd0, q1, hT, -Int.natCast_add]
    | false =>
      have hz2 : ¬ 0 < sz := by rw [cm] at hsm; simpa using hsm
      have hz1 : sz = 0 := by omega
      have hstep := FA_step_no h' cm
      rw [← hstep] at h
      obtain ⟨H', q3, q4⟩ := H5A (i + 1) (by omega) _ h
      refine ⟨H', ?_, q4⟩
      rw [← q3, ← hB]
      conv => lhs; rw [s_loop_at hB]
      simp only [ir_undertowref21_Hangl5, ← rep32, xc_zero]
      simp only [inV] at tin
      generalize rtV l[i] = y at *
      generalize xc (rAt l i) = x1 at *
      generalize xc (fun _ => 0) = x0 at *
      have hd0 : List.drop 32 x0 = [] := List.drop_of_length_le (by omega)
      simp [go_sem, hsz, hz1, hz2, hR, hSo, r1, r2, hl.is, hl.rows, rtR_len, h', e1, e3, loadAt, V.cells, evStore, splice, hln, hl0, tl, tin, hd0, hT, -Int.natCast_add]
  · obtain rfl : i = l.length := by omega
    refine ⟨H, ?_, h⟩
    rw [← hB, s_loop_at hB]
    simp [ir_undertowref21_Hangl5, go_sem, hl.is, hl.rows, rtR_len]
termination_by l.length - i
set_option maxRecDepth 100000 in
theorem H5D (i : Nat) (hi : i ≤ l.length) (H : List Vm.Obj) (h : TabAt H (.rsl T 0 l.length) l.length T I (FD l i)) :
    ∃ H', evCI pg (.loop ir_undertowref21_Hangl5) ⟨[lv, .int .i64 2, .undef, .rsl T 0 l.length, .int .i64 (i : Int), .undef, .undef, .undef, .undef, .undef, .undef, .undef, .undef, .undef, .undef, .undef, .undef, .undef, .undef, .undef, .undef, .undef, .undef, .undef, .undef], ⟨[[], []], [], H⟩⟩ =
        some (.exit 0, ⟨[lv, .int .i64 2, .undef, .rsl T 0 l.length, .int .i64 (l.length : Int), .undef, .undef, .undef, .undef, .undef, .undef, .undef, .undef, .undef, .undef, .undef, .bool false, .undef, .undef, .undef, .undef, .undef, .undef, .undef, .undef], ⟨[[], []], [], H'⟩⟩) ∧ TabAt H' (.rsl T 0 l.length) l.length T I (FD l l.length) := by
  obtain ⟨B, hB⟩ : ∃ B, B = C.loop ir_undertowref21_Hangl5 := ⟨_, rfl⟩
  by_cases h' : i < l.length
  · have e1 := fun m => hl.ia (sz := 27) m .i64 (i := i) (by rw [rtR_len]; exact h') (by rw [rtR_el]; rfl)
    simp only [rtR_el] at e1
    have e3 := succ_i64 h' (by omega)
    have hR := refRoots_ok hl hok hlen i (by omega)
    have hy := hok l[i] (List.getElem_mem h')
    have hSo := refSortO l[i].op hy
    have r1 := refRegister_ok l[i].rs1
    have r2 := refRegister_ok l[i].rs2
    have g1 := rg_le l[i].rs1
    have g2 := rg_le l[i].rs2
    have hT := get_lt (MatAt.pos h (by omega)).2
    have hln := xc_len (rAt l i)
    have hl0 := xc_len (fun _ => 0)
    have tin := rtV_in l[i]
    rw [List.drop_one] at tin
    have tl := rtV_len l[i]
    have hSi : ∀ r a, r < 32 → (rAt l i r).testBit a = true → a < l.length := fun r a hr ha => Nat.lt_trans (lt_two (rAt_lt l i r hr) ha) h'
    cases cm : sto l[i].op with
    | true =>
      obtain ⟨r, hr⟩ : ∃ r : Nat, rg l[i].rs2 = (r : Int) := ⟨(rg l[i].rs2).toNat, by omega⟩
      have hr32 : r < 32 := by omega
      have hc3 := sto_iff.1 cm
      obtain ⟨H1, q1, q2⟩ := H_l1 (lv := lv) 2 (.int .i64 (srtO l[i].op : Nat)) i l.length T h' I (rAt l i) (inV l[i]) r hr32 (sb 512 (rAt l i r).testBit) (rt_nL 512 (rAt l i r)) (fun a ha => hSi r a hr32 (mem_sb.1 ha).2) (sb_len _ _) 0 (by omega) (FD l i) H h
      have hstep := FD_step h' hlen cm hr
      rw [List.drop_zero, ← hstep] at q2
      obtain ⟨H', q3, q4⟩ := H5D (i + 1) (by omega) _ q2
      refine ⟨H', ?_, q4⟩
      rw [hr] at r2
      rw [Int.natCast_zero] at q1
      rw [← q3, ← hB]
      conv => lhs; rw [s_loop_at hB]
      simp only [ir_undertowref21_Hangl5, ← rep32, xc_zero]
      simp only [inV] at q1 tin
      generalize rtV l[i] = y at *
      generalize xc (rAt l i) = x1 at *
      generalize xc (fun _ => 0) = x0 at *
      have hd0 : List.drop 32 x0 = [] := List.drop_of_length_le (by omega)
      rcases hc3 with e | e | e
      · rw [e] at hSo q1
        rw [show ((5 : Nat) : Int) = 5 from rfl] at q1
        simp [go_sem, hR, hSo, r1, r2, hl.is, hl.rows, rtR_len, h', e1, e3, loadAt, V.cells, evStore, splice, hln, hl0, tl, tin, hd0, q1, hT, -Int.natCast_add]
      · rw [e] at hSo q1
        rw [show ((11 : Nat) : Int) = 11 from rfl] at q1
        simp [go_sem, hR, hSo, r1, r2, hl.is, hl.rows, rtR_len, h', e1, e3, loadAt, V.cells, evStore, splice, hln, hl0, tl, tin, hd0, q1, hT, -Int.natCast_add]
      · rw [e] at hSo q1
        rw [show ((12 : Nat) : Int) = 12 from rfl] at q1
        simp [go_sem, hR, hSo, r1, r2, hl.is, hl.rows, rtR_len, h', e1, e3, loadAt, V.cells, evStore, splice, hln, hl0, tl, tin, hd0, q1, hT, -Int.natCast_add]
    | false =>
      have n5 : ¬ srtO l[i].op = 5 := fun e => by rw [sto_iff.2 (.inl e)] at cm; cases cm
      have n11 : ¬ srtO l[i].op = 11 := fun e => by rw [sto_iff.2 (.inr (.inl e))] at cm; cases cm
      have n12 : ¬ srtO l[i].op = 12 := fun e => by rw [sto_iff.2 (.inr (.inr e))] at cm; cases cm
      have n5' : ¬ (srtO l[i].op : Int) = 5 := by omega
      have n11' : ¬ (srtO l[i].op : Int) = 11 := by omega
      have n12' : ¬ (srtO l[i].op : Int) = 12 := by omega
      have hstep := FD_step_no h' cm
      rw [← hstep] at h
      obtain ⟨H', q3, q4⟩ := H5D (i + 1) (by omega) _ h
      refine ⟨H', ?_, q4⟩
      rw [← q3, ← hB]
      conv => lhs; rw [s_loop_at hB]
      simp only [ir_undertowref21_Hangl5, ← rep32, xc_zero]
      simp only [inV] at tin
      generalize rtV l[i] = y at *
      generalize xc (rAt l i) = x1 at *
      generalize xc (fun _ => 0) = x0 at *
      have hd0 : List.drop 32 x0 = [] := List.drop_of_length_le (by omega)
      simp [go_sem, n5, n11, n12, n5', n11', n12', hR, hSo, r1, r2, hl.is, hl.rows, rtR_len, h', e1, e3, loadAt, V.cells, evStore, splice, hln, hl0, tl, tin, hd0, hT, -Int.natCast_add]
  · obtain rfl : i = l.length := by omega
    refine ⟨H, ?_, h⟩
    rw [← hB, s_loop_at hB]
    simp [ir_undertowref21_Hangl5, go_sem, hl.is, hl.rows, rtR_len]
termination_by l.length - i
set_option maxRecDepth 100000 in
theorem H5C (i : Nat) (hi : i ≤ l.length) (H : List Vm.Obj) (h : TabAt H (.rsl T 0 l.length) l.length T I (FC l i)) :
    ∃ H', evCI pg (.loop ir_undertowref21_Hangl5) ⟨[lv, .int .i64 3, .undef, .rsl T 0 l.length, .int .i64 (i : Int), .undef, .undef, .undef, .undef, .undef, .undef, .undef, .undef, .undef, .undef, .undef, .undef, .undef, .undef, .undef, .undef, .undef, .undef, .undef, .undef], ⟨[[], []], [], H⟩⟩ =
        some (.exit 0, ⟨[lv, .int .i64 3, .undef, .rsl T 0 l.length, .int .i64 (l.length : Int), .undef, .undef, .undef, .undef, .undef, .undef, .undef, .undef, .undef, .undef, .undef, .bool false, .undef, .undef, .undef, .undef, .undef, .undef, .undef, .undef], ⟨[[], []], [], H'⟩⟩) ∧ TabAt H' (.rsl T 0 l.length) l.length T I (FC l l.length) := by
  obtain ⟨B, hB⟩ : ∃ B, B = C.loop ir_undertowref21_Hangl5 := ⟨_, rfl⟩
  by_cases h' : i < l.length
  · have e1 := fun m => hl.ia (sz := 27) m .i64 (i := i) (by rw [rtR_len]; exact h') (by rw [rtR_el]; rfl)
    simp only [rtR_el] at e1
    have e3 := succ_i64 h' (by omega)
    have hR := refRoots_ok hl hok hlen i (by omega)
    have hy := hok l[i] (List.getElem_mem h')
    have hSo := refSortO l[i].op hy
    have r1 := refRegister_ok l[i].rs1
    have r2 := refRegister_ok l[i].rs2
    have g1 := rg_le l[i].rs1
    have g2 := rg_le l[i].rs2
    have hT := get_lt (MatAt.pos h (by omega)).2
    have hln := xc_len (rAt l i)
    have hl0 := xc_len (fun _ => 0)
    have tin := rtV_in l[i]
    rw [List.drop_one] at tin
    have tl := rtV_len l[i]
    have hSi : ∀ r a, r < 32 → (rAt l i r).testBit a = true → a < l.length := fun r a hr ha => Nat.lt_trans (lt_two (rAt_lt l i r hr) ha) h'
    have hQ := refSources_ok l[i] hy
    have hsl := Sl.ils (iI (srcs l[i]))
    have hstep := FC_step h'
    obtain ⟨n5, hn5⟩ : ∃ n, n = 512 := ⟨_, rfl⟩
    cases cm : crs l[i].op with
    | true =>
      obtain ⟨H1, q1, q2⟩ := H_l4 3 i l.length T h' hlen hl.is (by rw [hl.rows, rtR_len]) I (rAt l i) (ils (iI (srcs l[i]))) (srcs l[i]) hsl (by have := srcs_len l[i]; omega) n5 hn5 (fun r hr => lt_pow (rAt_lt l i r hr) (by omega)) hSi (srcs_rg l[i]) 0 (by omega) (FC l i) H h
      rw [cm, if_pos rfl] at hstep
      have eo : ofF (rAt l i) ((srcs l[i]).drop 0) 0 = ofS (rAt l i) (srcs l[i]) := rfl
      rw [eo, ← hstep] at q2
      obtain ⟨H', q3, q4⟩ := H5C (i + 1) (by omega) _ q2
      refine ⟨H', ?_, q4⟩
      rw [Int.natCast_zero] at q1
      rw [← q3, ← hB]
      conv => lhs; rw [s_loop_at hB]
      simp only [ir_undertowref21_Hangl5, ← rep32, xc_zero]
      simp only [inV] at tin hQ
      generalize rtV l[i] = y at *
      generalize xc (rAt l i) = x1 at *
      generalize xc (fun _ => 0) = x0 at *
      have hd0 : List.drop 32 x0 = [] := List.drop_of_length_le (by omega)
      by_cases c3 : srtO l[i].op = 3
      · rw [c3] at hSo
        simp [go_sem, hR, hSo, r1, r2, hl.is, hl.rows, rtR_len, h', e1, e3, loadAt, V.cells, evStore, splice, hln, hl0, tl, tin, hd0, hQ, hsl.is, q1, hT, -Int.natCast_add]
      · have c4 : l[i].op = 4 := by simpa [crs, c3] using cm
        have c3' : ¬ (srtO l[i].op : Int) = 3 := by omega
        rw [c4] at hSo hQ tin
        have e2 := srtO4
        rw [e2] at hSo
        simp [go_sem, hR, hSo, r1, r2, hl.is, hl.rows, rtR_len, h', e1, e3, loadAt, V.cells, evStore, splice, hln, hl0, tl, tin, hd0, hQ, hsl.is, q1, hT, c4, -Int.natCast_add]
    | false =>
      rw [cm] at hstep
      simp only [Bool.false_eq_true, if_false, setW_zero] at hstep
      rw [← hstep] at h
      have c3 : ¬ srtO l[i].op = 3 := fun e => by simp [crs, e] at cm
      have c4 : ¬ l[i].op = 4 := fun e => by simp [crs, e] at cm
      have c3' : ¬ (srtO l[i].op : Int) = 3 := by omega
      obtain ⟨H', q3, q4⟩ := H5C (i + 1) (by omega) _ h
      refine ⟨H', ?_, q4⟩
      rw [← q3, ← hB]
      conv => lhs; rw [s_loop_at hB]
      simp only [ir_undertowref21_Hangl5, ← rep32, xc_zero]
      simp only [inV] at tin
      generalize rtV l[i] = y at *
      generalize xc (rAt l i) = x1 at *
      generalize xc (fun _ => 0) = x0 at *
      have hd0 : List.drop 32 x0 = [] := List.drop_of_length_le (by omega)
      simp [go_sem, hR, hSo, r1, r2, hl.is, hl.rows, rtR_len, h', e1, e3, loadAt, V.cells, evStore, splice, hln, hl0, tl, tin, hd0, c3, c3', c4, hT, -Int.natCast_add]
  · obtain rfl : i = l.length := by omega
    refine ⟨H, ?_, h⟩
    rw [← hB, s_loop_at hB]
    simp [ir_undertowref21_Hangl5, go_sem, hl.is, hl.rows, rtR_len]
termination_by l.length - i
end
end Go.Proofs.YtkdgcgkmgcmaiaaDoor
