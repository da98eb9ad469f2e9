/- Without fences, annotations and registers that hang, of events that share no byte there are no pairs: the loops of the law PpoFree that build its list (no claim; lemmas). -/
import Derived.Test.YtccdkkgimaajbaaDoorK22x
set_option linter.unusedSimpArgs false
set_option linter.unusedVariables false
set_option maxRecDepth 20000
namespace Go.Proofs.YtccdkkgimaajbaaDoor
open Go Go.Vm

theorem pv_u8s {n : Nat} : ∀ es : List (List V), (∀ q ∈ es, PV Tryd.prog (n + 1) 5 q) → ∃ l : List Nat, es = byV l ∧ ∀ b ∈ l, b < 256
  | [], _ => ⟨[], rfl, by simp⟩
  | q :: es, h => by
    obtain ⟨w, rfl, hw⟩ := pv_u8 Tryd.underlying5 (h q (by simp))
    obtain ⟨l, rfl, hl⟩ := pv_u8s es fun q hq => h q (by simp [hq])
    refine ⟨w :: l, rfl, fun x hx => ?_⟩
    rcases List.mem_cons.1 hx with rfl | hx
    · exact hw
    · exact hl x hx
theorem arg_u8s {n : Nat} {v : V} (h : ArgPV Tryd.prog (n + 2) 22 v) : ∃ l : List Nat, Sl v (byV l) ∧ (∀ b ∈ l, b < 256) ∧ l.length ≤ maxLen := by
  rcases arg_slice Tryd.underlying22 h with rfl | ⟨es, rfl, hl, hes⟩
  · exact ⟨[], .nils, by simp, by simp [maxLen]⟩
  · obtain ⟨l, rfl, hok⟩ := pv_u8s es hes
    refine ⟨l, .isl _ _, hok, ?_⟩
    rwa [byV_len] at hl
def rw8 (ops adr : List Nat) (i : Nat) : Rt := rt1 ((11 + ops.getD i 0 % 11 : Nat) : Int) (i : Int) (adr.getD i 0)
def frN (ops adr : List Nat) : Nat := min (min ops.length adr.length) 20
def frL (ops adr : List Nat) (m : Nat) : List Rt := (List.range m).map (rw8 ops adr)
theorem frL_len (ops adr : List Nat) (m : Nat) : (frL ops adr m).length = m := by simp [frL]
theorem frL_succ (ops adr : List Nat) (m : Nat) : frL ops adr (m + 1) = frL ops adr m ++ [rw8 ops adr m] := by simp [frL, List.range_succ]
theorem frL_pln (ops adr : List Nat) (hadr : ∀ b ∈ adr, b < 256) (m : Nat) : ∀ r ∈ frL ops adr m, pln r := by
  intro r hr
  obtain ⟨i, _, rfl⟩ := List.mem_map.1 hr
  refine ⟨_, _, _, rfl, by omega, by omega, ?_⟩
  rw [List.getD_eq_getElem?_getD]
  cases h : adr[i]? with
  | none => simp
  | some b => exact hadr b (List.mem_of_getElem? h)
/-- The list that grows, and its memory. -/
def frV (ops adr : List Nat) (i : Nat) : V := if i = 0 then .nils else .osl true 1 (rwR (frL ops adr i))
def frH (Z : Vm.Obj) (i : Nat) : List Vm.Obj := if i = 0 then [Z] else [Z, .tok i]
theorem rwR_imm' (l : List Rt) : immAll (rwR l) = true := by
  simp only [immAll, rwR, List.all_eq_true, List.mem_map]
  rintro _ ⟨r, _, rfl⟩
  exact rC_all r (fun v => v.imm = true) (fun _ _ => rfl) (fun _ => rfl) (fun _ => rfl)
theorem rwR_szA' (l : List Rt) : szAll 27 (rwR l) = true := by
  simp only [szAll, List.all_eq_true]
  intro e he
  rw [rwR_sz l e he]
  rfl
theorem app_fr (ops adr : List Nat) (Z : Vm.Obj) (i : Nat) (hi : i < 1000) (vs : List (List V)) (tk : List Nat) :
    appV 2 27 208 ⟨vs, tk, frH Z i⟩ (frV ops adr i) (.els [rC (rw8 ops adr i)]) = some (frV ops adr (i + 1), ⟨vs, tk, frH Z (i + 1)⟩) := by
  have hf : ∀ n, n ≤ 1000 → fits 208 n = true := fun n hn => fits_of (by omega) (by omega)
  have e : rwR (frL ops adr (i + 1)) = rwR (frL ops adr i) ++ [rC (rw8 ops adr i)] := by rw [frL_succ]; simp [rwR]
  have him := rwR_imm' (frL ops adr (i + 1))
  have hsz := rwR_szA' (frL ops adr (i + 1))
  rw [e] at him hsz
  have hl : (rwR (frL ops adr i)).length = i := by rw [rwR_len, frL_len]
  unfold frV frH
  rw [e]
  by_cases c : i = 0
  · subst c
    have e0 : rwR (frL ops adr 0) = [] := rfl
    rw [e0] at him hsz ⊢
    simp only [List.nil_append] at him hsz
    have hf1 := hf 1 (by omega)
    unfold appV
    simp only [srcV, if_true, List.isEmpty_cons, Bool.false_eq_true, if_false, List.length_singleton, hf1, hsz, him, Bool.and_self, Bool.not_true, Nat.zero_add, Nat.succ_ne_zero, Nat.one_ne_zero]
    rfl
  · have hi1 : ¬ i + 1 = 0 := by omega
    rw [if_neg c, if_neg c, if_neg hi1, if_neg hi1]
    have hf1 := hf (i + 1) (by omega)
    unfold appV
    simp only [srcV, hl, List.length_singleton, hf1, him, hsz, Bool.and_self, if_true]
    simp
section
variable {opv adv : V} {ops adr : List Nat} (ho : Sl opv (byV ops)) (hd : Sl adv (byV adr)) (ho8 : ∀ b ∈ ops, b < 256) (hd8 : ∀ b ∈ adr, b < 256) (hol : ops.length ≤ maxLen) (hdl : adr.length ≤ maxLen) (A : List (List V)) (Z : Vm.Obj)
include ho hd ho8 hd8
theorem Free_l0_0 (i : Nat) (hi : i ≤ frN ops adr) :
    evCI pg (.loop ir_undertowlaw22_PpoFreel0) ⟨[.undef, opv, adv, .undef, .lp 0 0, .int .i64 0, .int .i64 (i : Int), .undef, .undef, .undef, .undef, .undef, .undef, .undef, .undef, .undef, .undef, .undef, .undef, .undef, .undef, .undef, .undef, .undef, .undef, .undef, .undef], ⟨[[.isl false A, frV ops adr i, .nils, .nils, .rsl 0 0 200], [], []], [], frH Z i⟩⟩ =
      some (.exit 0, ⟨[.undef, opv, adv, .undef, .lp 0 0, .int .i64 0, .int .i64 (frN ops adr : Int), .undef, .undef, .undef, .undef, .undef, .undef, .undef, .undef, .undef, .undef, .undef, .undef, .bool false, .undef, .undef, .undef, .undef, .undef, .undef, .undef], ⟨[[.isl false A, frV ops adr (frN ops adr), .nils, .nils, .rsl 0 0 200], [], []], [], frH Z (frN ops adr)⟩⟩) := by
  obtain ⟨B, hB⟩ : ∃ B, B = C.loop ir_undertowlaw22_PpoFreel0 := ⟨_, rfl⟩
  have hor : (rows opv).length = ops.length := by rw [ho.rows, byV_len]
  have hdr : (rows adv).length = adr.length := by rw [hd.rows, byV_len]
  have hN : frN ops adr = min (min ops.length adr.length) 20 := rfl
  by_cases h : i < frN ops adr
  · have h1 : i < ops.length := by omega
    have h2 : i < adr.length := by omega
    have h3 : i < 20 := by omega
    have h3' : (i : Int) < 20 := by omega
    have e3 := succ_i64 h3 (by omega)
    have e1 := fun m => ho.ia (sz := 1) m .i64 (i := i) (by rw [byV_len]; exact h1) (by simp [byV])
    have e2 := fun m => hd.ia (sz := 1) m .i64 (i := i) (by rw [byV_len]; exact h2) (by simp [byV])
    simp only [byV_el] at e1 e2
    have b1 := ho8 _ (List.getElem_mem h1)
    have b2 := hd8 _ (List.getElem_mem h2)
    have g1 : ops.getD i 0 = ops[i] := by rw [List.getD_eq_getElem?_getD, List.getElem?_eq_getElem h1]; rfl
    have g2 : adr.getD i 0 = adr[i] := by rw [List.getD_eq_getElem?_getD, List.getElem?_eq_getElem h2]; rfl
    have happ := app_fr ops adr Z i (by omega)
    have hone := oneR_ok ((11 + ops[i] % 11 : Nat) : Int) (i : Int) adr[i]
    have hrw : rw8 ops adr i = rt1 ((11 + ops[i] % 11 : Nat) : Int) (i : Int) adr[i] := by unfold rw8; rw [g1, g2]
    rw [hrw] at happ
    have w1 : IntKind.i64.wrap (ops[i] : Int) = (ops[i] : Int) := i64_small (by omega)
    have w2 : ((ops[i] : Int)).tmod 11 = ((ops[i] % 11 : Nat) : Int) := by rw [Int.tmod_eq_emod_of_nonneg (by omega)]; omega
    have w3 : IntKind.i64.wrap (11 + ((ops[i] % 11 : Nat) : Int)) = ((11 + ops[i] % 11 : Nat) : Int) := by rw [i64_small (by omega)]; omega
    have w4 : IntKind.u64.wrap (adr[i] : Int) = (adr[i] : Int) := wrap_u64' (by omega)
    have ih := Free_l0_0 (i + 1) (by omega)
    have hsl : ∀ q, slotV q (frV ops adr i) = some (frV ops adr i) := fun q => by unfold frV; split <;> rfl
    have hex : (frV ops adr (i + 1)).exp = some (frV ops adr (i + 1)) := by unfold frV; split <;> rfl
    have hce : (frV ops adr (i + 1)).cells = [frV ops adr (i + 1)] := by unfold frV; split <;> rfl
    have hfp : ∀ L, fpR L opv = .no := ho.fpR
    have hfp2 : ∀ L, fpR L adv = .no := hd.fpR
    have hfl := eq_true (rC_all (rt1 ((11 + ops[i] % 11 : Nat) : Int) (i : Int) adr[i]) (fun v => v.flat = true) (fun _ _ => rfl) (fun _ => rfl) (fun _ => rfl))
    rw [← ih, ← hB]
    conv => lhs; rw [s_loop_at hB]
    clear ih
    generalize ops[i] = o at *
    generalize adr[i] = d at *
    generalize 11 + o % 11 = k at *
    generalize o % 11 = k0 at *
    generalize rt1 (k : Int) (i : Int) d = r at *
    simp [ir_undertowlaw22_PpoFreel0, go_sem, ho.is, hd.is, hor, hdr, h1, h2, h3, h3', e1, e2, e3, w1, w2, w3, w4, hone, happ, hsl, hex, hce, hfp, hfp2, hfl, litParts, evStore, splice, -Int.natCast_add]
  · have e : i = frN ops adr := by omega
    rw [← e, ← hB, s_loop_at hB]
    by_cases h1 : i < ops.length
    · by_cases h2 : i < adr.length
      · have h3 : ¬ i < 20 := by omega
        have h3' : ¬ (i : Int) < 20 := by omega
        simp [ir_undertowlaw22_PpoFreel0, go_sem, ho.is, hd.is, hor, hdr, h1, h2, h3, h3']
      · simp [ir_undertowlaw22_PpoFreel0, go_sem, ho.is, hd.is, hor, hdr, h1, h2]
    · simp [ir_undertowlaw22_PpoFreel0, go_sem, ho.is, hd.is, hor, hdr, h1]
termination_by frN ops adr - i
theorem Free_l0_1 (i : Nat) (hi : i ≤ frN ops adr) :
    evCI pg (.loop ir_undertowlaw22_PpoFreel0) ⟨[.undef, opv, adv, .undef, .lp 0 0, .int .i64 1, .int .i64 (i : Int), .undef, .undef, .undef, .undef, .undef, .undef, .undef, .undef, .undef, .undef, .undef, .undef, .undef, .undef, .undef, .undef, .undef, .undef, .undef, .undef], ⟨[[.isl false A, .nils, frV ops adr i, .nils, .rsl 0 0 200], [], []], [], frH Z i⟩⟩ =
      some (.exit 0, ⟨[.undef, opv, adv, .undef, .lp 0 0, .int .i64 1, .int .i64 (frN ops adr : Int), .undef, .undef, .undef, .undef, .undef, .undef, .undef, .undef, .undef, .undef, .undef, .undef, .bool false, .undef, .undef, .undef, .undef, .undef, .undef, .undef], ⟨[[.isl false A, .nils, frV ops adr (frN ops adr), .nils, .rsl 0 0 200], [], []], [], frH Z (frN ops adr)⟩⟩) := by
  obtain ⟨B, hB⟩ : ∃ B, B = C.loop ir_undertowlaw22_PpoFreel0 := ⟨_, rfl⟩
  have hor : (rows opv).length = ops.length := by rw [ho.rows, byV_len]
  have hdr : (rows adv).length = adr.length := by rw [hd.rows, byV_len]
  have hN : frN ops adr = min (min ops.length adr.length) 20 := rfl
  by_cases h : i < frN ops adr
  · have h1 : i < ops.length := by omega
    have h2 : i < adr.length := by omega
    have h3 : i < 20 := by omega
    have h3' : (i : Int) < 20 := by omega
    have e3 := succ_i64 h3 (by omega)
    have e1 := fun m => ho.ia (sz := 1) m .i64 (i := i) (by rw [byV_len]; exact h1) (by simp [byV])
    have e2 := fun m => hd.ia (sz := 1) m .i64 (i := i) (by rw [byV_len]; exact h2) (by simp [byV])
    simp only [byV_el] at e1 e2
    have b1 := ho8 _ (List.getElem_mem h1)
    have b2 := hd8 _ (List.getElem_mem h2)
    have g1 : ops.getD i 0 = ops[i] := by rw [List.getD_eq_getElem?_getD, List.getElem?_eq_getElem h1]; rfl
    have g2 : adr.getD i 0 = adr[i] := by rw [List.getD_eq_getElem?_getD, List.getElem?_eq_getElem h2]; rfl
    have happ := app_fr ops adr Z i (by omega)
    have hone := oneR_ok ((11 + ops[i] % 11 : Nat) : Int) (i : Int) adr[i]
    have hrw : rw8 ops adr i = rt1 ((11 + ops[i] % 11 : Nat) : Int) (i : Int) adr[i] := by unfold rw8; rw [g1, g2]
    rw [hrw] at happ
    have w1 : IntKind.i64.wrap (ops[i] : Int) = (ops[i] : Int) := i64_small (by omega)
    have w2 : ((ops[i] : Int)).tmod 11 = ((ops[i] % 11 : Nat) : Int) := by rw [Int.tmod_eq_emod_of_nonneg (by omega)]; omega
    have w3 : IntKind.i64.wrap (11 + ((ops[i] % 11 : Nat) : Int)) = ((11 + ops[i] % 11 : Nat) : Int) := by rw [i64_small (by omega)]; omega
    have w4 : IntKind.u64.wrap (adr[i] : Int) = (adr[i] : Int) := wrap_u64' (by omega)
    have ih := Free_l0_1 (i + 1) (by omega)
    have hsl : ∀ q, slotV q (frV ops adr i) = some (frV ops adr i) := fun q => by unfold frV; split <;> rfl
    have hex : (frV ops adr (i + 1)).exp = some (frV ops adr (i + 1)) := by unfold frV; split <;> rfl
    have hce : (frV ops adr (i + 1)).cells = [frV ops adr (i + 1)] := by unfold frV; split <;> rfl
    have hfp : ∀ L, fpR L opv = .no := ho.fpR
    have hfp2 : ∀ L, fpR L adv = .no := hd.fpR
    have hfl := eq_true (rC_all (rt1 ((11 + ops[i] % 11 : Nat) : Int) (i : Int) adr[i]) (fun v => v.flat = true) (fun _ _ => rfl) (fun _ => rfl) (fun _ => rfl))
    rw [← ih, ← hB]
    conv => lhs; rw [s_loop_at hB]
    clear ih
    generalize ops[i] = o at *
    generalize adr[i] = d at *
    generalize 11 + o % 11 = k at *
    generalize o % 11 = k0 at *
    generalize rt1 (k : Int) (i : Int) d = r at *
    simp [ir_undertowlaw22_PpoFreel0, go_sem, ho.is, hd.is, hor, hdr, h1, h2, h3, h3', e1, e2, e3, w1, w2, w3, w4, hone, happ, hsl, hex, hce, hfp, hfp2, hfl, litParts, evStore, splice, -Int.natCast_add]
  · have e : i = frN ops adr := by omega
    rw [← e, ← hB, s_loop_at hB]
    by_cases h1 : i < ops.length
    · by_cases h2 : i < adr.length
      · have h3 : ¬ i < 20 := by omega
        have h3' : ¬ (i : Int) < 20 := by omega
        simp [ir_undertowlaw22_PpoFreel0, go_sem, ho.is, hd.is, hor, hdr, h1, h2, h3, h3']
      · simp [ir_undertowlaw22_PpoFreel0, go_sem, ho.is, hd.is, hor, hdr, h1, h2]
    · simp [ir_undertowlaw22_PpoFreel0, go_sem, ho.is, hd.is, hor, hdr, h1]
termination_by frN ops adr - i
theorem Free_l0_2 (i : Nat) (hi : i ≤ frN ops adr) :
    evCI pg (.loop ir_undertowlaw22_PpoFreel0) ⟨[.undef, opv, adv, .undef, .lp 0 0, .int .i64 2, .int .i64 (i : Int), .undef, .undef, .undef, .undef, .undef, .undef, .undef, .undef, .undef, .undef, .undef, .undef, .undef, .undef, .undef, .undef, .undef, .undef, .undef, .undef], ⟨[[.isl false A, .nils, .nils, frV ops adr i, .rsl 0 0 200], [], []], [], frH Z i⟩⟩ =
      some (.exit 0, ⟨[.undef, opv, adv, .undef, .lp 0 0, .int .i64 2, .int .i64 (frN ops adr : Int), .undef, .undef, .undef, .undef, .undef, .undef, .undef, .undef, .undef, .undef, .undef, .undef, .bool false, .undef, .undef, .undef, .undef, .undef, .undef, .undef], ⟨[[.isl false A, .nils, .nils, frV ops adr (frN ops adr), .rsl 0 0 200], [], []], [], frH Z (frN ops adr)⟩⟩) := by
  obtain ⟨B, hB⟩ : ∃ B, B = C.loop ir_undertowlaw22_PpoFreel0 := ⟨_, rfl⟩
  have hor : (rows opv).length = ops.length := by rw [ho.rows, byV_len]
  have hdr : (rows adv).length = adr.length := by rw [hd.rows, byV_len]
  have hN : frN ops adr = min (min ops.length adr.length) 20 := rfl
  by_cases h : i < frN ops adr
  · have h1 : i < ops.length := by omega
    have h2 : i < adr.length := by omega
    have h3 : i < 20 := by omega
    have h3' : (i : Int) < 20 := by omega
    have e3 := succ_i64 h3 (by omega)
    have e1 := fun m => ho.ia (sz := 1) m .i64 (i := i) (by rw [byV_len]; exact h1) (by simp [byV])
    have e2 := fun m => hd.ia (sz := 1) m .i64 (i := i) (by rw [byV_len]; exact h2) (by simp [byV])
    simp only [byV_el] at e1 e2
    have b1 := ho8 _ (List.getElem_mem h1)
    have b2 := hd8 _ (List.getElem_mem h2)
    have g1 : ops.getD i 0 = ops[i] := by rw [List.getD_eq_getElem?_getD, List.getElem?_eq_getElem h1]; rfl
    have g2 : adr.getD i 0 = adr[i] := by rw [List.getD_eq_getElem?_getD, List.getElem?_eq_getElem h2]; rfl
    have happ := app_fr ops adr Z i (by omega)
    have hone := oneR_ok ((11 + ops[i] % 11 : Nat) : Int) (i : Int) adr[i]
    have hrw : rw8 ops adr i = rt1 ((11 + ops[i] % 11 : Nat) : Int) (i : Int) adr[i] := by unfold rw8; rw [g1, g2]
    rw [hrw] at happ
    have w1 : IntKind.i64.wrap (ops[i] : Int) = (ops[i] : Int) := i64_small (by omega)
    have w2 : ((ops[i] : Int)).tmod 11 = ((ops[i] % 11 : Nat) : Int) := by rw [Int.tmod_eq_emod_of_nonneg (by omega)]; omega
    have w3 : IntKind.i64.wrap (11 + ((ops[i] % 11 : Nat) : Int)) = ((11 + ops[i] % 11 : Nat) : Int) := by rw [i64_small (by omega)]; omega
    have w4 : IntKind.u64.wrap (adr[i] : Int) = (adr[i] : Int) := wrap_u64' (by omega)
    have ih := Free_l0_2 (i + 1) (by omega)
    have hsl : ∀ q, slotV q (frV ops adr i) = some (frV ops adr i) := fun q => by unfold frV; split <;> rfl
    have hex : (frV ops adr (i + 1)).exp = some (frV ops adr (i + 1)) := by unfold frV; split <;> rfl
    have hce : (frV ops adr (i + 1)).cells = [frV ops adr (i + 1)] := by unfold frV; split <;> rfl
    have hfp : ∀ L, fpR L opv = .no := ho.fpR
    have hfp2 : ∀ L, fpR L adv = .no := hd.fpR
    have hfl := eq_true (rC_all (rt1 ((11 + ops[i] % 11 : Nat) : Int) (i : Int) adr[i]) (fun v => v.flat = true) (fun _ _ => rfl) (fun _ => rfl) (fun _ => rfl))
    rw [← ih, ← hB]
    conv => lhs; rw [s_loop_at hB]
    clear ih
    generalize ops[i] = o at *
    generalize adr[i] = d at *
    generalize 11 + o % 11 = k at *
    generalize o % 11 = k0 at *
    generalize rt1 (k : Int) (i : Int) d = r at *
    simp [ir_undertowlaw22_PpoFreel0, go_sem, ho.is, hd.is, hor, hdr, h1, h2, h3, h3', e1, e2, e3, w1, w2, w3, w4, hone, happ, hsl, hex, hce, hfp, hfp2, hfl, litParts, evStore, splice, -Int.natCast_add]
  · have e : i = frN ops adr := by omega
    rw [← e, ← hB, s_loop_at hB]
    by_cases h1 : i < ops.length
    · by_cases h2 : i < adr.length
      · have h3 : ¬ i < 20 := by omega
        have h3' : ¬ (i : Int) < 20 := by omega
        simp [ir_undertowlaw22_PpoFreel0, go_sem, ho.is, hd.is, hor, hdr, h1, h2, h3, h3']
      · simp [ir_undertowlaw22_PpoFreel0, go_sem, ho.is, hd.is, hor, hdr, h1, h2]
    · simp [ir_undertowlaw22_PpoFreel0, go_sem, ho.is, hd.is, hor, hdr, h1]
termination_by frN ops adr - i
end
end Go.Proofs.YtccdkkgimaajbaaDoor
