/- Layer 21: instructions that retired; going along a list (no claim; lemmas). -/
import Derived.Test.YtccdkkgimaajbaaDoorK21e
set_option linter.unusedSimpArgs false
set_option linter.unusedVariables false
namespace Go.Proofs.YtccdkkgimaajbaaDoor
open Go Go.Vm

/-- Instructions, and such that retired, as rows. -/
def inR (l : List In) : List (List V) := l.map inV
theorem inR_len (l : List In) : (inR l).length = l.length := by simp [inR]
theorem inR_el (l : List In) (i : Nat) (h : i < (inR l).length) : (inR l)[i] = inV (l[i]'(by simpa [inR] using h)) := by simp [inR]
def rtV (x : In) : List V := [.int .u64 0] ++ inV x ++ [.int .i64 0, .int .u64 0, .int .u64 0, .int .u64 0, .int .u64 0, .bool false, .int .i64 0, .flt 0, .int .i64 0, .int .i64 0, .int .i64 0, .int .i64 0, .int .i64 0, .int .i64 0, .int .i64 0, .int .i64 0, .int .i64 0]
def rtR (l : List In) : List (List V) := l.map rtV
theorem rtR_len (l : List In) : (rtR l).length = l.length := by simp [rtR]
theorem rtR_el (l : List In) (i : Nat) (h : i < (rtR l).length) : (rtR l)[i] = rtV (l[i]'(by simpa [rtR] using h)) := by simp [rtR]
theorem rtV_len (x : In) : (rtV x).length = 27 := rfl
theorem rtR_imm (l : List In) : immAll (rtR l) = true := by
  simp [immAll, rtR, rtV, inV, V.imm]
theorem rtR_sz (l : List In) : szAll 27 (rtR l) = true := by
  simp [szAll, rtR, rtV_len]
theorem app_oneR {m : Mem} {l : List In} {x : In} (ht : m.tk[0]? = some l.length) (hl : (l.length + 1) * 208 ≤ 140737488355328) :
    appV 2 27 208 m (.osl false 0 (rtR l)) (.els [rtV x]) = some (.osl false 0 (rtR (l ++ [x])), { m with tk := m.tk.set 0 (l.length + 1) }) := by
  have e : rtR (l ++ [x]) = rtR l ++ [rtV x] := by simp [rtR]
  have h1 : immAll (rtR l ++ [rtV x]) = true := by rw [← e]; exact rtR_imm _
  have h2 : szAll 27 (rtR l ++ [rtV x]) = true := by rw [← e]; exact rtR_sz _
  unfold appV
  simp only [srcV, List.length_singleton, e, h1, h2, rtR_len, ht, fits_of (b := 208) (n := l.length + 1) (by omega) (by omega), Bool.and_self, if_true, Bool.false_eq_true, if_false]
theorem rt_fill (x : In) : fill [.int .u64 0, .int .i64 0, .int .i64 0, .int .i64 0, .int .i64 0, .int .i64 0, .bool false, .bool false, .int .i64 0, .int .i64 0, .int .i64 0, .int .u64 0, .int .u64 0, .int .u64 0, .int .u64 0, .bool false] [(1, 9, .agg (inV x))] = some ([.int .u64 0] ++ inV x ++ [.int .i64 0, .int .u64 0, .int .u64 0, .int .u64 0, .int .u64 0, .bool false]) := rfl
/-! ### along -/
/-- Roots at a place. -/
def rAt (l : List In) : Nat → Nat → Nat
  | 0 => fun _ => 0
  | i + 1 => match l[i]? with
    | some x => bhd (rAt l i) i x
    | none => rAt l i
theorem rAt_succ {l : List In} {i : Nat} (h : i < l.length) : rAt l (i + 1) = bhd (rAt l i) i l[i] := by
  simp [rAt, h]
theorem rAt_lt (l : List In) : ∀ (i r : Nat), r < 32 → rAt l i r < 2 ^ i
  | 0, r, _ => by simp [rAt]
  | i + 1, r, hr => by
    have ih : ∀ r, r < 32 → rAt l i r < 2 ^ (i + 1) := fun r hr => Nat.lt_trans (rAt_lt l i r hr) (Nat.pow_lt_pow_right (by omega) (by omega))
    unfold rAt
    cases l[i]? with
    | some x => exact bhd_lt ih (by omega) _ r hr
    | none => exact ih r hr
/-- Rows, with one place more in some. -/
def addL (b : Nat) (q : List Nat) (W : Nat → Nat) : Nat → Nat := fun a => if a ∈ q then W a ||| 2 ^ b else W a
theorem addL_cons (b a : Nat) (q : List Nat) (W : Nat → Nat) : addL b (a :: q) W = addL b q (fun c => if c = a then W a ||| 2 ^ b else W c) := by
  funext c
  unfold addL
  by_cases h1 : c = a
  · subst h1
    by_cases h2 : c ∈ q
    · simp [h2, Nat.or_assoc]
    · simp [h2]
  · by_cases h2 : c ∈ q
    · simp [h1, h2]
    · simp [h1, h2]
def nL (q : List Nat) : List Int := q.map fun a : Nat => (a : Int)
theorem nL_len (q : List Nat) : (nL q).length = q.length := by simp [nL]
section
variable {r : Nat} {v : V} {n T : Nat} {I : Nat → Nat} (f : V) (x : Nat) (at' : Nat) (hat : at' < n) (u9 a10 a11 : V) (y : List V) (uv : V) (q : List Nat) (hu : Sl uv (iI (nL q))) (hq : ∀ a ∈ q, a < n) (hql : q.length ≤ 1000)
include hat hu hq hql
theorem along_in (j : Nat) (hj : j ≤ q.length) (W : Nat → Nat) (H : List Vm.Obj) (h : RelAt H r v n T I W) :
    ∃ H', evCI pg (.loop ir_deps_alongl0) ⟨[.undef, f, .undef, .ptr r 0 0, .ptr x 0 0, .int .i64 (at' : Int), .lp 0 0, .undef, .undef, u9, a10, a11, .undef, uv, .int .i64 (q.length : Int), .int .i64 (j : Int), .undef], ⟨[y], [], H⟩⟩ =
        some (.exit 2, ⟨[.undef, f, .undef, .ptr r 0 0, .ptr x 0 0, .int .i64 (at' : Int), .lp 0 0, .undef, .undef, u9, a10, a11, .undef, uv, .int .i64 (q.length : Int), .int .i64 (q.length : Int), .bool false], ⟨[y], [], H'⟩⟩) ∧
      RelAt H' r v n T I (addL at' (q.drop j) W) ∧ (∀ o, (∀ a, a < n → o ≠ I a) → H'[o]? = H[o]?) ∧ H'.length = H.length := by
  obtain ⟨B, hB⟩ : ∃ B, B = C.loop ir_deps_alongl0 := ⟨_, rfl⟩
  by_cases c : j < q.length
  · have e1 := fun m => hu.ia (sz := 1) m .i64 (i := j) (by rw [iI_len, nL_len]; exact c) (by simp [iI])
    simp only [iI_el] at e1
    have e1' : (nL q)[j]'(by rw [nL_len]; exact c) = ((q[j] : Nat) : Int) := by simp [nL]
    simp only [e1'] at e1
    have e3 := succ_i64 c (by omega)
    have ha := hq q[j] (List.getElem_mem c)
    have hA := Add_ok h q[j] at' ha hat
    have h1 := h.set ha (W q[j] ||| 2 ^ at') (bit_lt (h.lt _ ha) hat)
    obtain ⟨H', r1, r2, r3, r4⟩ := along_in (j + 1) (by omega) _ _ h1
    rw [List.drop_eq_getElem_cons c, addL_cons]
    refine ⟨H', ?_, r2, fun o ho => by rw [r3 o ho, List.getElem?_set_ne (Ne.symm (ho _ ha))], by rw [r4, List.length_set]⟩
    rw [← r1, ← hB]
    conv => lhs; rw [s_loop_at hB]
    simp [ir_deps_alongl0, go_sem, c, e1, e3, hA, hu.is, -Int.natCast_add]
  · obtain rfl : j = q.length := by omega
    refine ⟨H, ?_, ?_, fun _ _ => rfl, rfl⟩
    · rw [← hB, s_loop_at hB]
      simp [ir_deps_alongl0, go_sem]
    · rw [List.drop_length]
      have : addL at' [] W = W := by funext a; simp [addL]
      rw [this]; exact h
termination_by q.length - j
end
/-- What each thing has, of the places ahead of one. -/
def aW (D : Nat → Nat) : Nat → Nat → Nat
  | 0 => fun _ => 0
  | i + 1 => addL i (sb 512 (D i).testBit) (aW D i)
set_option maxRecDepth 100000 in
theorem rep256 : List.replicate 256 (V.int .u64 0) = [.int .u64 0, .int .u64 0, .int .u64 0, .int .u64 0, .int .u64 0, .int .u64 0, .int .u64 0, .int .u64 0, .int .u64 0, .int .u64 0, .int .u64 0, .int .u64 0, .int .u64 0, .int .u64 0, .int .u64 0, .int .u64 0, .int .u64 0, .int .u64 0, .int .u64 0, .int .u64 0, .int .u64 0, .int .u64 0, .int .u64 0, .int .u64 0, .int .u64 0, .int .u64 0, .int .u64 0, .int .u64 0, .int .u64 0, .int .u64 0, .int .u64 0, .int .u64 0, .int .u64 0, .int .u64 0, .int .u64 0, .int .u64 0, .int .u64 0, .int .u64 0, .int .u64 0, .int .u64 0, .int .u64 0, .int .u64 0, .int .u64 0, .int .u64 0, .int .u64 0, .int .u64 0, .int .u64 0, .int .u64 0, .int .u64 0, .int .u64 0, .int .u64 0, .int .u64 0, .int .u64 0, .int .u64 0, .int .u64 0, .int .u64 0, .int .u64 0, .int .u64 0, .int .u64 0, .int .u64 0, .int .u64 0, .int .u64 0, .int .u64 0, .int .u64 0, .int .u64 0, .int .u64 0, .int .u64 0, .int .u64 0, .int .u64 0, .int .u64 0, .int .u64 0, .int .u64 0, .int .u64 0, .int .u64 0, .int .u64 0, .int .u64 0, .int .u64 0, .int .u64 0, .int .u64 0, .int .u64 0, .int .u64 0, .int .u64 0, .int .u64 0, .int .u64 0, .int .u64 0, .int .u64 0, .int .u64 0, .int .u64 0, .int .u64 0, .int .u64 0, .int .u64 0, .int .u64 0, .int .u64 0, .int .u64 0, .int .u64 0, .int .u64 0, .int .u64 0, .int .u64 0, .int .u64 0, .int .u64 0, .int .u64 0, .int .u64 0, .int .u64 0, .int .u64 0, .int .u64 0, .int .u64 0, .int .u64 0, .int .u64 0, .int .u64 0, .int .u64 0, .int .u64 0, .int .u64 0, .int .u64 0, .int .u64 0, .int .u64 0, .int .u64 0, .int .u64 0, .int .u64 0, .int .u64 0, .int .u64 0, .int .u64 0, .int .u64 0, .int .u64 0, .int .u64 0, .int .u64 0, .int .u64 0, .int .u64 0, .int .u64 0, .int .u64 0, .int .u64 0, .int .u64 0, .int .u64 0, .int .u64 0, .int .u64 0, .int .u64 0, .int .u64 0, .int .u64 0, .int .u64 0, .int .u64 0, .int .u64 0, .int .u64 0, .int .u64 0, .int .u64 0, .int .u64 0, .int .u64 0, .int .u64 0, .int .u64 0, .int .u64 0, .int .u64 0, .int .u64 0, .int .u64 0, .int .u64 0, .int .u64 0, .int .u64 0, .int .u64 0, .int .u64 0, .int .u64 0, .int .u64 0, .int .u64 0, .int .u64 0, .int .u64 0, .int .u64 0, .int .u64 0, .int .u64 0, .int .u64 0, .int .u64 0, .int .u64 0, .int .u64 0, .int .u64 0, .int .u64 0, .int .u64 0, .int .u64 0, .int .u64 0, .int .u64 0, .int .u64 0, .int .u64 0, .int .u64 0, .int .u64 0, .int .u64 0, .int .u64 0, .int .u64 0, .int .u64 0, .int .u64 0, .int .u64 0, .int .u64 0, .int .u64 0, .int .u64 0, .int .u64 0, .int .u64 0, .int .u64 0, .int .u64 0, .int .u64 0, .int .u64 0, .int .u64 0, .int .u64 0, .int .u64 0, .int .u64 0, .int .u64 0, .int .u64 0, .int .u64 0, .int .u64 0, .int .u64 0, .int .u64 0, .int .u64 0, .int .u64 0, .int .u64 0, .int .u64 0, .int .u64 0, .int .u64 0, .int .u64 0, .int .u64 0, .int .u64 0, .int .u64 0, .int .u64 0, .int .u64 0, .int .u64 0, .int .u64 0, .int .u64 0, .int .u64 0, .int .u64 0, .int .u64 0, .int .u64 0, .int .u64 0, .int .u64 0, .int .u64 0, .int .u64 0, .int .u64 0, .int .u64 0, .int .u64 0, .int .u64 0, .int .u64 0, .int .u64 0, .int .u64 0, .int .u64 0, .int .u64 0, .int .u64 0, .int .u64 0, .int .u64 0, .int .u64 0, .int .u64 0, .int .u64 0, .int .u64 0, .int .u64 0, .int .u64 0, .int .u64 0, .int .u64 0, .int .u64 0, .int .u64 0, .int .u64 0, .int .u64 0, .int .u64 0, .int .u64 0, .int .u64 0, .int .u64 0, .int .u64 0, .int .u64 0] := rfl
theorem rc_zero : List.replicate 256 (V.int .u64 0) = rc (fun _ => 0) := by
  have e : ∀ j, wd 0 j = 0 := fun j => by unfold wd; rw [Nat.zero_div, Nat.zero_mod]
  apply List.ext_getElem
  · rw [List.length_replicate, rc_len]
  · intro i h1 h2
    rw [List.getElem_replicate, rc_el, e]; rfl
end Go.Proofs.YtccdkkgimaajbaaDoor
