/- Layer 21: the document's roots: a place into rising ones (no claim; lemmas). -/
import Derived.Test.YtkdgcgkmgcmaiaaDoorK21l
set_option linter.unusedSimpArgs false
set_option linter.unusedVariables false
namespace Go.Proofs.YtkdgcgkmgcmaiaaDoor
open Go Go.Vm

theorem iI_all (l : List Int) : ∀ e ∈ iI l, e.length = 1 := by
  intro e he
  obtain ⟨x, _, rfl⟩ := List.mem_map.1 he
  rfl
theorem app_listI {m : Mem} {a b : List Int} {w : V} (hw : Sl w (iI b)) (ht : m.tk[0]? = some a.length) (hl : a.length + b.length ≤ 100000) :
    appV 2 1 8 m (.osl false 0 (iI a)) w = some (.osl false 0 (iI (a ++ b)), { m with tk := m.tk.set 0 (a.length + b.length) }) := by
  have e : iI (a ++ b) = iI a ++ iI b := by simp [iI]
  have h1 : immAll (iI a ++ iI b) = true := by simp [immAll, iI, V.imm]
  have h2 : szAll 1 (iI a ++ iI b) = true := by simp [szAll, iI]
  unfold appV
  simp only [hw.src, e, h1, h2, iI_len, ht, fits_of (b := 8) (n := a.length + b.length) (by omega) (by omega), Bool.and_self, if_true, Bool.false_eq_true, if_false]
section
variable {v : V} {A R : List Int} {x : Int} (hv : Sl v (iI (A ++ R))) (hl : (A ++ R).length ≤ 2000) (hA : ∀ a ∈ A, a < x) (hR : ∀ a, R.head? = some a → ¬ a < x)
include hv hl hA hR
theorem Into_loop (i : Nat) (hi : i ≤ A.length) (tks : Nat) :
    evCI pg (.loop ir_undertowref21_Intol0) ⟨[v, .int .i64 x, .undef, .osl false 0 (iI (A.take i)), .int .i64 (i : Int), .undef, .undef], ⟨[], [i, tks], []⟩⟩ =
      some (.exit 0, ⟨[v, .int .i64 x, .undef, .osl false 0 (iI A), .int .i64 (A.length : Int), .bool false, .undef], ⟨[], [A.length, tks], []⟩⟩) := by
  obtain ⟨B, hB⟩ : ∃ B, B = C.loop ir_undertowref21_Intol0 := ⟨_, rfl⟩
  have hl2 := hl
  rw [List.length_append] at hl2
  by_cases h : i < A.length
  · have hil : i < (A ++ R).length := by rw [List.length_append]; omega
    have e1 := fun m => hv.ia (sz := 1) m .i64 (i := i) (by rw [iI_len]; exact hil) (iI_all _ _ (List.getElem_mem _))
    simp only [iI_el, List.getElem_append_left h] at e1
    have hlt := hA A[i] (List.getElem_mem h)
    have e3 := succ_i64 h (by omega)
    have ih := Into_loop (i + 1) (by omega) tks
    have htl : (A.take i).length = i := by rw [List.length_take]; omega
    have ea := app_oneI (m := ⟨[], [i, tks], []⟩) (l := A.take i) (x := A[i]) (by rw [htl]; rfl) (by omega)
    rw [htl] at ea
    simp only [List.set_cons_zero] at ea
    have et : A.take i ++ [A[i]] = A.take (i + 1) := by rw [List.take_succ_eq_append_getElem h]
    rw [et] at ea
    have hil2 : i < A.length + R.length := by omega
    rw [← ih, ← hB]
    conv => lhs; rw [s_loop_at hB]
    generalize iI (A.take i) = q1 at *
    generalize iI (A.take (i + 1)) = q2 at *
    generalize A[i] = a at *
    simp [ir_undertowref21_Intol0, go_sem, hil2, e1, e3, hlt, ea, litParts, hv.is, hv.rows, iI_len, -Int.natCast_add]
  · obtain rfl : i = A.length := by omega
    rw [← hB, s_loop_at hB, List.take_length]
    cases R with
    | nil =>
      have hv2 := hv
      rw [List.append_nil] at hv2
      simp [ir_undertowref21_Intol0, go_sem, hv2.is, hv2.rows, iI_len]
    | cons b R =>
      have hnb := hR b rfl
      have hil : A.length < (A ++ b :: R).length := by simp
      have e1 := fun m => hv.ia (sz := 1) m .i64 (i := A.length) (by rw [iI_len]; exact hil) (iI_all _ _ (List.getElem_mem _))
      have eb : (A ++ b :: R)[A.length]'hil = b := by simp
      simp only [iI_el, eb] at e1
      simp [ir_undertowref21_Intol0, go_sem, e1, hnb, hv.is, hv.rows, iI_len, -Int.natCast_add]
termination_by A.length - i
end
/-- Rising ones with one more. -/
theorem Into_ok (v : V) (A R : List Int) (x : Int) (b : Bool) (hv : Sl v (iI (A ++ (if b then [x] else []) ++ R))) (hl : (A ++ R).length ≤ 1000) (hA : ∀ a ∈ A, a < x) (hR : ∀ a ∈ R, x < a) :
    evI pg .val n_undertowref21_Into [v, .int .i64 x] [] = some (ils (iI (A ++ [x] ++ R)), []) := by
  have e0 : iI [] = [] := rfl
  rw [List.length_append] at hl
  have ea := fun t => app_oneI (m := ⟨[], [A.length, t], []⟩) (l := A) (x := x) rfl (by omega)
  simp only [List.set_cons_zero] at ea
  cases b with
  | true =>
    simp only [if_true] at hv
    rw [List.append_assoc] at hv
    have hlen : (A ++ ([x] ++ R)).length = A.length + R.length + 1 := by simp; omega
    have L := Into_loop hv (by rw [hlen]; omega) hA (fun a ha => by simp at ha; omega) 0 (by omega) 0
    rw [List.take_zero, e0, Int.natCast_zero] at L
    have hil : A.length < (A ++ ([x] ++ R)).length := by rw [hlen]; omega
    have e1 := fun m => hv.ia (sz := 1) m .i64 (i := A.length) (by rw [iI_len]; exact hil) (iI_all _ _ (List.getElem_mem _))
    have eb : (A ++ ([x] ++ R))[A.length]'hil = x := by simp
    simp only [iI_el, eb] at e1
    have e3 := succ_i64 hil (by omega)
    have hb : bnd (iI (A ++ ([x] ++ R))).length (iI (A ++ ([x] ++ R))).length (some (.int .i64 ((A.length + 1 : Nat) : Int))) none = some (A.length + 1, (iI (A ++ ([x] ++ R))).length) := bnd_lo (by rw [iI_len, hlen]; omega)
    obtain ⟨w, hw, hs⟩ := sl_slc hv (some (.int .i64 ((A.length + 1 : Nat) : Int))) none (sz := 1) (by omega) (iI_all _) hb
    have ht : ((iI (A ++ ([x] ++ R))).take (iI (A ++ ([x] ++ R))).length).drop (A.length + 1) = iI R := by
      rw [List.take_length]
      have : A ++ ([x] ++ R) = (A ++ [x]) ++ R := by simp
      rw [this]
      unfold iI
      rw [List.map_append, List.drop_left' (by simp)]
    rw [ht] at hs
    have eb2 := fun t => app_listI (m := ⟨[], [A.length + 1, t], []⟩) (a := A ++ [x]) hs (by simp) (by simp; omega)
    simp only [List.set_cons_zero] at eb2
    have hvi := hv.is
    have hvr := hv.rows
    have hrl := iI_len (A ++ ([x] ++ R))
    rw [hlen] at hrl
    have hlt : A.length < A.length + R.length + 1 := by omega
    rw [s_fn fn_undertowref21_Into]
    generalize iI (A ++ ([x] ++ R)) = q0 at *
    generalize iI (A ++ [x] ++ R) = q3 at *
    generalize iI (A ++ [x]) = q2 at *
    generalize iI A = q1 at *
    simp [ir_undertowref21_Into, go_sem, hvi, hvr, hrl, L, ea, litParts, e1, e3, hlt, hw, hs.is, eb2, -Int.natCast_add, -List.length_append]
  | false =>
    simp only [Bool.false_eq_true, if_false, List.append_nil] at hv
    have L := Into_loop hv (by rw [List.length_append]; omega) hA (fun a ha => by
      have := hR a (List.mem_of_mem_head? (by rw [ha]; rfl))
      omega) 0 (by omega) 0
    rw [List.take_zero, e0, Int.natCast_zero] at L
    have hb : bnd (iI (A ++ R)).length (iI (A ++ R)).length (some (.int .i64 (A.length : Int))) none = some (A.length, (iI (A ++ R)).length) := bnd_lo (by rw [iI_len, List.length_append]; omega)
    obtain ⟨w, hw, hs⟩ := sl_slc hv (some (.int .i64 (A.length : Int))) none (sz := 1) (by omega) (iI_all _) hb
    have ht : ((iI (A ++ R)).take (iI (A ++ R)).length).drop A.length = iI R := by
      rw [List.take_length]
      unfold iI
      rw [List.map_append, List.drop_left' (by simp)]
    rw [ht] at hs
    have eb2 := fun t => app_listI (m := ⟨[], [A.length + 1, t], []⟩) (a := A ++ [x]) hs (by simp) (by simp; omega)
    simp only [List.set_cons_zero] at eb2
    have hvi := hv.is
    have hvr := hv.rows
    have hrl := iI_len (A ++ R)
    rw [List.length_append] at hrl
    rw [s_fn fn_undertowref21_Into]
    cases R with
    | nil =>
      rw [List.append_nil] at *
      generalize iI (A ++ [x]) = q2 at *
      generalize iI A = q1 at *
      simp [ir_undertowref21_Into, go_sem, hvi, hvr, hrl, L, ea, litParts, hw, hs.is, eb2, -Int.natCast_add, -List.length_append]
    | cons c R =>
      have hxc := hR c (by simp)
      have hil : A.length < (A ++ c :: R).length := by simp
      have e1 := fun m => hv.ia (sz := 1) m .i64 (i := A.length) (by rw [iI_len]; exact hil) (iI_all _ _ (List.getElem_mem _))
      have eb : (A ++ c :: R)[A.length]'hil = c := by simp
      simp only [iI_el, eb] at e1
      have hne : ¬ c = x := by omega
      rw [List.length_cons] at hrl
      have hlt : A.length < A.length + (R.length + 1) := by omega
      generalize iI (A ++ c :: R) = q0 at *
      generalize iI (A ++ [x] ++ c :: R) = q3 at *
      generalize iI (A ++ [x]) = q2 at *
      generalize iI A = q1 at *
      simp [ir_undertowref21_Into, go_sem, hvi, hvr, hrl, L, ea, litParts, e1, hne, hlt, hw, hs.is, eb2, -Int.natCast_add, -List.length_append]
theorem rt_split {n x : Nat} (hx : x < n) (p : Nat → Bool) : sb n p = sb x p ++ (if p x then [x] else []) ++ (List.range' (x + 1) (n - (x + 1))).filter p := by
  unfold sb
  have e : List.range n = List.range x ++ [x] ++ List.range' (x + 1) (n - (x + 1)) := by
    have h1 : List.range n = List.range' 0 x ++ List.range' x (n - x) := by
      have := @List.range'_append_1 0 x (n - x)
      rw [Nat.zero_add, show x + (n - x) = n by omega] at this
      rw [List.range_eq_range', ← this]
    have h2 : List.range' x (n - x) = x :: List.range' (x + 1) (n - (x + 1)) := by
      rw [show n - x = (n - (x + 1)) + 1 by omega, List.range'_succ]
    rw [h1, h2, ← List.range_eq_range']; simp
  rw [e, List.filter_append, List.filter_append]
  congr 2
  by_cases hp : p x = true
  · simp [hp]
  · simp [hp]
theorem Into_rt {v : V} {n W x : Nat} (hn : n ≤ 512) (hx : x < n) (hv : Sl v (iI (rt n W))) : evI pg .val n_undertowref21_Into [v, .int .i64 (x : Int)] [] = some (ils (iI (rt n (W ||| 2 ^ x))), []) := by
  have e1 := rt_split hx W.testBit
  have e2 := rt_split hx (W ||| 2 ^ x).testBit
  have hbx : (W ||| 2 ^ x).testBit x = true := by rw [Nat.testBit_or, Nat.testBit_two_pow]; simp
  have hlo : sb x (W ||| 2 ^ x).testBit = sb x W.testBit := by
    unfold sb
    apply List.filter_congr
    intro j hj
    have := List.mem_range.1 hj
    have hne : ¬ x = j := by omega
    rw [Nat.testBit_or, Nat.testBit_two_pow]; simp [hne]
  have hhi : (List.range' (x + 1) (n - (x + 1))).filter (W ||| 2 ^ x).testBit = (List.range' (x + 1) (n - (x + 1))).filter W.testBit := by
    apply List.filter_congr
    intro j hj
    have := List.mem_range'_1.1 hj
    have hne : ¬ x = j := by omega
    rw [Nat.testBit_or, Nat.testBit_two_pow]; simp [hne]
  rw [hbx, hlo, hhi] at e2
  rw [rt_nL, e1] at hv
  rw [rt_nL, e2]
  simp only [if_true]
  have m1 : ∀ a b : List Nat, nL (a ++ b) = nL a ++ nL b := fun a b => by simp [nL]
  rw [m1, m1] at hv ⊢
  have h1 : nL (if W.testBit x = true then [x] else []) = if W.testBit x then [(x : Int)] else [] := by cases W.testBit x <;> rfl
  rw [h1] at hv
  have l1 : (sb x W.testBit).length ≤ x := sb_len _ _
  have l2 : ((List.range' (x + 1) (n - (x + 1))).filter W.testBit).length ≤ n - (x + 1) := by
    have := List.length_filter_le W.testBit (List.range' (x + 1) (n - (x + 1)))
    simpa using this
  refine Into_ok v _ _ (x : Int) (W.testBit x) hv (by rw [List.length_append, nL_len, nL_len]; omega) (fun a ha => ?_) (fun a ha => ?_)
  · obtain ⟨b, hb, rfl⟩ := List.mem_map.1 ha
    have := (mem_sb.1 hb).1
    omega
  · obtain ⟨b, hb, rfl⟩ := List.mem_map.1 ha
    have := List.mem_range'_1.1 (List.mem_filter.1 hb).1
    omega
end Go.Proofs.YtkdgcgkmgcmaiaaDoor
