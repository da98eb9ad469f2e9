/- The order of all lists of moments, and the last one of them, are the document's: the law MomentSorts returns true whatever it is handed. No condition. -/
import Derived.Test.YtnmljkhpmcgdoaaK02l
import Derived.Test.YtnmljkhpmcgdoaaRows
set_option linter.unusedSimpArgs false
set_option linter.unusedVariables false
namespace Go.Proofs.Ytnmljkhpmcgdoaa
open Go Go.Vm

theorem SameInts_loop (a b : V) (x y : List Int) (ha : Sl a (iI x)) (hb : Sl b (iI y)) (hl : x.length = y.length) (hx : x.length < 9223372036854775808) (m : Mem) (i : Nat) (hi : i ≤ x.length) :
    evCI pg (.loop ir_undertowref02_SameIntsl0) ⟨[a, b, .undef, .int .i64 (i : Int), .undef, .undef, .undef], m⟩ =
      some (if x.drop i = y.drop i then (.exit 0, ⟨[a, b, .undef, .int .i64 (x.length : Int), .undef, .bool false, .undef], m⟩) else (.ret, ⟨[.undef, .undef, .bool false, .undef, .undef, .undef, .undef], m⟩)) := by
  have hlx := iI_len x
  obtain ⟨B, hB⟩ : ∃ B, B = C.loop ir_undertowref02_SameIntsl0 := ⟨_, rfl⟩
  rw [← hB, s_loop_at hB]
  by_cases h : i < x.length
  · have e1 := ha.ia (sz := 1) m .i64 (i := i) (by omega) (by simp [iI])
    have e2 := hb.ia (sz := 1) m .i64 (i := i) (by rw [iI_len]; omega) (by simp [iI])
    rw [iI_el] at e1 e2
    have ih := SameInts_loop a b x y ha hb hl hx m (i + 1) (by omega)
    rw [← hB] at ih
    rw [List.drop_eq_getElem_cons h, List.drop_eq_getElem_cons (by omega : i < y.length)]
    simp only [List.cons.injEq]
    simp [ir_undertowref02_SameIntsl0, go_sem, ha.is, hb.is, ha.rows, hb.rows, hlx, h, e1, e2, succ_i64 h hx, -Int.natCast_add, ih]
    by_cases c : x[i] = y[i] <;> simp [c]
  · rw [List.drop_of_length_le (by omega), List.drop_of_length_le (by omega)]
    obtain rfl : i = x.length := by omega
    simp [ir_undertowref02_SameIntsl0, go_sem, ha.is, ha.rows, hlx]
termination_by x.length - i
theorem SameInts_ok (a b : V) (x y : List Int) (ha : Sl a (iI x)) (hb : Sl b (iI y)) (hx : x.length < 9223372036854775808) :
    evI pg .val n_undertowref02_SameInts [a, b] [] = some (.bool (decide (x = y)), []) := by
  rw [s_fn fn_undertowref02_SameInts]
  by_cases h : x.length = y.length
  · have := SameInts_loop a b x y ha hb h hx ⟨[], [], []⟩ 0 (by omega)
    simp at this
    simp [ir_undertowref02_SameInts, go_sem, ha.is, hb.is, ha.rows, hb.rows, iI_len, h, this]
    by_cases c : x = y <;> simp [c, go_sem]
  · have hne : x ≠ y := fun e => h (by rw [e])
    simp [ir_undertowref02_SameInts, go_sem, ha.is, hb.is, ha.rows, hb.rows, iI_len, h, hne]

theorem alive02s : evI pg .val n_undertowlaw02_alive [] [] = some (.bool true, []) := closed irL_ok 300 (by kernel_rfl)
theorem MomentSorts_true (v : V) (xs : List Nat) (hv : Sl v (flV xs)) (hw : ∀ x ∈ xs, x < 18446744073709551616) : evI pg .val n_undertowlaw02_MomentSorts [v] [] = some (.bool true, []) := by
  rw [s_fn fn_undertowlaw02_MomentSorts]
  by_cases hL : xs.length ≤ 200
  · obtain ⟨os, h1, h2⟩ := Sort_ok v xs hv hw hL
    obtain ⟨ov, os', h3, h4, h5⟩ := refSort_ok v xs hv hw hL
    obtain rfl := h1.uniq h4
    have hlen : os.length ≤ 200 := by
      have nd : os.Nodup := h1.1.imp fun {a b} hab e => by subst e; exact ah_irr xs a hab
      have : os.length ≤ (List.range xs.length).length := nd.length_le_of_subset fun a ha => by simpa using (h1.2 a).1 ha
      simp at this; omega
    have hS := SameInts_ok (ils (nI os)) ov (os.map fun (x : Nat) => (x : Int)) (os.map fun (x : Nat) => (x : Int)) (by rw [← nI_iI]; exact .ils _) (by rw [← nI_iI]; exact h3) (by simp; omega)
    simp only [decide_true] at hS
    have hl := law_loop v xs hv hw hL ov h3.is 0 (by omega) 18442240474082181120 (by omega)
    rw [List.drop_zero, Int.natCast_zero] at hl
    have hLa := Last_ok v xs hv hw hL
    have hR := Rank_ok (lst xs 18442240474082181120) (lst_lt xs _ hw (by omega))
    have hgt : ¬ (200 : Int) < (xs.length : Int) := by omega
    simp [ir_undertowlaw02_MomentSorts, go_sem, alive02s, hv.is, hv.rows, flV_len, h2, h5, h3.is, hS, hl, hLa, hR, First_ok, hgt, unV]
  · have hgt : (200 : Int) < (xs.length : Int) := by omega
    simp [ir_undertowlaw02_MomentSorts, go_sem, alive02s, hv.is, hv.rows, flV_len, hgt, unV]
theorem law_sorts : ∀ vs, PArgs Try.prog 8 Try.f7.params.toList vs → ∃ k, evF pg k .val 7 vs [] = some (.bool true, []) := by
  intro vs h
  obtain ⟨v1, _, rfl, h1, rfl⟩ := h
  have hw : ∀ b : Nat, (Lit.float .f64 b).wf = true → b < 18446744073709551616 := fun b h => by simpa [Lit.wf, FloatKind.format] using h
  rcases arg_slice Try.underlying36 h1 with rfl | ⟨es, rfl, hl, hr⟩
  · exact (evI_iff (hx _ _)).1 (MomentSorts_true .nils [] .nils (by simp))
  · have : ∃ xs : List Nat, es = flV xs ∧ ∀ x ∈ xs, x < 18446744073709551616 := by
      clear h1 hl
      induction es with
      | nil => exact ⟨[], rfl, by simp⟩
      | cons q es ih =>
        obtain ⟨b, rfl, hb⟩ := pv_flt Try.underlying22 (hr q (by simp))
        obtain ⟨xs, rfl, hx⟩ := ih (fun q hq => hr q (by simp [hq]))
        exact ⟨b :: xs, rfl, fun x h => by rcases List.mem_cons.1 h with rfl | h; exact hw _ hb; exact hx x h⟩
    obtain ⟨xs, rfl, hx⟩ := this
    exact (evI_iff (Go.Vm.hx _ _)).1 (MomentSorts_true _ xs (.isl _ _) hx)
end Go.Proofs.Ytnmljkhpmcgdoaa
