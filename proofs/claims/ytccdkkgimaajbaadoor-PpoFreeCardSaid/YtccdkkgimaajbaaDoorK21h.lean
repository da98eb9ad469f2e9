/- Layer 21: hanging by the address, the data, the course (no claim; lemmas). -/
import Derived.Test.YtccdkkgimaajbaaDoorK21g
set_option linter.unusedSimpArgs false
set_option linter.unusedVariables false
namespace Go.Proofs.YtccdkkgimaajbaaDoor
open Go Go.Vm

def dA (S : Nat → Nat) (y : In) : Nat := if memO y.op then ofS S (srcs (no2 y)) else 0
def dD (S : Nat → Nat) (y : In) : Nat := if sto y.op then ofS S (srcs (no1 y)) else 0
def crs (op : Int) : Bool := srtO op == 3 || decide (op = 4)
section
variable (H : List Vm.Obj) (x : Nat) (S : Nat → Nat) (i : Int) (y : In) (h : H[x]? = some (.arr [rc S]))
include h
theorem Address_1_ok : evI pg .heap n_deps_Address_1 [.int .i64 i, .agg (inV y), .ptr x 0 0] H = some (.agg (wc (dA S y)), H) := by
  have hp := get_lt h
  have hg := get_el h hp
  have hM := Memory_ok y.op
  have hF := first_ok y
  have hO := of_ok true S (ils (iI (srcs (no2 y)))) (srcs (no2 y)) (.ils _) (by have := srcs_len (no2 y); omega)
  have him := fun vs tk => rc_imm S ⟨vs, tk, H⟩ true 6
  simp only [Nat.reduceAdd] at him
  have hsl := Sl.ils (iI (srcs (no2 y)))
  have hc8 := wc_len (ofS S (srcs (no2 y)))
  have ht8 := wc_take (ofS S (srcs (no2 y)))
  have h7 := wc_clean (ofS S (srcs (no2 y))) 6
  simp only [Nat.reduceAdd] at h7
  have hz := wc_len 0
  have ht0 := wc_take 0
  simp only [inV] at hF ⊢
  unfold dA
  rw [s_fn fn_deps_Address_1]
  simp only [ir_deps_Address_1, ← wc_zero]
  cases hm : memO y.op with
  | true =>
    rw [hm] at hM
    simp only [if_true]
    generalize wc (ofS S (srcs (no2 y))) = c2 at *
    have hd8 : List.drop 8 c2 = [] := List.drop_of_length_le (by omega)
    generalize wc 0 = c0' at *
    have hd0 : List.drop 8 c0' = [] := List.drop_of_length_le (by omega)
    generalize rc S = rcs at *
    generalize ils (iI (srcs (no2 y))) = u at *
    simp [go_sem, hM, hF, hO, him, hsl.is, h, hp, hg, V.cells, loadAt, evStore, splice, hz, hc8, ht8, hd8, hd0, h7, fill, -List.all_eq_true]
  | false =>
    rw [hm] at hM
    simp only [Bool.false_eq_true, if_false]
    generalize wc 0 = c0' at *
    have hd0 : List.drop 8 c0' = [] := List.drop_of_length_le (by omega)
    simp [go_sem, hM, h, hp, hg, V.cells, loadAt, evStore, splice, hz, ht0, hd0, fill]
theorem Data_1_ok : evI pg .heap n_deps_Data_1 [.int .i64 i, .agg (inV y), .ptr x 0 0] H = some (.agg (wc (dD S y)), H) := by
  have hp := get_lt h
  have hg := get_el h hp
  have hM := Stores_ok y.op
  have hF := second_ok y
  have hO := of_ok true S (ils (iI (srcs (no1 y)))) (srcs (no1 y)) (.ils _) (by have := srcs_len (no1 y); omega)
  have him := fun vs tk => rc_imm S ⟨vs, tk, H⟩ true 6
  simp only [Nat.reduceAdd] at him
  have hsl := Sl.ils (iI (srcs (no1 y)))
  have hc8 := wc_len (ofS S (srcs (no1 y)))
  have ht8 := wc_take (ofS S (srcs (no1 y)))
  have h7 := wc_clean (ofS S (srcs (no1 y))) 6
  simp only [Nat.reduceAdd] at h7
  have hz := wc_len 0
  have ht0 := wc_take 0
  simp only [inV] at hF ⊢
  unfold dD
  rw [s_fn fn_deps_Data_1]
  simp only [ir_deps_Data_1, ← wc_zero]
  cases hm : sto y.op with
  | true =>
    rw [hm] at hM
    simp only [if_true]
    generalize wc (ofS S (srcs (no1 y))) = c2 at *
    have hd8 : List.drop 8 c2 = [] := List.drop_of_length_le (by omega)
    generalize wc 0 = c0' at *
    have hd0 : List.drop 8 c0' = [] := List.drop_of_length_le (by omega)
    generalize rc S = rcs at *
    generalize ils (iI (srcs (no1 y))) = u at *
    simp [go_sem, hM, hF, hO, him, hsl.is, h, hp, hg, V.cells, loadAt, evStore, splice, hz, hc8, ht8, hd8, hd0, h7, fill, -List.all_eq_true]
  | false =>
    rw [hm] at hM
    simp only [Bool.false_eq_true, if_false]
    generalize wc 0 = c0' at *
    have hd0 : List.drop 8 c0' = [] := List.drop_of_length_le (by omega)
    simp [go_sem, hM, h, hp, hg, V.cells, loadAt, evStore, splice, hz, ht0, hd0, fill]
theorem Course_1_ok (c C : Nat) (hcx : c ≠ x) (hC : H[c]? = some (.arr [wc C])) : ∃ H2, evI pg .heap n_deps_Course_1 [.int .i64 i, .agg (inV y), .ptr x 0 0, .ptr c 0 0] H = some (.agg (wc C), H2) ∧
    H2[c]? = some (.arr [wc (C ||| if crs y.op then ofS S (srcs y) else 0)]) ∧ ∀ o, o ≠ c → H2[o]? = H[o]? := by
  have hp := get_lt h
  have hg := get_el h hp
  have hpc := get_lt hC
  have hgc := get_el hC hpc
  have hM := SortO y.op
  have hF := Sources_ok y
  have hO := of_ok true S (ils (iI (srcs y))) (srcs y) (.ils _) (by have := srcs_len y; omega)
  have hj := join_ok H c C (ofS S (srcs y)) hC
  have him := fun vs tk => rc_imm S ⟨vs, tk, H⟩ true 6
  simp only [Nat.reduceAdd] at him
  have hsl := Sl.ils (iI (srcs y))
  have hc8 := wc_len C
  have ht8 := wc_take C
  have h7 := wc_clean (ofS S (srcs y)) 6
  simp only [Nat.reduceAdd] at h7
  have hz := wc_len 0
  have ht0 := wc_take 0
  simp only [inV] at hF ⊢
  rw [s_fn fn_deps_Course_1]
  simp only [ir_deps_Course_1, ← wc_zero]
  unfold crs
  by_cases c3 : srtO y.op = 3
  · have e : (srtO y.op == 3 || decide (y.op = 4)) = true := by simp [c3]
    rw [c3] at hM
    rw [e]
    simp only [if_true]
    generalize wc (C ||| ofS S (srcs y)) = c3' at *
    generalize wc (ofS S (srcs y)) = c2 at *
    generalize wc C = cc at *
    generalize wc 0 = c0' at *
    have hd0 : List.drop 8 c0' = [] := List.drop_of_length_le (by omega)
    generalize rc S = rcs at *
    generalize ils (iI (srcs y)) = u at *
    refine ⟨H.set c (.arr [c3']), ?_, by simp [hpc], fun o ho => List.getElem?_set_ne (Ne.symm ho)⟩
    simp [go_sem, hM, hF, hO, him, hj, hsl.is, h, hp, hg, hC, hpc, hgc, V.cells, loadAt, evStore, splice, hz, hc8, ht8, hd0, h7, fill, -List.all_eq_true]
  · by_cases c4 : y.op = 4
    · have e : (srtO y.op == 3 || decide (y.op = 4)) = true := by simp [c4]
      have e2 : srtO y.op = 2 := srt4 c4
      rw [e2, c4] at hM
      rw [e]
      rw [c4] at hF ⊢
      simp only [if_true]
      generalize wc (C ||| ofS S (srcs y)) = c3' at *
      generalize wc (ofS S (srcs y)) = c2 at *
      generalize wc C = cc at *
      generalize wc 0 = c0' at *
      have hd0 : List.drop 8 c0' = [] := List.drop_of_length_le (by omega)
      generalize rc S = rcs at *
      generalize ils (iI (srcs y)) = u at *
      refine ⟨H.set c (.arr [c3']), ?_, by simp [hpc], fun o ho => List.getElem?_set_ne (Ne.symm ho)⟩
      simp [go_sem, hM, hF, hO, him, hj, hsl.is, h, hp, hg, hC, hpc, hgc, V.cells, loadAt, evStore, splice, hz, hc8, ht8, hd0, h7, fill, -List.all_eq_true]
    · have e : (srtO y.op == 3 || decide (y.op = 4)) = false := by simp [c3, c4]
      have n3 : ¬ (srtO y.op : Int) = 3 := by omega
      rw [e]
      simp only [Bool.false_eq_true, if_false, Nat.or_zero]
      refine ⟨H, ?_, hC, fun o ho => rfl⟩
      generalize srtO y.op = s at *
      generalize wc C = cc at *
      generalize wc 0 = c0' at *
      have hd0 : List.drop 8 c0' = [] := List.drop_of_length_le (by omega)
      simp [go_sem, hM, c3, c4, n3, h, hp, hg, hC, hpc, hgc, V.cells, loadAt, evStore, splice, hz, hc8, ht8, hd0, fill]
end
end Go.Proofs.YtccdkkgimaajbaaDoor
