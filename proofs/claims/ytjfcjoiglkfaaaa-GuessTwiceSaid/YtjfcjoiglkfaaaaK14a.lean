/- Sorts of operations, places (no claim; lemmas). -/
import Derived.Test.YtjfcjoiglkfaaaaVf
import Derived.Test.YtjfcjoiglkfaaaaIr
set_option linter.unusedSimpArgs false
set_option linter.unusedVariables false
namespace Go.Proofs.Ytjfcjoiglkfaaaa
open Go Go.Vm

def sortO (op : Int) : Int := if op < 1 then 0 else if 75 < op then 0 else if op ≤ 2 then 1 else if op ≤ 4 then 2 else if op ≤ 10 then 3 else if op ≤ 17 then 4 else if op ≤ 21 then 5 else if op ≤ 34 then 6 else if op ≤ 49 then 7 else if op ≤ 51 then 8 else if op ≤ 53 then 9 else if op ≤ 55 then 10 else if op ≤ 57 then 11 else 12
theorem Sort_ok (op : Int) : evI pg .val n_ops_Sort [.int .i64 op] [] = some (.int .i64 (sortO op), []) := by
  rw [s_fn fn_ops_Sort]
  unfold sortO
  by_cases h1 : op < 1
  · simp [ir_ops_Sort, go_sem, h1]
  by_cases h2 : 75 < op
  · simp [ir_ops_Sort, go_sem, h1, h2]
  by_cases h3 : op ≤ 2
  · simp [ir_ops_Sort, go_sem, h1, h2, h3]
  by_cases h4 : op ≤ 4
  · simp [ir_ops_Sort, go_sem, h1, h2, h3, h4]
  by_cases h5 : op ≤ 10
  · simp [ir_ops_Sort, go_sem, h1, h2, h3, h4, h5]
  by_cases h6 : op ≤ 17
  · simp [ir_ops_Sort, go_sem, h1, h2, h3, h4, h5, h6]
  by_cases h7 : op ≤ 21
  · simp [ir_ops_Sort, go_sem, h1, h2, h3, h4, h5, h6, h7]
  by_cases h8 : op ≤ 34
  · simp [ir_ops_Sort, go_sem, h1, h2, h3, h4, h5, h6, h7, h8]
  by_cases h9 : op ≤ 49
  · simp [ir_ops_Sort, go_sem, h1, h2, h3, h4, h5, h6, h7, h8, h9]
  by_cases h10 : op ≤ 51
  · simp [ir_ops_Sort, go_sem, h1, h2, h3, h4, h5, h6, h7, h8, h9, h10]
  by_cases h11 : op ≤ 53
  · simp [ir_ops_Sort, go_sem, h1, h2, h3, h4, h5, h6, h7, h8, h9, h10, h11]
  by_cases h12 : op ≤ 55
  · simp [ir_ops_Sort, go_sem, h1, h2, h3, h4, h5, h6, h7, h8, h9, h10, h11, h12]
  by_cases h13 : op ≤ 57
  · simp [ir_ops_Sort, go_sem, h1, h2, h3, h4, h5, h6, h7, h8, h9, h10, h11, h12, h13]
  simp [ir_ops_Sort, go_sem, h1, h2, h3, h4, h5, h6, h7, h8, h9, h10, h11, h12, h13]
attribute [go_sem] litParts evStore splice V.cells V.exp V.flat
def szs : List Nat := [2, 2, 6, 7, 4, 13, 15, 2, 2, 2, 2, 18]
def szV : List (List V) := szs.map fun (n : Nat) => [V.int .i64 (n : Int)]
theorem szV_ex : szV = [[.int .i64 2], [.int .i64 2], [.int .i64 6], [.int .i64 7], [.int .i64 4], [.int .i64 13], [.int .i64 15], [.int .i64 2], [.int .i64 2], [.int .i64 2], [.int .i64 2], [.int .i64 18]] := rfl
theorem szV_imm : immAll [[.int .i64 2], [.int .i64 2], [.int .i64 6], [.int .i64 7], [.int .i64 4], [.int .i64 13], [.int .i64 15], [.int .i64 2], [.int .i64 2], [.int .i64 2], [.int .i64 2], [.int .i64 18]] = true := rfl
theorem szV_len : szV.length = 12 := rfl
theorem szV_el (i : Nat) (h : i < szV.length) : szV[i] = [.int .i64 ((szs[i]'(by simpa [szV] using h) : Nat) : Int)] := by simp [szV]
/-- How the document counts sorts. -/
def sortR : List Nat → Int → Int → Option Int
  | [], _, _ => none
  | n :: l, op, i => if op ≤ n then some (i + 1) else sortR l (op - n) (i + 1)
theorem sortR_eq (op : Int) (h : 1 ≤ op) : (sortR szs op 0).getD 0 = sortO op := by
  unfold sortO szs
  simp only [sortR]
  by_cases h2 : 75 < op
  · rw [if_neg (by omega), if_neg (by omega), if_neg (by omega), if_neg (by omega), if_neg (by omega), if_neg (by omega), if_neg (by omega), if_neg (by omega), if_neg (by omega), if_neg (by omega), if_neg (by omega), if_neg (by omega), if_neg (by omega), if_pos (by omega)]
    rfl
  rw [if_neg (show ¬ op < 1 by omega), if_neg h2]
  by_cases c1 : op ≤ 2
  · rw [if_pos (by omega), if_pos (by omega)]; rfl
  rw [if_neg (by omega), if_neg c1]
  by_cases c2 : op ≤ 4
  · rw [if_pos (by omega), if_pos (by omega)]; rfl
  rw [if_neg (by omega), if_neg c2]
  by_cases c3 : op ≤ 10
  · rw [if_pos (by omega), if_pos (by omega)]; rfl
  rw [if_neg (by omega), if_neg c3]
  by_cases c4 : op ≤ 17
  · rw [if_pos (by omega), if_pos (by omega)]; rfl
  rw [if_neg (by omega), if_neg c4]
  by_cases c5 : op ≤ 21
  · rw [if_pos (by omega), if_pos (by omega)]; rfl
  rw [if_neg (by omega), if_neg c5]
  by_cases c6 : op ≤ 34
  · rw [if_pos (by omega), if_pos (by omega)]; rfl
  rw [if_neg (by omega), if_neg c6]
  by_cases c7 : op ≤ 49
  · rw [if_pos (by omega), if_pos (by omega)]; rfl
  rw [if_neg (by omega), if_neg c7]
  by_cases c8 : op ≤ 51
  · rw [if_pos (by omega), if_pos (by omega)]; rfl
  rw [if_neg (by omega), if_neg c8]
  by_cases c9 : op ≤ 53
  · rw [if_pos (by omega), if_pos (by omega)]; rfl
  rw [if_neg (by omega), if_neg c9]
  by_cases c10 : op ≤ 55
  · rw [if_pos (by omega), if_pos (by omega)]; rfl
  rw [if_neg (by omega), if_neg c10]
  by_cases c11 : op ≤ 57
  · rw [if_pos (by omega), if_pos (by omega)]; rfl
  rw [if_neg (by omega), if_neg c11, if_pos (by omega)]; rfl
theorem refSort_loop : ∀ (d i : Nat) (op : Int) (s6 s5 : V), i + d = 12 → 1 ≤ op → op ≤ 9223372036854775807 →
    match sortR (szs.drop i) op i with
    | some r => ∃ op' i' s5' s6', evCI pg (.loop ir_undertowref05_Sortl0) ⟨[.int .i64 op, .int .i64 0, .isl false szV, .int .i64 (i : Int), .bool false, s5, s6], ⟨[], [], []⟩⟩ = some (.ret, ⟨[op', .int .i64 r, .isl false szV, i', .bool false, s5', s6'], ⟨[], [], []⟩⟩)
    | none => ∃ op' i' s5' s6', evCI pg (.loop ir_undertowref05_Sortl0) ⟨[.int .i64 op, .int .i64 0, .isl false szV, .int .i64 (i : Int), .bool false, s5, s6], ⟨[], [], []⟩⟩ = some (.exit 0, ⟨[op', .int .i64 0, .isl false szV, i', .bool false, s5', s6'], ⟨[], [], []⟩⟩)
  | 0, i, op, s6, s5, hd, h1, h2 => by
    have hi : i = 12 := by omega
    subst hi
    show ∃ op' i' s5' s6', _
    have hs := rfl (a := evCI pg ir_undertowref05_Sortl0 ⟨[.int .i64 op, .int .i64 0, .isl false szV, .int .i64 ((12 : Nat) : Int), .bool false, s5, s6], ⟨[], [], []⟩⟩)
    conv at hs => rhs; simp [ir_undertowref05_Sortl0, go_sem, szV_len]
    rw [s_loop, hs, s_then_exit]
    exact ⟨_, _, _, _, rfl⟩
  | d + 1, i, op, s6, s5, hd, h1, h2 => by
    have hi : i < 12 := by omega
    have hi' : (i : Int) < 12 := by omega
    have hdr : szs.drop i = szs[i]'hi :: szs.drop (i + 1) := List.drop_eq_getElem_cons hi
    have hel : szV[i]? = some [.int .i64 ((szs[i]'hi : Nat) : Int)] := by rw [List.getElem?_eq_getElem hi, szV_el i hi]; rfl
    have hn : szs[i]'hi < 100 := by
      have : ∀ q ∈ szs, q < 100 := by decide
      exact this _ (List.getElem_mem _)
    rw [hdr]
    revert hel hn
    generalize szs[i]'hi = n
    intro hel hn
    have e7 : IntKind.i64.wrap ((i : Int) + 1) = (i : Int) + 1 := wrap_i64 (by omega) (by omega)
    by_cases hc : op ≤ (n : Int)
    · rw [sortR, if_pos hc]
      have hs := rfl (a := evCI pg ir_undertowref05_Sortl0 ⟨[.int .i64 op, .int .i64 0, .isl false szV, .int .i64 (i : Int), .bool false, s5, s6], ⟨[], [], []⟩⟩)
      conv at hs => rhs; simp [ir_undertowref05_Sortl0, go_sem, szV_len, hi, hi', hel, hc, e7]
      show ∃ op' i' s5' s6', _
      rw [s_loop, hs, s_then_ret]
      exact ⟨_, _, _, _, rfl⟩
    · have e8 : IntKind.i64.wrap (op - (n : Int)) = op - (n : Int) := wrap_i64 (by omega) (by omega)
      rw [sortR, if_neg hc]
      have ih := refSort_loop d (i + 1) (op - n) (.bool false) (.bool true) (by omega) (by omega) (by omega)
      have hs := rfl (a := evCI pg ir_undertowref05_Sortl0 ⟨[.int .i64 op, .int .i64 0, .isl false szV, .int .i64 (i : Int), .bool false, s5, s6], ⟨[], [], []⟩⟩)
      conv at hs => rhs; simp [ir_undertowref05_Sortl0, go_sem, szV_len, hi, hi', hel, hc, e7, e8]
      rw [s_loop, hs, s_then_nrm]
      exact ih
theorem refSort_ok (op : Int) (h2 : op ≤ 9223372036854775807) : evI pg .val n_undertowref05_Sort [.int .i64 op] [] = some (.int .i64 (sortO op), []) := by
  rw [s_fn fn_undertowref05_Sort]
  by_cases h : op < 1
  · have e : sortO op = 0 := by unfold sortO; rw [if_pos h]
    simp [ir_undertowref05_Sort, go_sem, szV_imm, h, e]
  · have hl := refSort_loop 12 0 op .undef .undef (by omega) (by omega) h2
    have he := sortR_eq op (by omega)
    rw [List.drop_zero, show ((0 : Nat) : Int) = 0 from rfl] at hl
    cases hr : sortR szs op 0 with
    | none =>
      rw [hr] at hl he
      obtain ⟨a, b, c, d, hl⟩ := hl
      rw [szV_ex] at hl
      simp at he
      simp [ir_undertowref05_Sort, go_sem, szV_imm, h, hl]
      exact he
    | some r =>
      rw [hr] at hl he
      obtain ⟨a, b, c, d, hl⟩ := hl
      rw [szV_ex] at hl
      simp at he
      simp [ir_undertowref05_Sort, go_sem, szV_imm, h, hl, he]
def pla (a : Nat) : Nat := a / 4 % 16
theorem pla_lt (a : Nat) : pla a < 16 := Nat.mod_lt _ (by omega)
theorem pl_num (a : Nat) (h : a < 18446744073709551616) : (IntKind.u64.wrap ((a : Int) / 4)).tmod 16 = (pla a : Int) := by
  have e : (a : Int) / 4 = ((a / 4 : Nat) : Int) := by omega
  rw [e, wrap_u64' (by omega)]
  unfold pla
  rw [Int.tmod_eq_emod_of_nonneg (by omega)]
  omega
theorem place_ok (a : Nat) (h : a < 18446744073709551616) : evI pg .val n_guess_place [.int .u64 (a : Int)] [] = some (.int .i64 (pla a : Int), []) := by
  have e := pl_num a h
  have hp := pla_lt a
  have e2 : IntKind.i64.wrap (pla a : Int) = (pla a : Int) := wrap_i64 (by omega) (by omega)
  rw [s_fn fn_guess_place]
  simp [ir_guess_place, go_sem, e, e2]
end Go.Proofs.Ytjfcjoiglkfaaaa
