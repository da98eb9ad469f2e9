/- Layer 8: whether a branch is taken, and what comes next (no claim; lemmas). -/
import Derived.Test.YtffbhbjnkecieaaK08g
set_option linter.unusedSimpArgs false
set_option linter.unusedVariables false
set_option linter.unusedSectionVars false
namespace Go.Proofs.Ytffbhbjnkecieaa
open Go Go.Vm

def bNames : List (List UInt8) := [[106, 97, 108], [106, 97, 108, 114], [98, 101, 113], [98, 110, 101], [98, 108, 116], [98, 103, 101], [98, 108, 116, 117], [98, 103, 101, 117]]
theorem no_bname : (List.range 76).all (fun k => (decide (3 ≤ k) && decide (k ≤ 10)) || bNames.all fun x => !(nm k == x)) = true := by kernel_rfl
def tk (op : Int) (a b : Nat) : Bool :=
  if op = 5 then decide (a = b) else if op = 6 then !decide (a = b) else if op = 7 then lts a b else if op = 8 then !lts a b
  else if op = 9 then decide (a < b) else if op = 10 then !decide (a < b) else false
theorem andNot1 {x : Nat} (hx : x < 18446744073709551616) : andNotI .u64 (x : Int) 1 = ((x - x % 2 : Nat) : Int) := by
  show IntKind.u64.wrap ((BitVec.ofInt 64 (x : Int) &&& ~~~(BitVec.ofInt 64 1)).toNat : Nat) = _
  have e : (~~~(BitVec.ofInt 64 1)).toNat = 18446744073709551614 := by decide
  rw [BitVec.toNat_and, toNat64 hx, e]
  have h1 : (x &&& 18446744073709551614) / 2 = x / 2 &&& 9223372036854775807 := Nat.and_div_two
  rw [show (9223372036854775807 : Nat) = 2 ^ 63 - 1 from rfl, Nat.and_two_pow_sub_one_eq_mod] at h1
  have h2 : (x &&& 18446744073709551614) % 2 = 1 ↔ x % 2 = 1 ∧ 18446744073709551614 % 2 = 1 := Nat.and_mod_two_eq_one
  have h3 : x &&& 18446744073709551614 = x - x % 2 := by omega
  rw [h3]
  exact wrap_u64' (by omega)
section
variable {a b : Nat} (ha : a < 18446744073709551616) (hb : b < 18446744073709551616)
include ha hb
theorem Taken_ok (op : Int) (rd rs1 rs2 imm : Int) (aq rl : Bool) (pr su : Int) : evI pg .val n_alu_Taken [.agg [.int .i64 op, .int .i64 rd, .int .i64 rs1, .int .i64 rs2, .int .i64 imm, .bool aq, .bool rl, .int .i64 pr, .int .i64 su], .int .u64 (a : Int), .int .u64 (b : Int)] [] = some (.bool (tk op a b), []) := by
  rw [s_fn fn_alu_Taken]
  unfold tk lts
  by_cases c5 : op = 5
  · subst c5; simp [ir_alu_Taken, go_sem]
  by_cases c6 : op = 6
  · subst c6; simp [ir_alu_Taken, go_sem]
  by_cases c7 : op = 7
  · subst c7; simp [ir_alu_Taken, go_sem]
  by_cases c8 : op = 8
  · subst c8; simp [ir_alu_Taken, go_sem]; rw [Bool.eq_iff_iff]; simp
  by_cases c9 : op = 9
  · subst c9; simp [ir_alu_Taken, go_sem]
  by_cases c10 : op = 10
  · subst c10; simp [ir_alu_Taken, go_sem]; rw [Bool.eq_iff_iff]; simp
  simp [ir_alu_Taken, go_sem, c5, c6, c7, c8, c9, c10]
theorem refTaken_5 (rd rs1 rs2 imm : Int) (aq rl : Bool) (pr su : Int) : evI pg .val n_undertowref08_Taken [.agg [.int .i64 5, .int .i64 rd, .int .i64 rs1, .int .i64 rs2, .int .i64 imm, .bool aq, .bool rl, .int .i64 pr, .int .i64 su], .int .u64 (a : Int), .int .u64 (b : Int)] [] = some (.bool (tk 5 a b), []) := by
  have hN : evI pg .val n_undertowref05_Name [.int .i64 5] [] = some (.str [98, 101, 113], []) := refName_tab 5 (by decide)
  have hL := Low_ok ha hb
  rw [s_fn fn_undertowref08_Taken]
  simp [ir_undertowref08_Taken, go_sem, strV, hN, hL, tk]
theorem refTaken_6 (rd rs1 rs2 imm : Int) (aq rl : Bool) (pr su : Int) : evI pg .val n_undertowref08_Taken [.agg [.int .i64 6, .int .i64 rd, .int .i64 rs1, .int .i64 rs2, .int .i64 imm, .bool aq, .bool rl, .int .i64 pr, .int .i64 su], .int .u64 (a : Int), .int .u64 (b : Int)] [] = some (.bool (tk 6 a b), []) := by
  have hN : evI pg .val n_undertowref05_Name [.int .i64 6] [] = some (.str [98, 110, 101], []) := refName_tab 6 (by decide)
  have hL := Low_ok ha hb
  rw [s_fn fn_undertowref08_Taken]
  simp [ir_undertowref08_Taken, go_sem, strV, hN, hL, tk]
theorem refTaken_7 (rd rs1 rs2 imm : Int) (aq rl : Bool) (pr su : Int) : evI pg .val n_undertowref08_Taken [.agg [.int .i64 7, .int .i64 rd, .int .i64 rs1, .int .i64 rs2, .int .i64 imm, .bool aq, .bool rl, .int .i64 pr, .int .i64 su], .int .u64 (a : Int), .int .u64 (b : Int)] [] = some (.bool (tk 7 a b), []) := by
  have hN : evI pg .val n_undertowref05_Name [.int .i64 7] [] = some (.str [98, 108, 116], []) := refName_tab 7 (by decide)
  have hL := Low_ok ha hb
  rw [s_fn fn_undertowref08_Taken]
  simp [ir_undertowref08_Taken, go_sem, strV, hN, hL, tk]
theorem refTaken_8 (rd rs1 rs2 imm : Int) (aq rl : Bool) (pr su : Int) : evI pg .val n_undertowref08_Taken [.agg [.int .i64 8, .int .i64 rd, .int .i64 rs1, .int .i64 rs2, .int .i64 imm, .bool aq, .bool rl, .int .i64 pr, .int .i64 su], .int .u64 (a : Int), .int .u64 (b : Int)] [] = some (.bool (tk 8 a b), []) := by
  have hN : evI pg .val n_undertowref05_Name [.int .i64 8] [] = some (.str [98, 103, 101], []) := refName_tab 8 (by decide)
  have hL := Low_ok ha hb
  rw [s_fn fn_undertowref08_Taken]
  simp [ir_undertowref08_Taken, go_sem, strV, hN, hL, tk]
theorem refTaken_9 (rd rs1 rs2 imm : Int) (aq rl : Bool) (pr su : Int) : evI pg .val n_undertowref08_Taken [.agg [.int .i64 9, .int .i64 rd, .int .i64 rs1, .int .i64 rs2, .int .i64 imm, .bool aq, .bool rl, .int .i64 pr, .int .i64 su], .int .u64 (a : Int), .int .u64 (b : Int)] [] = some (.bool (tk 9 a b), []) := by
  have hN : evI pg .val n_undertowref05_Name [.int .i64 9] [] = some (.str [98, 108, 116, 117], []) := refName_tab 9 (by decide)
  have hL := Low_ok ha hb
  rw [s_fn fn_undertowref08_Taken]
  simp [ir_undertowref08_Taken, go_sem, strV, hN, hL, tk]
theorem refTaken_10 (rd rs1 rs2 imm : Int) (aq rl : Bool) (pr su : Int) : evI pg .val n_undertowref08_Taken [.agg [.int .i64 10, .int .i64 rd, .int .i64 rs1, .int .i64 rs2, .int .i64 imm, .bool aq, .bool rl, .int .i64 pr, .int .i64 su], .int .u64 (a : Int), .int .u64 (b : Int)] [] = some (.bool (tk 10 a b), []) := by
  have hN : evI pg .val n_undertowref05_Name [.int .i64 10] [] = some (.str [98, 103, 101, 117], []) := refName_tab 10 (by decide)
  have hL := Low_ok ha hb
  rw [s_fn fn_undertowref08_Taken]
  simp [ir_undertowref08_Taken, go_sem, strV, hN, hL, tk]
theorem refTaken_none {op : Int} {s : List UInt8} (hN : evI pg .val n_undertowref05_Name [.int .i64 op] [] = some (.str s, [])) (hs : bNames.all (fun x => !(s == x)) = true) (rd rs1 rs2 imm : Int) (aq rl : Bool) (pr su : Int) : evI pg .val n_undertowref08_Taken [.agg [.int .i64 op, .int .i64 rd, .int .i64 rs1, .int .i64 rs2, .int .i64 imm, .bool aq, .bool rl, .int .i64 pr, .int .i64 su], .int .u64 (a : Int), .int .u64 (b : Int)] [] = some (.bool false, []) := by
  simp only [bNames, List.all_cons, List.all_nil, Bool.and_true, Bool.and_eq_true, Bool.not_eq_true'] at hs
  obtain ⟨e3, e4, e5, e6, e7, e8, e9, e10⟩ := hs
  simp only [beq_eq_false_iff_ne, ne_eq] at e3 e4 e5 e6 e7 e8 e9 e10
  rw [s_fn fn_undertowref08_Taken]
  simp [ir_undertowref08_Taken, go_sem, strV, hN, e3, e4, e5, e6, e7, e8, e9, e10]
theorem refTaken_34 (k : Nat) (h : k = 3 ∨ k = 4) (rd rs1 rs2 imm : Int) (aq rl : Bool) (pr su : Int) : evI pg .val n_undertowref08_Taken [.agg [.int .i64 (k : Int), .int .i64 rd, .int .i64 rs1, .int .i64 rs2, .int .i64 imm, .bool aq, .bool rl, .int .i64 pr, .int .i64 su], .int .u64 (a : Int), .int .u64 (b : Int)] [] = some (.bool false, []) := by
  rcases h with rfl | rfl
  · have hN : evI pg .val n_undertowref05_Name [.int .i64 3] [] = some (.str [106, 97, 108], []) := refName_tab 3 (by decide)
    rw [s_fn fn_undertowref08_Taken]
    simp [ir_undertowref08_Taken, go_sem, strV, hN]
  · have hN : evI pg .val n_undertowref05_Name [.int .i64 4] [] = some (.str [106, 97, 108, 114], []) := refName_tab 4 (by decide)
    rw [s_fn fn_undertowref08_Taken]
    simp [ir_undertowref08_Taken, go_sem, strV, hN]
theorem other_op (op : Int) (h : ¬ (3 ≤ op ∧ op ≤ 10)) : ∃ s, evI pg .val n_undertowref05_Name [.int .i64 op] [] = some (.str s, []) ∧ bNames.all (fun x => !(s == x)) = true := by
  rcases op_cases (op := op) with h' | ⟨k, rfl, k1, k2⟩
  · exact ⟨[], refName_out h', by kernel_rfl⟩
  · refine ⟨nm k, refName_tab k k2, ?_⟩
    have n1 := List.all_eq_true.1 no_bname k (List.mem_range.2 k2)
    have d1 : (decide (3 ≤ k) && decide (k ≤ 10)) = false := by simp; omega
    simp only [d1, Bool.false_or] at n1
    exact n1
theorem tk_none (op : Int) (h : ¬ (5 ≤ op ∧ op ≤ 10)) : tk op a b = false := by
  unfold tk
  rw [if_neg (by omega), if_neg (by omega), if_neg (by omega), if_neg (by omega), if_neg (by omega), if_neg (by omega)]
theorem refTaken_ok (op : Int) (rd rs1 rs2 imm : Int) (aq rl : Bool) (pr su : Int) : evI pg .val n_undertowref08_Taken [.agg [.int .i64 op, .int .i64 rd, .int .i64 rs1, .int .i64 rs2, .int .i64 imm, .bool aq, .bool rl, .int .i64 pr, .int .i64 su], .int .u64 (a : Int), .int .u64 (b : Int)] [] = some (.bool (tk op a b), []) := by
  by_cases h : 3 ≤ op ∧ op ≤ 10
  · rcases (show op = 3 ∨ op = 4 ∨ op = 5 ∨ op = 6 ∨ op = 7 ∨ op = 8 ∨ op = 9 ∨ op = 10 by omega) with rfl | rfl | rfl | rfl | rfl | rfl | rfl | rfl
    · rw [tk_none ha hb 3 (by omega)]; exact refTaken_34 ha hb 3 (.inl rfl) rd rs1 rs2 imm aq rl pr su
    · rw [tk_none ha hb 4 (by omega)]; exact refTaken_34 ha hb 4 (.inr rfl) rd rs1 rs2 imm aq rl pr su
    · exact refTaken_5 ha hb rd rs1 rs2 imm aq rl pr su
    · exact refTaken_6 ha hb rd rs1 rs2 imm aq rl pr su
    · exact refTaken_7 ha hb rd rs1 rs2 imm aq rl pr su
    · exact refTaken_8 ha hb rd rs1 rs2 imm aq rl pr su
    · exact refTaken_9 ha hb rd rs1 rs2 imm aq rl pr su
    · exact refTaken_10 ha hb rd rs1 rs2 imm aq rl pr su
  · obtain ⟨s, h1, h2⟩ := other_op ha hb op h
    rw [tk_none ha hb op (by omega)]
    exact refTaken_none ha hb h1 h2 rd rs1 rs2 imm aq rl pr su
end
section
variable {a b pc m : Nat} (ha : a < 18446744073709551616) (hb : b < 18446744073709551616) (hp : pc < 18446744073709551616) (hm : m < 18446744073709551616)
include ha hb hp hm
def nx (op : Int) (m pc a b : Nat) : Nat := if op = 3 ∨ tk op a b = true then (pc + m) % 18446744073709551616 else if op = 4 then (a + m) % 18446744073709551616 - (a + m) % 18446744073709551616 % 2 else (pc + 4) % 18446744073709551616
theorem Next_ok (op : Int) (rd rs1 rs2 imm : Int) (aq rl : Bool) (pr su : Int) (hI : IntKind.u64.wrap imm = (m : Int)) : evI pg .val n_alu_Next [.agg [.int .i64 op, .int .i64 rd, .int .i64 rs1, .int .i64 rs2, .int .i64 imm, .bool aq, .bool rl, .int .i64 pr, .int .i64 su], .int .u64 (pc : Int), .int .u64 (a : Int), .int .u64 (b : Int)] [] = some (.int .u64 (nx op m pc a b : Nat), []) := by
  have hT := Taken_ok ha hb op rd rs1 rs2 imm aq rl pr su
  have s1 := add_u (a := pc) (b := m)
  have s2 := add_u (a := pc) (b := 4)
  have s3 := add_u (a := a) (b := m)
  rw [show ((4 : Nat) : Int) = 4 from rfl] at s2
  have g := andNot1 (x := (a + m) % 18446744073709551616) (by omega)
  unfold nx
  rw [s_fn fn_alu_Next]
  cases ht : tk op a b with
  | true =>
    rw [ht] at hT
    by_cases c3 : op = 3 <;> simp [ir_alu_Next, go_sem, hT, hI, c3, s1, s2, s3, g, -Int.natCast_emod, -Int.natCast_ediv, -Int.natCast_mul, -Int.natCast_pow, -Int.natCast_add]
  | false =>
    rw [ht] at hT
    by_cases c3 : op = 3
    · subst c3
      simp [ir_alu_Next, go_sem, hT, hI, s1, s2, s3, g, -Int.natCast_emod, -Int.natCast_ediv, -Int.natCast_mul, -Int.natCast_pow, -Int.natCast_add]
    · by_cases c4 : op = 4
      · subst c4
        simp [ir_alu_Next, go_sem, hT, hI, s1, s2, s3, g, -Int.natCast_emod, -Int.natCast_ediv, -Int.natCast_mul, -Int.natCast_pow, -Int.natCast_add]
      · simp [ir_alu_Next, go_sem, hT, hI, c3, c4, s1, s2, s3, g, -Int.natCast_emod, -Int.natCast_ediv, -Int.natCast_mul, -Int.natCast_pow, -Int.natCast_add]
theorem refNext_ok (op : Int) (rd rs1 rs2 imm : Int) (aq rl : Bool) (pr su : Int) (hI : IntKind.u64.wrap imm = (m : Int)) : evI pg .val n_undertowref08_Next [.agg [.int .i64 op, .int .i64 rd, .int .i64 rs1, .int .i64 rs2, .int .i64 imm, .bool aq, .bool rl, .int .i64 pr, .int .i64 su], .int .u64 (pc : Int), .int .u64 (a : Int), .int .u64 (b : Int)] [] = some (.int .u64 (nx op m pc a b : Nat), []) := by
  have hT := refTaken_ok ha hb op rd rs1 rs2 imm aq rl pr su
  have s1 := add_u (a := pc) (b := m)
  have s2 := add_u (a := pc) (b := 4)
  have s3 := add_u (a := a) (b := m)
  rw [show ((4 : Nat) : Int) = 4 from rfl] at s2
  have g1 : (((a + m) % 18446744073709551616 : Nat) : Int).tmod 2 = (((a + m) % 18446744073709551616 % 2 : Nat) : Int) := by rw [Int.tmod_eq_emod_of_nonneg (by omega)]; rfl
  have g2 : IntKind.u64.wrap ((((a + m) % 18446744073709551616 : Nat) : Int) - (((a + m) % 18446744073709551616 % 2 : Nat) : Int)) = (((a + m) % 18446744073709551616 - (a + m) % 18446744073709551616 % 2 : Nat) : Int) := by rw [wrap_u64_eq]; omega
  unfold nx
  clear hp hm
  generalize (a + m) % 18446744073709551616 = y at *
  rw [s_fn fn_undertowref08_Next]
  by_cases h : 3 ≤ op ∧ op ≤ 10
  · rcases (show op = 3 ∨ op = 4 ∨ op = 5 ∨ op = 6 ∨ op = 7 ∨ op = 8 ∨ op = 9 ∨ op = 10 by omega) with rfl | rfl | rfl | rfl | rfl | rfl | rfl | rfl
    · have hN : evI pg .val n_undertowref05_Name [.int .i64 3] [] = some (.str [106, 97, 108], []) := refName_tab 3 (by decide)
      cases ht : tk 3 a b <;> rw [ht] at hT <;> simp [ir_undertowref08_Next, go_sem, strV, hN, hT, hI, s1, s2, s3, g1, g2, -Int.natCast_emod, -Int.natCast_ediv, -Int.natCast_mul, -Int.natCast_pow, -Int.natCast_add]
    · have hN : evI pg .val n_undertowref05_Name [.int .i64 4] [] = some (.str [106, 97, 108, 114], []) := refName_tab 4 (by decide)
      cases ht : tk 4 a b <;> rw [ht] at hT <;> simp [ir_undertowref08_Next, go_sem, strV, hN, hT, hI, s1, s2, s3, g1, g2, -Int.natCast_emod, -Int.natCast_ediv, -Int.natCast_mul, -Int.natCast_pow, -Int.natCast_add]
    · have hN : evI pg .val n_undertowref05_Name [.int .i64 5] [] = some (.str [98, 101, 113], []) := refName_tab 5 (by decide)
      cases ht : tk 5 a b <;> rw [ht] at hT <;> simp [ir_undertowref08_Next, go_sem, strV, hN, hT, hI, s1, s2, s3, g1, g2, -Int.natCast_emod, -Int.natCast_ediv, -Int.natCast_mul, -Int.natCast_pow, -Int.natCast_add]
    · have hN : evI pg .val n_undertowref05_Name [.int .i64 6] [] = some (.str [98, 110, 101], []) := refName_tab 6 (by decide)
      cases ht : tk 6 a b <;> rw [ht] at hT <;> simp [ir_undertowref08_Next, go_sem, strV, hN, hT, hI, s1, s2, s3, g1, g2, -Int.natCast_emod, -Int.natCast_ediv, -Int.natCast_mul, -Int.natCast_pow, -Int.natCast_add]
    · have hN : evI pg .val n_undertowref05_Name [.int .i64 7] [] = some (.str [98, 108, 116], []) := refName_tab 7 (by decide)
      cases ht : tk 7 a b <;> rw [ht] at hT <;> simp [ir_undertowref08_Next, go_sem, strV, hN, hT, hI, s1, s2, s3, g1, g2, -Int.natCast_emod, -Int.natCast_ediv, -Int.natCast_mul, -Int.natCast_pow, -Int.natCast_add]
    · have hN : evI pg .val n_undertowref05_Name [.int .i64 8] [] = some (.str [98, 103, 101], []) := refName_tab 8 (by decide)
      cases ht : tk 8 a b <;> rw [ht] at hT <;> simp [ir_undertowref08_Next, go_sem, strV, hN, hT, hI, s1, s2, s3, g1, g2, -Int.natCast_emod, -Int.natCast_ediv, -Int.natCast_mul, -Int.natCast_pow, -Int.natCast_add]
    · have hN : evI pg .val n_undertowref05_Name [.int .i64 9] [] = some (.str [98, 108, 116, 117], []) := refName_tab 9 (by decide)
      cases ht : tk 9 a b <;> rw [ht] at hT <;> simp [ir_undertowref08_Next, go_sem, strV, hN, hT, hI, s1, s2, s3, g1, g2, -Int.natCast_emod, -Int.natCast_ediv, -Int.natCast_mul, -Int.natCast_pow, -Int.natCast_add]
    · have hN : evI pg .val n_undertowref05_Name [.int .i64 10] [] = some (.str [98, 103, 101, 117], []) := refName_tab 10 (by decide)
      cases ht : tk 10 a b <;> rw [ht] at hT <;> simp [ir_undertowref08_Next, go_sem, strV, hN, hT, hI, s1, s2, s3, g1, g2, -Int.natCast_emod, -Int.natCast_ediv, -Int.natCast_mul, -Int.natCast_pow, -Int.natCast_add]
  · obtain ⟨s, h1, hs⟩ := other_op ha hb op h
    simp only [bNames, List.all_cons, List.all_nil, Bool.and_true, Bool.and_eq_true, Bool.not_eq_true'] at hs
    obtain ⟨e3, e4, e5, e6, e7, e8, e9, e10⟩ := hs
    simp only [beq_eq_false_iff_ne, ne_eq] at e3 e4 e5 e6 e7 e8 e9 e10
    rw [tk_none ha hb op (by omega)] at hT ⊢
    have c3 : ¬ op = 3 := by omega
    have c4 : ¬ op = 4 := by omega
    simp [ir_undertowref08_Next, go_sem, strV, h1, hT, hI, c3, c4, e3, e4, e5, e6, e7, e8, e9, e10, s1, s2, s3, g1, g2, -Int.natCast_emod, -Int.natCast_ediv, -Int.natCast_mul, -Int.natCast_pow, -Int.natCast_add]
end
end Go.Proofs.Ytffbhbjnkecieaa
