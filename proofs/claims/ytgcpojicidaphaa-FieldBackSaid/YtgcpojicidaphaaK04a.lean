/- Layer 4: what the program's Put comes to (no claim; lemmas). -/
import Derived.Test.YtgcpojicidaphaaK01a
import Derived.Test.YtgcpojicidaphaaK04m
set_option linter.unusedSimpArgs false
set_option linter.unusedVariables false
namespace Go.Proofs.Ytgcpojicidaphaa
open Go Go.Vm

def runsV (R : List (Nat × Nat × Nat)) : List (List V) := R.map fun q => [.int .i64 (q.1 : Int), .int .i64 (q.2.1 : Int), .int .i64 (q.2.2 : Int)]
theorem runsV_len (R : List (Nat × Nat × Nat)) : (runsV R).length = R.length := by simp [runsV]
theorem runsV_el (R : List (Nat × Nat × Nat)) (i : Nat) (h : i < (runsV R).length) : (runsV R)[i] = [.int .i64 ((R[i]'(by simpa [runsV] using h)).1 : Int), .int .i64 ((R[i]'(by simpa [runsV] using h)).2.1 : Int), .int .i64 ((R[i]'(by simpa [runsV] using h)).2.2 : Int)] := by simp [runsV]
theorem of_ok (k : Nat) (h1 : 1 ≤ k) (h5 : k ≤ 5) : evI pg .val n_field_of [.int .i64 (k : Int)] [] = some (.tup [.agg [.int .i64 (bitsO k : Int), .int .i64 (lowO k : Int), .isl false (runsV (runsO k))], .bool true], []) := by
  have : k = 1 ∨ k = 2 ∨ k = 3 ∨ k = 4 ∨ k = 5 := by omega
  rcases this with rfl | rfl | rfl | rfl | rfl
  · exact closed irL_ok 50 (by kernel_rfl)
  · exact closed irL_ok 50 (by kernel_rfl)
  · exact closed irL_ok 50 (by kernel_rfl)
  · exact closed irL_ok 50 (by kernel_rfl)
  · exact closed irL_ok 50 (by kernel_rfl)
attribute [go_sem] evStore splice V.cells V.exp V.flat
theorem of_bad (k : Int) (h : k < 1 ∨ 5 < k) : evI pg .val n_field_of [.int .i64 k] [] = some (.tup [.agg [.int .i64 0, .int .i64 0, .nils], .bool false], []) := by
  rw [s_fn fn_field_of]
  by_cases h1 : k < 1
  · simp [ir_field_of, go_sem, h1, fill]
  · have h2 : 5 < k := by omega
    simp [ir_field_of, go_sem, h1, h2, fill]
theorem wrap_u64_int (n : Int) : IntKind.u64.wrap n = ((n % 18446744073709551616).toNat : Int) := by
  have : IntKind.u64.wrap n = n % 18446744073709551616 := by simp only [IntKind.wrap, IntKind.bits, IntKind.signed]; simp
  rw [this]
  omega
/-- The word of a number. -/
def uo (n : Int) : Nat := (n % 18446744073709551616).toNat
theorem uo_lt (n : Int) : uo n < 18446744073709551616 := by unfold uo; omega
def putS (U acc : Nat) (q : Nat × Nat × Nat) : Nat := acc ||| (U / 2 ^ q.2.2 % 2 ^ (q.1 - q.2.1 + 1) * 2 ^ q.2.1 % 4294967296)
theorem putS_lt {U acc : Nat} (q : Nat × Nat × Nat) (h : acc < 4294967296) : putS U acc q < 4294967296 := Nat.or_lt_two_pow (n := 32) h (Nat.mod_lt _ (by omega))
def okR (R : List (Nat × Nat × Nat)) : Prop := ∀ q ∈ R, q.2.1 ≤ q.1 ∧ q.1 ≤ 31 ∧ q.2.2 ≤ 31

theorem Put_loop (k imm : Int) (R : List (Nat × Nat × Nat)) (hR : okR R) (hl : R.length ≤ 100) (L : List V) : ∀ (d i : Nat) (s7 c : V) (acc : Nat) (x : List V), i + d = R.length → acc < 4294967296 →
    ∃ s7' i' c' x', evCI pg (.loop ir_field_Putl0) ⟨[.int .i64 k, .int .i64 imm, .int .u32 0, .bool false, .lp 0 0, .bool true, .int .u32 (acc : Int), s7, .bool false, .isl false (runsV R), .int .i64 (R.length : Int), .int .i64 (i : Int), c], ⟨[L, x], [], []⟩⟩ =
      some (.exit 0, ⟨[.int .i64 k, .int .i64 imm, .int .u32 0, .bool false, .lp 0 0, .bool true, .int .u32 (((R.drop i).foldl (putS (uo imm)) acc : Nat) : Int), s7', .bool false, .isl false (runsV R), .int .i64 (R.length : Int), i', c'], ⟨[L, x'], [], []⟩⟩)
  | 0, i, s7, c, acc, x, hd, ha => by
    have h : ¬ ((i : Int) < (R.length : Int)) := by omega
    have h' : ¬ (i < R.length) := by omega
    have hs := rfl (a := evCI pg ir_field_Putl0 ⟨[.int .i64 k, .int .i64 imm, .int .u32 0, .bool false, .lp 0 0, .bool true, .int .u32 (acc : Int), s7, .bool false, .isl false (runsV R), .int .i64 (R.length : Int), .int .i64 (i : Int), c], ⟨[L, x], [], []⟩⟩)
    conv at hs => rhs; simp [ir_field_Putl0, go_sem, h, h']
    rw [s_loop, hs, s_then_exit, List.drop_of_length_le (by omega)]
    exact ⟨_, _, _, _, rfl⟩
  | d + 1, i, s7, c, acc, x, hd, ha => by
    have h' : i < R.length := by omega
    have hdrop : R.drop i = R[i] :: R.drop (i + 1) := List.drop_eq_getElem_cons h'
    obtain ⟨q1, q2, q3⟩ := hR R[i] (List.getElem_mem _)
    have hel := runsV_el R i (by rw [runsV_len]; exact h')
    have hacc := putS_lt (U := uo imm) R[i] ha
    revert hel hacc hdrop q1 q2 q3
    generalize R[i] = q
    obtain ⟨hi, lo, at_⟩ := q
    intro hdrop q1 q2 q3 hel hacc
    simp only at q1 q2 q3 hel hacc
    have hU := uo_lt imm
    have e0 : IntKind.u64.wrap imm = (uo imm : Int) := wrap_u64_int imm
    have m1 : min at_ 64 = at_ := by omega
    have m2 : min lo 32 = lo := by omega
    have e1 : ((uo imm : Int)).fdiv (2 ^ at_) = ((uo imm / 2 ^ at_ : Nat) : Int) := shr_nat _ _
    have hdv : uo imm / 2 ^ at_ < 18446744073709551616 := Nat.lt_of_le_of_lt (Nat.div_le_self _ _) hU
    have e2 : IntKind.i64.wrap ((hi : Int) - (lo : Int)) = ((hi - lo : Nat) : Int) := by rw [wrap_i64 (by omega) (by omega)]; omega
    have e3 : IntKind.i64.wrap (((hi - lo : Nat) : Int) + 1) = ((hi - lo + 1 : Nat) : Int) := by rw [wrap_i64 (by omega) (by omega)]; rfl
    have hz := Zext_ok (uo imm / 2 ^ at_) ((hi - lo + 1 : Nat) : Int) hdv
    have hzz : zx (uo imm / 2 ^ at_) ((hi - lo + 1 : Nat) : Int) = uo imm / 2 ^ at_ % 2 ^ (hi - lo + 1) := by unfold zx; simp
    rw [hzz] at hz
    have e4 : IntKind.u32.wrap ((uo imm / 2 ^ at_ % 2 ^ (hi - lo + 1) : Nat) : Int) = ((uo imm / 2 ^ at_ % 2 ^ (hi - lo + 1) % 4294967296 : Nat) : Int) := wrap_u32 _
    have e5 : IntKind.u32.wrap (((uo imm / 2 ^ at_ % 2 ^ (hi - lo + 1) % 4294967296 : Nat) : Int) * 2 ^ lo) = ((uo imm / 2 ^ at_ % 2 ^ (hi - lo + 1) * 2 ^ lo % 4294967296 : Nat) : Int) := by rw [shl_nat, wrap_u32, Nat.mod_mul_mod]
    have e6 : orI .u32 (acc : Int) ((uo imm / 2 ^ at_ % 2 ^ (hi - lo + 1) * 2 ^ lo % 4294967296 : Nat) : Int) = ((putS (uo imm) acc (hi, lo, at_) : Nat) : Int) := by
      rw [or_u32 ha (Nat.mod_lt _ (by omega))]; rfl
    have e7 : IntKind.i64.wrap ((i : Int) + 1) = (i : Int) + 1 := wrap_i64 (by omega) (by omega)
    have hs := rfl (a := evCI pg ir_field_Putl0 ⟨[.int .i64 k, .int .i64 imm, .int .u32 0, .bool false, .lp 0 0, .bool true, .int .u32 (acc : Int), s7, .bool false, .isl false (runsV R), .int .i64 (R.length : Int), .int .i64 (i : Int), c], ⟨[L, x], [], []⟩⟩)
    conv at hs => rhs; simp [ir_field_Putl0, go_sem, h', runsV_len, hel, e0, m1, m2, e1, e2, e3, hz, e4, e5, e6, e7, IntKind.bits, -Int.natCast_emod, -Int.natCast_pow, -Int.natCast_ediv, -Int.natCast_add, -Int.natCast_mul]
    rw [s_loop, hs, s_then_nrm, hdrop, List.foldl_cons]
    exact Put_loop k imm R hR hl L d (i + 1) _ _ _ _ (by omega) hacc

/-- May an immediate be a format's, by the program's look? -/
def okB (k : Nat) (imm : Int) : Bool := decide (sx (uo imm) (bitsO k : Int) = uo imm) && decide (zx (uo imm) (lowO k : Int) = 0)
def wPut (k : Nat) (imm : Int) : Nat := (runsO k).foldl (putS (uo imm)) 0
theorem okR_of (k : Nat) (h1 : 1 ≤ k) (h5 : k ≤ 5) : okR (runsO k) ∧ (runsO k).length ≤ 100 := by
  have : k = 1 ∨ k = 2 ∨ k = 3 ∨ k = 4 ∨ k = 5 := by omega
  unfold okR
  rcases this with rfl | rfl | rfl | rfl | rfl <;> (constructor <;> simp [runsO])
theorem Put_ok (k : Nat) (imm : Int) (h1 : 1 ≤ k) (h5 : k ≤ 5) : evI pg .val n_field_Put [.int .i64 (k : Int), .int .i64 imm] [] = some (.tup [.int .u32 ((if okB k imm then wPut k imm else 0 : Nat) : Int), .bool (okB k imm)], []) := by
  obtain ⟨hR, hl⟩ := okR_of k h1 h5
  have e0 : IntKind.u64.wrap imm = (uo imm : Int) := wrap_u64_int imm
  have ho := of_ok k h1 h5
  have s1 := Sext_ok (uo imm) (bitsO k : Int) (uo_lt imm)
  have s2 := Zext_ok (uo imm) (lowO k : Int) (uo_lt imm)
  rw [s_fn fn_field_Put]
  by_cases c1 : sx (uo imm) (bitsO k : Int) = uo imm
  · by_cases c2 : zx (uo imm) (lowO k : Int) = 0
    · have hok : okB k imm = true := by simp [okB, c1, c2]
      obtain ⟨s7', i', c', x', hloop⟩ := Put_loop (k : Int) imm (runsO k) hR hl [.int .i64 (bitsO k : Int), .int .i64 (lowO k : Int), .isl false (runsV (runsO k))] (runsO k).length 0 .undef .undef 0 [] (by omega) (by omega)
      simp at hloop
      rw [hok, if_pos rfl]
      simp [ir_field_Put, go_sem, ho, e0, s1, s2, c1, c2, runsV_len, hloop, wPut]
    · have hok : okB k imm = false := by simp [okB, c2]
      rw [hok]
      simp [ir_field_Put, go_sem, ho, e0, s1, s2, c1, c2]
  · have hok : okB k imm = false := by simp [okB, c1]
    rw [hok]
    have c1' : ¬ ((sx (uo imm) (bitsO k : Int) : Nat) : Int) = (uo imm : Int) := by omega
    simp [ir_field_Put, go_sem, ho, e0, s1, s2, c1, c1']
theorem Put_bad (k imm : Int) (h : k < 1 ∨ 5 < k) : evI pg .val n_field_Put [.int .i64 k, .int .i64 imm] [] = some (.tup [.int .u32 0, .bool false], []) := by
  have ho := of_bad k h
  rw [s_fn fn_field_Put]
  simp [ir_field_Put, go_sem, ho]

theorem putS_bit (U acc : Nat) (q : Nat × Nat × Nat) (h : q.2.1 ≤ q.1) (h' : q.1 ≤ 31) (j : Nat) : (putS U acc q).testBit j = (acc.testBit j || (decide (q.2.1 ≤ j ∧ j ≤ q.1) && U.testBit (j - q.2.1 + q.2.2))) := by
  obtain ⟨hi, lo, a⟩ := q
  simp only at h h'
  unfold putS
  simp only
  rw [Nat.testBit_or]
  congr 1
  rw [show (4294967296 : Nat) = 2 ^ 32 from rfl, Nat.testBit_mod_two_pow, Nat.mul_comm, Nat.testBit_two_pow_mul, Nat.testBit_mod_two_pow, Nat.testBit_div_two_pow]
  by_cases c1 : lo ≤ j
  · by_cases c2 : j ≤ hi
    · have g1 : j < 32 := by omega
      have g2 : j - lo < hi - lo + 1 := by omega
      simp [c1, c2, g1, g2, Nat.add_comm]
    · have g2 : ¬ j - lo < hi - lo + 1 := by omega
      simp [c1, c2, g2]
  · simp [c1]
theorem fold_bit (U : Nat) : ∀ (R : List (Nat × Nat × Nat)) (acc : Nat), (∀ q ∈ R, q.2.1 ≤ q.1 ∧ q.1 ≤ 31) → ∀ j, (R.foldl (putS U) acc).testBit j = (acc.testBit j || R.any fun q => decide (q.2.1 ≤ j ∧ j ≤ q.1) && U.testBit (j - q.2.1 + q.2.2))
  | [], acc, _, j => by simp
  | q :: R, acc, h, j => by
    rw [List.foldl_cons, fold_bit U R _ (fun q hq => h q (by simp [hq])), putS_bit U acc q (h q (by simp)).1 (h q (by simp)).2, List.any_cons, Bool.or_assoc]
end Go.Proofs.Ytgcpojicidaphaa
