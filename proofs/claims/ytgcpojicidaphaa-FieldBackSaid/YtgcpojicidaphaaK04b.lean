/- Layer 4: what the document's functions come to (no claim; lemmas). -/
import Derived.Test.YtgcpojicidaphaaK04a
set_option linter.unusedSimpArgs false
set_option linter.unusedVariables false
namespace Go.Proofs.Ytgcpojicidaphaa
open Go Go.Vm

def pI (k i : Nat) : Int := match plO k i with
  | some a => a
  | none => -1
def plV (k : Nat) : List V := (List.range 32).map fun i => .int .i64 (pI k i)
theorem plV_len (k : Nat) : (plV k).length = 32 := by simp [plV]
theorem plV_el (k i : Nat) (h : i < (plV k).length) : (plV k)[i] = .int .i64 (pI k i) := by simp [plV]
theorem Places_ok (k : Nat) (h1 : 1 ≤ k) (h5 : k ≤ 5) : evI pg .val n_undertowref04_Places [.int .i64 (k : Int)] [] = some (.agg (plV k), []) := by
  have : k = 1 ∨ k = 2 ∨ k = 3 ∨ k = 4 ∨ k = 5 := by omega
  rcases this with rfl | rfl | rfl | rfl | rfl
  · exact closed irL_ok 100 (by kernel_rfl)
  · exact closed irL_ok 100 (by kernel_rfl)
  · exact closed irL_ok 100 (by kernel_rfl)
  · exact closed irL_ok 100 (by kernel_rfl)
  · exact closed irL_ok 100 (by kernel_rfl)
theorem Mask_ok (k : Nat) (h1 : 1 ≤ k) (h5 : k ≤ 5) : evI pg .val n_field_Mask [.int .i64 (k : Int)] [] = some (.int .u32 ((mk 32 (fun i => (plO k i).isSome) : Nat) : Int), []) := by
  have : k = 1 ∨ k = 2 ∨ k = 3 ∨ k = 4 ∨ k = 5 := by omega
  rcases this with rfl | rfl | rfl | rfl | rfl
  · exact closed irL_ok 100 (by kernel_rfl)
  · exact closed irL_ok 100 (by kernel_rfl)
  · exact closed irL_ok 100 (by kernel_rfl)
  · exact closed irL_ok 100 (by kernel_rfl)
  · exact closed irL_ok 100 (by kernel_rfl)
theorem refMask_ok (k : Nat) (h1 : 1 ≤ k) (h5 : k ≤ 5) : evI pg .val n_undertowref04_Mask [.int .i64 (k : Int)] [] = some (.int .u32 ((mk 32 (fun i => (plO k i).isSome) : Nat) : Int), []) := by
  have : k = 1 ∨ k = 2 ∨ k = 3 ∨ k = 4 ∨ k = 5 := by omega
  rcases this with rfl | rfl | rfl | rfl | rfl
  · exact closed irL_ok 100 (by kernel_rfl)
  · exact closed irL_ok 100 (by kernel_rfl)
  · exact closed irL_ok 100 (by kernel_rfl)
  · exact closed irL_ok 100 (by kernel_rfl)
  · exact closed irL_ok 100 (by kernel_rfl)

/-! ### Put -/
def pf (k U j : Nat) : Bool := match plO k j with
  | some a => U.testBit a
  | none => false
theorem plO_lt (k i a : Nat) (h : plO k i = some a) (hi : i < 32) : a < 32 := by
  unfold plO at h
  repeat' split at h
  all_goals first | (cases h; done) | (cases h; omega)
theorem bit_cond {U a : Nat} (hU : U < 18446744073709551616) (ha : a < 64) : andI .u64 ((U / 2 ^ a : Nat) : Int) 1 = if U.testBit a then 1 else 0 := by
  have hl : U / 2 ^ a < 18446744073709551616 := Nat.lt_of_le_of_lt (Nat.div_le_self _ _) hU
  have := and_u64 hl (show 1 < 18446744073709551616 by omega)
  rw [testBit_and] at this
  rw [show (1 : Int) = ((1 : Nat) : Int) from rfl, this]
  split <;> rfl
theorem bit_cond32 {U a : Nat} (hU : U < 4294967296) : andI .u32 ((U / 2 ^ a : Nat) : Int) 1 = if U.testBit a then 1 else 0 := by
  have hl : U / 2 ^ a < 4294967296 := Nat.lt_of_le_of_lt (Nat.div_le_self _ _) hU
  have := and_u32 hl (show 1 < 4294967296 by omega)
  rw [testBit_and] at this
  rw [show (1 : Int) = ((1 : Nat) : Int) from rfl, this]
  split <;> rfl
theorem refPut_loop (k : Nat) (imm : Int) : ∀ (d i : Nat) (s6 s7 : V), i + d = 32 →
    ∃ i' s6' s7', evCI pg (.loop ir_undertowref04_Putl0) ⟨[.int .i64 k, .int .i64 imm, .int .u32 0, .lp 0 0, .int .u32 ((mk i (pf k (uo imm)) : Nat) : Int), .int .i64 (i : Int), s6, s7], ⟨[plV k], [], []⟩⟩ =
      some (.exit 0, ⟨[.int .i64 k, .int .i64 imm, .int .u32 0, .lp 0 0, .int .u32 ((mk 32 (pf k (uo imm)) : Nat) : Int), i', s6', s7'], ⟨[plV k], [], []⟩⟩)
  | 0, i, s6, s7, hd => by
    have hi : i = 32 := by omega
    subst hi
    have hs := rfl (a := evCI pg ir_undertowref04_Putl0 ⟨[.int .i64 k, .int .i64 imm, .int .u32 0, .lp 0 0, .int .u32 ((mk 32 (pf k (uo imm)) : Nat) : Int), .int .i64 ((32 : Nat) : Int), s6, s7], ⟨[plV k], [], []⟩⟩)
    conv at hs => rhs; simp [ir_undertowref04_Putl0, go_sem]
    rw [s_loop, hs, s_then_exit]
    exact ⟨_, _, _, rfl⟩
  | d + 1, i, s6, s7, hd => by
    have hi : i < 32 := by omega
    have hi' : (i : Int) < 32 := by omega
    have hU := uo_lt imm
    have e0 : IntKind.u64.wrap imm = (uo imm : Int) := wrap_u64_int imm
    have e7 : IntKind.i64.wrap ((i : Int) + 1) = (i : Int) + 1 := wrap_i64 (by omega) (by omega)
    have hml := mk_lt i (pf k (uo imm))
    have hp := pow_lt32 hi
    have hps := @Nat.pow_succ 2 i
    have hp1 : 2 ^ (i + 1) ≤ 4294967296 := Nat.pow_le_pow_right (n := 2) (by omega) (show i + 1 ≤ 32 by omega)
    cases hpl : plO k i with
    | none =>
      have hpi : pI k i = -1 := by unfold pI; rw [hpl]
      have hmk : mk (i + 1) (pf k (uo imm)) = mk i (pf k (uo imm)) := by simp [mk, pf, hpl]
      have hs := rfl (a := evCI pg ir_undertowref04_Putl0 ⟨[.int .i64 k, .int .i64 imm, .int .u32 0, .lp 0 0, .int .u32 ((mk i (pf k (uo imm)) : Nat) : Int), .int .i64 (i : Int), s6, s7], ⟨[plV k], [], []⟩⟩)
      conv at hs => rhs; simp [ir_undertowref04_Putl0, go_sem, hi, hi', plV_len, plV_el, hpi, e7]
      rw [s_loop, hs, s_then_nrm, ← hmk]
      exact refPut_loop k imm d (i + 1) _ _ (by omega)
    | some a =>
      have ha := plO_lt k i a hpl hi
      have hpi : pI k i = (a : Int) := by unfold pI; rw [hpl]
      have e1 : IntKind.u64.wrap (a : Int) = (a : Int) := wrap_u64' (by omega)
      have m1 : min a 64 = a := by omega
      have e2 : ((uo imm : Int)).fdiv (2 ^ a) = ((uo imm / 2 ^ a : Nat) : Int) := shr_nat _ _
      have e3 := bit_cond hU (show a < 64 by omega)
      have e4 : IntKind.u64.wrap (i : Int) = (i : Int) := wrap_u64' (by omega)
      have m2 : min i 32 = i := by omega
      have e5 : IntKind.u32.wrap ((2 : Int) ^ i) = ((2 ^ i : Nat) : Int) := by rw [← wrap_u32' hp]; simp
      cases hb : (uo imm).testBit a with
      | false =>
        have hmk : mk (i + 1) (pf k (uo imm)) = mk i (pf k (uo imm)) := by simp [mk, pf, hpl, hb]
        have hs := rfl (a := evCI pg ir_undertowref04_Putl0 ⟨[.int .i64 k, .int .i64 imm, .int .u32 0, .lp 0 0, .int .u32 ((mk i (pf k (uo imm)) : Nat) : Int), .int .i64 (i : Int), s6, s7], ⟨[plV k], [], []⟩⟩)
        conv at hs => rhs; simp [ir_undertowref04_Putl0, go_sem, hi, hi', plV_len, plV_el, hpi, e0, e1, e2, e3, e4, e5, e7, m1, m2, hb, IntKind.bits, -Int.natCast_emod, -Int.natCast_pow, -Int.natCast_ediv, -Int.natCast_add, -Int.natCast_mul]
        rw [s_loop, hs, s_then_nrm, ← hmk]
        exact refPut_loop k imm d (i + 1) _ _ (by omega)
      | true =>
        have hmk : mk (i + 1) (pf k (uo imm)) = mk i (pf k (uo imm)) + 2 ^ i := by simp [mk, pf, hpl, hb]
        have e6 : IntKind.u32.wrap (((mk i (pf k (uo imm)) : Nat) : Int) + ((2 ^ i : Nat) : Int)) = ((mk (i + 1) (pf k (uo imm)) : Nat) : Int) := by
          rw [hmk, ← Int.natCast_add, wrap_u32' (by omega)]
        have hs := rfl (a := evCI pg ir_undertowref04_Putl0 ⟨[.int .i64 k, .int .i64 imm, .int .u32 0, .lp 0 0, .int .u32 ((mk i (pf k (uo imm)) : Nat) : Int), .int .i64 (i : Int), s6, s7], ⟨[plV k], [], []⟩⟩)
        conv at hs => rhs; simp [ir_undertowref04_Putl0, go_sem, hi, hi', plV_len, plV_el, hpi, e0, e1, e2, e3, e4, e5, e6, e7, m1, m2, hb, IntKind.bits, -Int.natCast_emod, -Int.natCast_pow, -Int.natCast_ediv, -Int.natCast_add, -Int.natCast_mul]
        rw [s_loop, hs, s_then_nrm]
        exact refPut_loop k imm d (i + 1) _ _ (by omega)
theorem refPut_ok (k : Nat) (imm : Int) (h1 : 1 ≤ k) (h5 : k ≤ 5) : evI pg .val n_undertowref04_Put [.int .i64 (k : Int), .int .i64 imm] [] = some (.int .u32 ((mk 32 (pf k (uo imm)) : Nat) : Int), []) := by
  obtain ⟨i', a, b, h⟩ := refPut_loop k imm 32 0 .undef .undef (by omega)
  have hp := Places_ok k h1 h5
  have hm0 : mk 0 (pf k (uo imm)) = 0 := rfl
  rw [hm0] at h
  simp at h
  rw [s_fn fn_undertowref04_Put]
  simp [ir_undertowref04_Put, go_sem, hp, plV_len, h]
end Go.Proofs.Ytgcpojicidaphaa
