/- Layer 1: bytes (no claim; lemmas). -/
import Derived.Test.YtblaimfdeiccpaaK01
set_option linter.unusedSimpArgs false
set_option linter.unusedVariables false
namespace Go.Proofs.Ytblaimfdeiccpaa
open Go Go.Vm

attribute [go_sem] killV V.loc
/-- A list of bytes as it stands. -/
def byV (l : List Nat) : List (List V) := l.map fun x : Nat => [.int .u8 (x : Int)]
theorem byV_len (l : List Nat) : (byV l).length = l.length := by simp [byV]
theorem byV_imm (l : List Nat) : immAll (byV l) = true := by simp [immAll, byV, V.imm]
theorem byV_sz (l : List Nat) : szAll 1 (byV l) = true := by simp [szAll, byV]
theorem byV_get (l : List Nat) (i : Nat) (h : i < l.length) : (byV l)[i]? = some [.int .u8 (l[i] : Int)] := by simp [byV, h]
theorem byV_el (l : List Nat) (i : Nat) (h : i < (byV l).length) : (byV l)[i] = [.int .u8 ((l[i]'(by simpa [byV] using h) : Nat) : Int)] := by simp [byV]
theorem byV_append (l l' : List Nat) : byV (l ++ l') = byV l ++ byV l' := by simp [byV]
/-- A word's first bytes. -/
def byl (x : Nat) (k : Nat) : List Nat := (List.range k).map fun i => x / 256 ^ i % 256
theorem byl_len (x k : Nat) : (byl x k).length = k := by simp [byl]
theorem byl_succ (x k : Nat) : byl x (k + 1) = byl x k ++ [x / 256 ^ k % 256] := by simp [byl, List.range_succ]
theorem byl_lt (x k : Nat) : ∀ b ∈ byl x k, b < 256 := by
  intro b hb
  simp only [byl, List.mem_map] at hb
  obtain ⟨i, _, rfl⟩ := hb
  exact Nat.mod_lt _ (by omega)
/-- How many bytes. -/
def clm (n : Int) : Nat := (min n 8).toNat
theorem clm_le (n : Int) : clm n ≤ 8 := by unfold clm; omega

theorem Bytes_loop (x : Nat) (n : Int) (hx : x < 18446744073709551616) (k : Nat) (hk : k ≤ 8) (L : Int) (hL : ∀ i : Nat, ((i : Int) < L ↔ i < k)) : ∀ (d i : Nat) (r c : V), i + d = k →
    ∃ x' i' c', evCI pg (.loop ir_word_Bytesl0) ⟨[.int .u64 ((x / 256 ^ i : Nat) : Int), .int .i64 n, r, .osl false 0 (byV (byl x i)), .int .i64 L, .int .i64 (i : Int), c], ⟨[], [i], []⟩⟩ =
      some (.exit 0, ⟨[x', .int .i64 n, r, .osl false 0 (byV (byl x k)), .int .i64 L, i', c'], ⟨[], [k], []⟩⟩)
  | 0, i, r, c, hd => by
    have hik : i = k := by omega
    subst hik
    have h : ¬ ((i : Int) < L) := by rw [hL]; omega
    have hs := rfl (a := evCI pg ir_word_Bytesl0 ⟨[.int .u64 ((x / 256 ^ i : Nat) : Int), .int .i64 n, r, .osl false 0 (byV (byl x i)), .int .i64 L, .int .i64 (i : Int), c], ⟨[], [i], []⟩⟩)
    conv at hs => rhs; simp [ir_word_Bytesl0, go_sem, h, -Int.natCast_emod, -Int.natCast_pow, -Int.natCast_ediv, -Int.natCast_add, -Int.natCast_mul]
    rw [s_loop, hs, s_then_exit]
    exact ⟨_, _, _, rfl⟩
  | d + 1, i, r, c, hd => by
    have h : (i : Int) < L := by rw [hL]; omega
    have hlt : x / 256 ^ i < 18446744073709551616 := Nat.lt_of_le_of_lt (Nat.div_le_self _ _) hx
    have e1 : IntKind.u8.wrap ((x / 256 ^ i : Nat) : Int) = ((x / 256 ^ i % 256 : Nat) : Int) := wrap_u8 _
    have e2 : (((x / 256 ^ i : Nat) : Int)).fdiv (2 ^ 8) = ((x / 256 ^ (i + 1) : Nat) : Int) := by
      have hp := @Nat.pow_succ 256 i
      rw [shr_nat, Nat.div_div_eq_div_mul, show 256 ^ i * 2 ^ 8 = 256 ^ (i + 1) by omega]
    have e2' : (((x / 256 ^ i : Nat) : Int)).fdiv 256 = ((x / 256 ^ (i + 1) : Nat) : Int) := e2
    have e3 : IntKind.i64.wrap ((i : Int) + 1) = (i : Int) + 1 := wrap_i64 (by omega) (by omega)
    have ha := app_osl (k := 2) (sz := 1) (by_ := 1) (j := 0) (es := byV (byl x i)) (ns := byV [x / 256 ^ i % 256]) (m := ⟨[], [i], []⟩) (y := .els (byV [x / 256 ^ i % 256])) rfl (by simp [fits, maxB, byV_len, byl_len]; omega)
      (by rw [← byV_append]; exact byV_imm _) (by rw [← byV_append]; exact byV_sz _) (by simp [byV_len, byl_len])
    rw [← byV_append, ← byl_succ] at ha
    simp only [byV_len, byl_len, List.length_cons, List.length_nil, List.set_cons_zero, Nat.zero_add] at ha
    have ha' : appV 2 1 1 ⟨[], [i], []⟩ (.osl false 0 (byV (byl x i))) (.els [[.int .u8 ((x / 256 ^ i % 256 : Nat) : Int)]]) = some (.osl false 0 (byV (byl x (i + 1))), ⟨[], [i + 1], []⟩) := ha
    have hs := rfl (a := evCI pg ir_word_Bytesl0 ⟨[.int .u64 ((x / 256 ^ i : Nat) : Int), .int .i64 n, r, .osl false 0 (byV (byl x i)), .int .i64 L, .int .i64 (i : Int), c], ⟨[], [i], []⟩⟩)
    conv at hs => rhs; simp [ir_word_Bytesl0, go_sem, h, e1, e2, e2', e3, ha', litParts, V.cells, V.flat, IntKind.bits, -Int.natCast_emod, -Int.natCast_pow, -Int.natCast_ediv, -Int.natCast_add, -Int.natCast_mul]
    rw [s_loop, hs, s_then_nrm]
    exact Bytes_loop x n hx k hk L hL d (i + 1) _ _ (by omega)
theorem Bytes_ok (x : Nat) (n : Int) (hx : x < 18446744073709551616) : evI pg .val n_word_Bytes [.int .u64 x, .int .i64 n] [] = some (.isl false (byV (byl x (clm n))), []) := by
  have hL : ∀ i : Nat, ((i : Int) < (if 8 < n then 8 else n) ↔ i < clm n) := by intro i; unfold clm; split <;> omega
  obtain ⟨x', i', c', h⟩ := Bytes_loop x n hx (clm n) (clm_le n) _ hL (clm n) 0 .nils .undef (by omega)
  have e : byV (byl x 0) = [] := rfl
  rw [Nat.pow_zero, Nat.div_one, e] at h
  rw [s_fn fn_word_Bytes]
  simp only [Int.natCast_zero, Int.cast_ofNat_Int, Int.ofNat_zero] at h
  by_cases h8 : 8 < n
  · rw [if_pos h8] at h
    simp [ir_word_Bytes, go_sem, h8, h]
  · rw [if_neg h8] at h
    simp [ir_word_Bytes, go_sem, h8, h]
theorem refBytes_loop (x : Nat) (n : Int) (hx : x < 18446744073709551616) : ∀ (d i : Nat) (r c : V), i + d = clm n →
    ∃ x' i' c', evCI pg (.loop ir_undertowref01_Bytesl0) ⟨[.int .u64 ((x / 256 ^ i : Nat) : Int), .int .i64 n, r, .osl false 0 (byV (byl x i)), .int .i64 (i : Int), c], ⟨[], [i], []⟩⟩ =
      some (.exit 0, ⟨[x', .int .i64 n, r, .osl false 0 (byV (byl x (clm n))), i', c'], ⟨[], [clm n], []⟩⟩)
  | 0, i, r, c, hd => by
    have hik : i = clm n := by omega
    by_cases h : (i : Int) < n
    · have h8 : ¬ ((i : Int) < 8) := by unfold clm at hik; omega
      rw [← hik]
      have hs := rfl (a := evCI pg ir_undertowref01_Bytesl0 ⟨[.int .u64 ((x / 256 ^ i : Nat) : Int), .int .i64 n, r, .osl false 0 (byV (byl x i)), .int .i64 (i : Int), c], ⟨[], [i], []⟩⟩)
      conv at hs => rhs; simp [ir_undertowref01_Bytesl0, go_sem, h, h8, -Int.natCast_emod, -Int.natCast_pow, -Int.natCast_ediv, -Int.natCast_add, -Int.natCast_mul]
      rw [s_loop, hs, s_then_exit]
      exact ⟨_, _, _, rfl⟩
    · rw [← hik]
      have hs := rfl (a := evCI pg ir_undertowref01_Bytesl0 ⟨[.int .u64 ((x / 256 ^ i : Nat) : Int), .int .i64 n, r, .osl false 0 (byV (byl x i)), .int .i64 (i : Int), c], ⟨[], [i], []⟩⟩)
      conv at hs => rhs; simp [ir_undertowref01_Bytesl0, go_sem, h, -Int.natCast_emod, -Int.natCast_pow, -Int.natCast_ediv, -Int.natCast_add, -Int.natCast_mul]
      rw [s_loop, hs, s_then_exit]
      exact ⟨_, _, _, rfl⟩
  | d + 1, i, r, c, hd => by
    have h : (i : Int) < n := by unfold clm at hd; omega
    have h8 : (i : Int) < 8 := by unfold clm at hd; omega
    have hlt : x / 256 ^ i < 18446744073709551616 := Nat.lt_of_le_of_lt (Nat.div_le_self _ _) hx
    have e0 : (((x / 256 ^ i : Nat) : Int)).tmod 256 = ((x / 256 ^ i % 256 : Nat) : Int) := by rw [Int.tmod_eq_emod_of_nonneg (Int.natCast_nonneg _)]; rfl
    have e1 : IntKind.u8.wrap ((x / 256 ^ i % 256 : Nat) : Int) = ((x / 256 ^ i % 256 : Nat) : Int) := wrap_u8' (Nat.mod_lt _ (by omega))
    have e2 : IntKind.u64.wrap ((((x / 256 ^ i : Nat) : Int)).tdiv 256) = ((x / 256 ^ (i + 1) : Nat) : Int) := by
      have : (((x / 256 ^ i : Nat) : Int)).tdiv 256 = ((x / 256 ^ (i + 1) : Nat) : Int) := by
        rw [Int.tdiv_eq_ediv_of_nonneg (Int.natCast_nonneg _), Nat.pow_succ, ← Nat.div_div_eq_div_mul]; rfl
      rw [this, wrap_u64' (Nat.lt_of_le_of_lt (Nat.div_le_self _ _) hx)]
    have e2' : IntKind.u64.wrap (((x / 256 ^ i : Nat) : Int) / 256) = ((x / 256 ^ (i + 1) : Nat) : Int) := by
      rw [← e2, Int.tdiv_eq_ediv_of_nonneg (Int.natCast_nonneg _)]
    have e3 : IntKind.i64.wrap ((i : Int) + 1) = (i : Int) + 1 := wrap_i64 (by omega) (by omega)
    have ha := app_osl (k := 2) (sz := 1) (by_ := 1) (j := 0) (es := byV (byl x i)) (ns := byV [x / 256 ^ i % 256]) (m := ⟨[], [i], []⟩) (y := .els (byV [x / 256 ^ i % 256])) rfl (by simp [fits, maxB, byV_len, byl_len]; omega)
      (by rw [← byV_append]; exact byV_imm _) (by rw [← byV_append]; exact byV_sz _) (by simp [byV_len, byl_len])
    rw [← byV_append, ← byl_succ] at ha
    simp only [byV_len, byl_len, List.length_cons, List.length_nil, List.set_cons_zero, Nat.zero_add] at ha
    have ha' : appV 2 1 1 ⟨[], [i], []⟩ (.osl false 0 (byV (byl x i))) (.els [[.int .u8 ((x / 256 ^ i % 256 : Nat) : Int)]]) = some (.osl false 0 (byV (byl x (i + 1))), ⟨[], [i + 1], []⟩) := ha
    have hs := rfl (a := evCI pg ir_undertowref01_Bytesl0 ⟨[.int .u64 ((x / 256 ^ i : Nat) : Int), .int .i64 n, r, .osl false 0 (byV (byl x i)), .int .i64 (i : Int), c], ⟨[], [i], []⟩⟩)
    conv at hs => rhs; simp [ir_undertowref01_Bytesl0, go_sem, h, h8, e0, e1, e2, e2', e3, ha', litParts, V.cells, V.flat, IntKind.bits, -Int.natCast_emod, -Int.natCast_pow, -Int.natCast_ediv, -Int.natCast_add, -Int.natCast_mul]
    rw [s_loop, hs, s_then_nrm]
    exact refBytes_loop x n hx d (i + 1) _ _ (by omega)
theorem refBytes_ok (x : Nat) (n : Int) (hx : x < 18446744073709551616) : evI pg .val n_undertowref01_Bytes [.int .u64 x, .int .i64 n] [] = some (.isl false (byV (byl x (clm n))), []) := by
  obtain ⟨x', i', c', h⟩ := refBytes_loop x n hx (clm n) 0 .nils .undef (by omega)
  have e : byV (byl x 0) = [] := rfl
  rw [Nat.pow_zero, Nat.div_one, e] at h
  simp only [Int.natCast_zero, Int.cast_ofNat_Int, Int.ofNat_zero] at h
  rw [s_fn fn_undertowref01_Bytes]
  simp [ir_undertowref01_Bytes, go_sem, h]

/-! ### the same lists -/
theorem SameBytes_loop (l : List Nat) (hl : l.length ≤ 9223372036854775806) (m : Mem) : ∀ (d i : Nat) (r s4 s5 s6 : V), i + d = l.length →
    ∃ i' s5' s6', evCI pg (.loop ir_undertowref01_SameBytesl0) ⟨[.isl false (byV l), .isl false (byV l), r, .int .i64 (i : Int), s4, s5, s6], m⟩ = some (.exit 0, ⟨[.isl false (byV l), .isl false (byV l), r, i', s4, s5', s6'], m⟩)
  | 0, i, r, s4, s5, s6, hd => by
    have h : ¬ ((i : Int) < (l.length : Int)) := by omega
    have hs := rfl (a := evCI pg ir_undertowref01_SameBytesl0 ⟨[.isl false (byV l), .isl false (byV l), r, .int .i64 (i : Int), s4, s5, s6], m⟩)
    have h' : ¬ i < l.length := by omega
    conv at hs => rhs; simp [ir_undertowref01_SameBytesl0, go_sem, h, h', byV_len]
    rw [s_loop, hs, s_then_exit]
    exact ⟨_, _, _, rfl⟩
  | d + 1, i, r, s4, s5, s6, hd => by
    have h : i < l.length := by omega
    have hg := byV_get l i h
    have e3 : IntKind.i64.wrap ((i : Int) + 1) = (i : Int) + 1 := wrap_i64 (by omega) (by omega)
    have hs := rfl (a := evCI pg ir_undertowref01_SameBytesl0 ⟨[.isl false (byV l), .isl false (byV l), r, .int .i64 (i : Int), s4, s5, s6], m⟩)
    conv at hs => rhs; simp [ir_undertowref01_SameBytesl0, go_sem, h, byV_len, byV_el, hg, e3]
    rw [s_loop, hs, s_then_nrm]
    exact SameBytes_loop l hl m d (i + 1) _ _ _ _ (by omega)
theorem SameBytes_ok (l : List Nat) (hl : l.length ≤ 9223372036854775806) : evI pg .val n_undertowref01_SameBytes [.isl false (byV l), .isl false (byV l)] [] = some (.bool true, []) := by
  obtain ⟨i', a, b, h⟩ := SameBytes_loop l hl ⟨[], [], []⟩ l.length 0 (.bool false) (.bool false) .undef .undef (by omega)
  simp only [Int.natCast_zero, Int.cast_ofNat_Int, Int.ofNat_zero] at h
  rw [s_fn fn_undertowref01_SameBytes]
  simp [ir_undertowref01_SameBytes, go_sem, byV_len, h]
end Go.Proofs.Ytblaimfdeiccpaa
