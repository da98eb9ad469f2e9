/- Layer 1: what its functions come to (no claim; lemmas). -/
import Derived.Test.YtlkcfhpklibnaaaVf
import Derived.Test.YtlkcfhpklibnaaaIr
set_option linter.unusedSimpArgs false
set_option linter.unusedVariables false
namespace Go.Proofs.Ytlkcfhpklibnaaa
open Go Go.Vm

/-- The low bits of a word. -/
def zx (x : Nat) (n : Int) : Nat := x % 2 ^ n.toNat
theorem zx_lt {x : Nat} {n : Int} (hx : x < 18446744073709551616) : zx x n < 18446744073709551616 := Nat.lt_of_le_of_lt (Nat.mod_le _ _) hx
theorem pow_lt {k : Nat} (h : k < 64) : 2 ^ k < 18446744073709551616 := by
  have := Nat.pow_lt_pow_right (a := 2) (by omega) h
  omega
theorem pow_le {k : Nat} (h : 64 ≤ k) : 18446744073709551616 ≤ 2 ^ k := Nat.pow_le_pow_right (n := 2) (by omega) h

theorem Zext_ok (x : Nat) (n : Int) (hx : x < 18446744073709551616) : evI pg .val n_word_Zext [.int .u64 x, .int .i64 n] [] = some (.int .u64 (zx x n : Nat), []) := by
  unfold zx
  rw [s_fn fn_word_Zext]
  by_cases h : n < 1
  · have e : n.toNat = 0 := by omega
    simp [ir_word_Zext, go_sem, h, e, Nat.mod_one]
  · by_cases h' : 64 ≤ n
    · have e : x % 2 ^ n.toNat = x := Nat.mod_eq_of_lt (Nat.lt_of_lt_of_le hx (pow_le (by omega)))
      simp [ir_word_Zext, go_sem, h, h', e]
    · obtain ⟨k, rfl⟩ : ∃ k : Nat, n = k := ⟨n.toNat, by omega⟩
      have hk : k < 64 := by omega
      have hp := pow_lt hk
      have h0 : 0 < 2 ^ k := Nat.two_pow_pos k
      have e1 : IntKind.u64.wrap (2 ^ k) = ((2 ^ k : Nat) : Int) := by rw [← wrap_u64' hp]; simp
      have e2 : IntKind.u64.wrap (((2 ^ k : Nat) : Int) - 1) = ((2 ^ k - 1 : Nat) : Int) := by rw [← wrap_u64' (by omega : 2 ^ k - 1 < _)]; congr 1; omega
      have e3 : andI .u64 (x : Int) ((2 ^ k - 1 : Nat) : Int) = ((x % 2 ^ k : Nat) : Int) := by rw [and_u64 hx (by omega), Nat.and_two_pow_sub_one_eq_mod]
      simp [ir_word_Zext, go_sem, h, h', min_nat, Nat.min_eq_left (Nat.le_of_lt hk), IntKind.bits, e1, e2, e3, -Int.natCast_pow, -Int.natCast_emod]

/-- The low bits with their sign. -/
def sx (x : Nat) (n : Int) : Nat := if n < 1 ∨ 64 ≤ n then zx x n else zx x n + if x.testBit (n.toNat - 1) then 18446744073709551616 - 2 ^ n.toNat else 0
theorem sx_pre (x k : Nat) (h0 : 1 ≤ k) (h : k < 64) : x * 2 ^ (64 - k) % 18446744073709551616 = x % 2 ^ k * 2 ^ (64 - k) := by
  have e : (18446744073709551616 : Nat) = 2 ^ k * 2 ^ (64 - k) := by rw [← Nat.pow_add, Nat.add_sub_cancel' (by omega)]
  rw [e, Nat.mul_mod_mul_right]
theorem half_pow (k : Nat) (h0 : 1 ≤ k) : 2 ^ k = 2 * 2 ^ (k - 1) := by
  obtain ⟨j, rfl⟩ : ∃ j, k = j + 1 := ⟨k - 1, by omega⟩
  simp [Nat.pow_succ]; omega
/-! ### fields -/
def fld (w : Nat) (hi lo : Int) : Nat := if lo < 0 ∨ 31 < hi ∨ hi < lo then 0 else w / 2 ^ lo.toNat % 2 ^ (hi - lo + 1).toNat
theorem pow_lt32 {k : Nat} (h : k < 32) : 2 ^ k < 4294967296 := by
  have := Nat.pow_lt_pow_right (a := 2) (by omega) h
  omega
/-- A list of bytes as it stands. -/
def byV (l : List Nat) : List (List V) := l.map fun x : Nat => [.int .u8 (x : Int)]
theorem byV_len (l : List Nat) : (byV l).length = l.length := by simp [byV]
theorem byV_imm (l : List Nat) : immAll (byV l) = true := by simp [immAll, byV, V.imm]
theorem byV_sz (l : List Nat) : szAll 1 (byV l) = true := by simp [szAll, byV]
theorem byV_get (l : List Nat) (i : Nat) (h : i < l.length) : (byV l)[i]? = some [.int .u8 (l[i] : Int)] := by simp [byV, h]
theorem byV_el (l : List Nat) (i : Nat) (h : i < (byV l).length) : (byV l)[i] = [.int .u8 ((l[i]'(by simpa [byV] using h) : Nat) : Int)] := by simp [byV]
theorem byV_append (l l' : List Nat) : byV (l ++ l') = byV l ++ byV l' := by simp [byV]
/-- A word's first bytes. -/
def byl (x : Nat) (k : Nat) : List Nat := (List.range k).map fun i => x / 256 ^ i % 256
theorem byl_len (x k : Nat) : (byl x k).length = k := by simp [byl]
theorem byl_succ (x k : Nat) : byl x (k + 1) = byl x k ++ [x / 256 ^ k % 256] := by simp [byl, List.range_succ]
theorem byl_lt (x k : Nat) : ∀ b ∈ byl x k, b < 256 := by
  intro b hb
  simp only [byl, List.mem_map] at hb
  obtain ⟨i, _, rfl⟩ := hb
  exact Nat.mod_lt _ (by omega)
/-- How many bytes. -/
def clm (n : Int) : Nat := (min n 8).toNat
theorem clm_le (n : Int) : clm n ≤ 8 := by unfold clm; omega

theorem Bytes_loop (x : Nat) (n : Int) (hx : x < 18446744073709551616) (k : Nat) (hk : k ≤ 8) (L : Int) (hL : ∀ i : Nat, ((i : Int) < L ↔ i < k)) : ∀ (d i : Nat) (r c : V), i + d = k →
    ∃ x' i' c', evCI pg (.loop ir_word_Bytesl0) ⟨[.int .u64 ((x / 256 ^ i : Nat) : Int), .int .i64 n, r, .osl false 0 (byV (byl x i)), .int .i64 L, .int .i64 (i : Int), c], ⟨[], [i], []⟩⟩ =
      some (.exit 0, ⟨[x', .int .i64 n, r, .osl false 0 (byV (byl x k)), .int .i64 L, i', c'], ⟨[], [k], []⟩⟩)
  | 0, i, r, c, hd => by
    have hik : i = k := by omega
    subst hik
    have h : ¬ ((i : Int) < L) := by rw [hL]; omega
    have hs := rfl (a := evCI pg ir_word_Bytesl0 ⟨[.int .u64 ((x / 256 ^ i : Nat) : Int), .int .i64 n, r, .osl false 0 (byV (byl x i)), .int .i64 L, .int .i64 (i : Int), c], ⟨[], [i], []⟩⟩)
    conv at hs => rhs; simp [ir_word_Bytesl0, go_sem, h, -Int.natCast_emod, -Int.natCast_pow, -Int.natCast_ediv, -Int.natCast_add, -Int.natCast_mul]
    rw [s_loop, hs, s_then_exit]
    exact ⟨_, _, _, rfl⟩
  | d + 1, i, r, c, hd => by
    have h : (i : Int) < L := by rw [hL]; omega
    have hlt : x / 256 ^ i < 18446744073709551616 := Nat.lt_of_le_of_lt (Nat.div_le_self _ _) hx
    have e1 : IntKind.u8.wrap ((x / 256 ^ i : Nat) : Int) = ((x / 256 ^ i % 256 : Nat) : Int) := wrap_u8 _
    have e2 : (((x / 256 ^ i : Nat) : Int)).fdiv (2 ^ 8) = ((x / 256 ^ (i + 1) : Nat) : Int) := by
      have hp := @Nat.pow_succ 256 i
      rw [shr_nat, Nat.div_div_eq_div_mul, show 256 ^ i * 2 ^ 8 = 256 ^ (i + 1) by omega]
    have e2' : (((x / 256 ^ i : Nat) : Int)).fdiv 256 = ((x / 256 ^ (i + 1) : Nat) : Int) := e2
    have e3 : IntKind.i64.wrap ((i : Int) + 1) = (i : Int) + 1 := wrap_i64 (by omega) (by omega)
    have ha := app_osl (k := 2) (sz := 1) (by_ := 1) (j := 0) (es := byV (byl x i)) (ns := byV [x / 256 ^ i % 256]) (m := ⟨[], [i], []⟩) (y := .els (byV [x / 256 ^ i % 256])) rfl (by simp [fits, maxB, byV_len, byl_len]; omega)
      (by rw [← byV_append]; exact byV_imm _) (by rw [← byV_append]; exact byV_sz _) (by simp [byV_len, byl_len])
    rw [← byV_append, ← byl_succ] at ha
    simp only [byV_len, byl_len, List.length_cons, List.length_nil, List.set_cons_zero, Nat.zero_add] at ha
    have ha' : appV 2 1 1 ⟨[], [i], []⟩ (.osl false 0 (byV (byl x i))) (.els [[.int .u8 ((x / 256 ^ i % 256 : Nat) : Int)]]) = some (.osl false 0 (byV (byl x (i + 1))), ⟨[], [i + 1], []⟩) := ha
    have hs := rfl (a := evCI pg ir_word_Bytesl0 ⟨[.int .u64 ((x / 256 ^ i : Nat) : Int), .int .i64 n, r, .osl false 0 (byV (byl x i)), .int .i64 L, .int .i64 (i : Int), c], ⟨[], [i], []⟩⟩)
    conv at hs => rhs; simp [ir_word_Bytesl0, go_sem, h, e1, e2, e2', e3, ha', litParts, V.cells, V.flat, IntKind.bits, -Int.natCast_emod, -Int.natCast_pow, -Int.natCast_ediv, -Int.natCast_add, -Int.natCast_mul]
    rw [s_loop, hs, s_then_nrm]
    exact Bytes_loop x n hx k hk L hL d (i + 1) _ _ (by omega)
theorem Bytes_ok (x : Nat) (n : Int) (hx : x < 18446744073709551616) : evI pg .val n_word_Bytes [.int .u64 x, .int .i64 n] [] = some (ils (byV (byl x (clm n))), []) := by
  have hL : ∀ i : Nat, ((i : Int) < (if 8 < n then 8 else n) ↔ i < clm n) := by intro i; unfold clm; split <;> omega
  obtain ⟨x', i', c', h⟩ := Bytes_loop x n hx (clm n) (clm_le n) _ hL (clm n) 0 .nils .undef (by omega)
  have e : byV (byl x 0) = [] := rfl
  rw [Nat.pow_zero, Nat.div_one, e] at h
  rw [s_fn fn_word_Bytes]
  simp only [Int.natCast_zero, Int.cast_ofNat_Int, Int.ofNat_zero] at h
  by_cases h8 : 8 < n
  · rw [if_pos h8] at h
    simp [ir_word_Bytes, go_sem, h8, h]
  · rw [if_neg h8] at h
    simp [ir_word_Bytes, go_sem, h8, h]
/-! ### the same lists -/
/-- May a range be? -/
def isR (a n : Int) : Bool := decide (0 ≤ a ∧ a ≤ 1099511627776 ∧ 1 ≤ n ∧ n ≤ 8)
/-- Do ranges meet? -/
def ovl (a n b m : Int) : Bool := isR a n && isR b m && decide (a < b + m) && decide (b < a + n)
/-- Is an address a multiple of a size? -/
def algn (a n : Int) : Bool := decide ((n = 1 ∨ n = 2 ∨ n = 4 ∨ n = 8) ∧ 0 ≤ a ∧ a % n = 0)
/-- The number of bytes. -/
def ofN : List Nat → Nat
  | [] => 0
  | b :: l => b + 256 * ofN l
theorem ofN_lt : ∀ (l : List Nat), (∀ b ∈ l, b < 256) → ofN l < 256 ^ l.length
  | [], _ => by simp [ofN]
  | b :: l, h => by
    have h1 := ofN_lt l fun x hx => h x (by simp [hx])
    have h2 := h b (by simp)
    have hp := @Nat.pow_succ 256 l.length
    simp only [ofN, List.length_cons]
    omega
theorem ofN_append : ∀ (l l' : List Nat), ofN (l ++ l') = ofN l + 256 ^ l.length * ofN l'
  | [], l' => by simp [ofN]
  | b :: l, l' => by
    have hp := @Nat.pow_succ 256 l.length
    simp only [List.cons_append, ofN, ofN_append l l', List.length_cons, hp]
    rw [Nat.mul_add, Nat.add_assoc, ← Nat.mul_assoc, Nat.mul_comm 256 (256 ^ l.length)]
theorem ofN_byl (x : Nat) : ∀ k, ofN (byl x k) = x % 256 ^ k
  | 0 => by simp [byl, ofN, Nat.mod_one]
  | k + 1 => by
    rw [byl_succ, ofN_append, ofN_byl x k, byl_len, Nat.pow_succ, Nat.mod_mul]
    simp [ofN]
theorem pow256 {i : Nat} (h : i ≤ 8) : 256 ^ i ≤ 18446744073709551616 := Nat.pow_le_pow_right (n := 256) (by omega) h
theorem pow256' {i : Nat} (h : i ≤ 7) : 256 ^ i ≤ 72057594037927936 := Nat.pow_le_pow_right (n := 256) (by omega) h
end Go.Proofs.Ytlkcfhpklibnaaa
