/- Layer 1: the word of bytes (no claim; lemmas). -/
import Derived.Test.YtblaimfdeiccpaaK01b
set_option linter.unusedSimpArgs false
set_option linter.unusedVariables false
namespace Go.Proofs.Ytblaimfdeiccpaa
open Go Go.Vm

/-- The number of bytes. -/
def ofN : List Nat → Nat
  | [] => 0
  | b :: l => b + 256 * ofN l
theorem ofN_lt : ∀ (l : List Nat), (∀ b ∈ l, b < 256) → ofN l < 256 ^ l.length
  | [], _ => by simp [ofN]
  | b :: l, h => by
    have h1 := ofN_lt l fun x hx => h x (by simp [hx])
    have h2 := h b (by simp)
    have hp := @Nat.pow_succ 256 l.length
    simp only [ofN, List.length_cons]
    omega
theorem ofN_append : ∀ (l l' : List Nat), ofN (l ++ l') = ofN l + 256 ^ l.length * ofN l'
  | [], l' => by simp [ofN]
  | b :: l, l' => by
    have hp := @Nat.pow_succ 256 l.length
    simp only [List.cons_append, ofN, ofN_append l l', List.length_cons, hp]
    rw [Nat.mul_add, Nat.add_assoc, ← Nat.mul_assoc, Nat.mul_comm 256 (256 ^ l.length)]
theorem ofN_byl (x : Nat) : ∀ k, ofN (byl x k) = x % 256 ^ k
  | 0 => by simp [byl, ofN, Nat.mod_one]
  | k + 1 => by
    rw [byl_succ, ofN_append, ofN_byl x k, byl_len, Nat.pow_succ, Nat.mod_mul]
    simp [ofN]
theorem pow256 {i : Nat} (h : i ≤ 8) : 256 ^ i ≤ 18446744073709551616 := Nat.pow_le_pow_right (n := 256) (by omega) h
theorem pow256' {i : Nat} (h : i ≤ 7) : 256 ^ i ≤ 72057594037927936 := Nat.pow_le_pow_right (n := 256) (by omega) h
theorem Of_loop (l : List Nat) (hb : ∀ b ∈ l, b < 256) (hl : l.length ≤ 9223372036854775807) (m : Mem) : ∀ (j : Nat) (r c : V), j ≤ l.length → j ≤ 8 →
    ∃ i' c', evCI pg (.loop ir_word_Ofl0) ⟨[.isl false (byV l), r, .int .u64 ((ofN ((l.take 8).drop j) : Nat) : Int), .int .i64 ((j : Int) - 1), c], m⟩ =
      some (.exit 0, ⟨[.isl false (byV l), r, .int .u64 ((ofN (l.take 8) : Nat) : Int), i', c'], m⟩)
  | 0, r, c, hj, h8 => by
    have h : ¬ (0 : Int) ≤ ((0 : Nat) : Int) - 1 := by omega
    have hs := rfl (a := evCI pg ir_word_Ofl0 ⟨[.isl false (byV l), r, .int .u64 ((ofN ((l.take 8).drop 0) : Nat) : Int), .int .i64 (((0 : Nat) : Int) - 1), c], m⟩)
    conv at hs => rhs; simp [ir_word_Ofl0, go_sem, h]
    rw [s_loop, hs, s_then_exit]
    exact ⟨_, _, rfl⟩
  | j + 1, r, c, hj, h8 => by
    have ec : ((j + 1 : Nat) : Int) - 1 = (j : Int) := by omega
    rw [ec]
    have hjl : j < l.length := by omega
    have hg := byV_get l j hjl
    have hbj := hb l[j] (List.getElem_mem _)
    have hdrop : (l.take 8).drop j = l[j] :: (l.take 8).drop (j + 1) := by
      rw [List.drop_eq_getElem_cons (by simp; omega)]
      simp
    have hof : ofN ((l.take 8).drop j) = l[j] + 256 * ofN ((l.take 8).drop (j + 1)) := by rw [hdrop]; rfl
    have hlt : ofN ((l.take 8).drop (j + 1)) < 72057594037927936 := by
      have h1 := ofN_lt ((l.take 8).drop (j + 1)) fun b h => hb b (List.mem_of_mem_take (List.mem_of_mem_drop h))
      have h2 : 256 ^ ((l.take 8).drop (j + 1)).length ≤ 72057594037927936 := pow256' (by simp; omega)
      omega
    have e1 : IntKind.u64.wrap (((ofN ((l.take 8).drop (j + 1)) : Nat) : Int) * 256) = ((256 * ofN ((l.take 8).drop (j + 1)) : Nat) : Int) := by
      rw [← wrap_u64' (by omega : 256 * ofN ((l.take 8).drop (j + 1)) < 18446744073709551616)]
      congr 1; omega
    have e2 : IntKind.u64.wrap (l[j] : Int) = (l[j] : Int) := wrap_u64' (by omega)
    have e3 : orI .u64 ((256 * ofN ((l.take 8).drop (j + 1)) : Nat) : Int) (l[j] : Int) = ((ofN ((l.take 8).drop j) : Nat) : Int) := by
      rw [or_u64 (by omega) (by omega), hof]
      have := Nat.two_pow_add_eq_or_of_lt (i := 8) (show l[j] < 2 ^ 8 by omega) (ofN ((l.take 8).drop (j + 1)))
      have e8 : 256 * ofN ((l.take 8).drop (j + 1)) ||| l[j] = l[j] + 256 * ofN ((l.take 8).drop (j + 1)) := by
        rw [Nat.add_comm (l[j])]; exact this.symm
      rw [e8]
    have e5 : IntKind.i64.wrap ((j : Int) - 1) = (j : Int) - 1 := wrap_i64 (by omega) (by omega)
    have hs := rfl (a := evCI pg ir_word_Ofl0 ⟨[.isl false (byV l), r, .int .u64 ((ofN ((l.take 8).drop (j + 1)) : Nat) : Int), .int .i64 (j : Int), c], m⟩)
    conv at hs => rhs; simp [ir_word_Ofl0, go_sem, byV_len, byV_el, hjl, hg, e1, e2, e3, e5, IntKind.bits, -Int.natCast_emod, -Int.natCast_pow, -Int.natCast_ediv, -Int.natCast_add, -Int.natCast_mul]
    rw [s_loop, hs, s_then_nrm]
    exact Of_loop l hb hl m j _ _ (by omega) (by omega)
theorem Of_ok (l : List Nat) (hb : ∀ b ∈ l, b < 256) (hl : l.length ≤ 9223372036854775807) : evI pg .val n_word_Of [.isl false (byV l)] [] = some (.int .u64 (ofN (l.take 8) : Nat), []) := by
  obtain ⟨i', c', h⟩ := Of_loop l hb hl ⟨[], [], []⟩ (min l.length 8) (.int .u64 0) .undef (by omega) (by omega)
  have e0 : (l.take 8).drop (min l.length 8) = [] := by apply List.drop_eq_nil_of_le; simp; omega
  rw [e0] at h
  simp only [ofN, Int.natCast_zero, Int.cast_ofNat_Int, Int.ofNat_zero] at h
  rw [s_fn fn_word_Of]
  by_cases h8 : 8 < l.length
  · have e : min l.length 8 = 8 := by omega
    rw [e] at h
    have h8' : (8 : Int) < (l.length : Int) := by omega
    have e5 : IntKind.i64.wrap (7 : Int) = 7 := rfl
    simp at h
    simp [ir_word_Of, go_sem, byV_len, h8, h8', e5, h]
  · have e : min l.length 8 = l.length := by omega
    rw [e] at h
    have h8' : ¬ (8 : Int) < (l.length : Int) := by omega
    have e5 : IntKind.i64.wrap ((l.length : Int) - 1) = (l.length : Int) - 1 := wrap_i64 (by omega) (by omega)
    simp [ir_word_Of, go_sem, byV_len, h8, h8', e5, h]
theorem Of_nil : evI pg .val n_word_Of [.nils] [] = some (.int .u64 0, []) := closed irL_ok 50 (by kernel_rfl)
theorem refOf_nil : evI pg .val n_undertowref01_Of [.nils] [] = some (.int .u64 0, []) := closed irL_ok 50 (by kernel_rfl)
theorem refOf_loop (l : List Nat) (hb : ∀ b ∈ l, b < 256) (hl : l.length ≤ 9223372036854775807) (m : Mem) : ∀ (d i : Nat) (r c : V), i + d = min l.length 8 →
    ∃ p' i' c', evCI pg (.loop ir_undertowref01_Ofl0) ⟨[.isl false (byV l), r, .int .u64 ((ofN (l.take i) : Nat) : Int), .int .u64 ((256 ^ i % 18446744073709551616 : Nat) : Int), .int .i64 (i : Int), c], m⟩ =
      some (.exit 0, ⟨[.isl false (byV l), r, .int .u64 ((ofN (l.take 8) : Nat) : Int), p', i', c'], m⟩)
  | 0, i, r, c, hd => by
    have e : l.take i = l.take 8 := by
      by_cases h : l.length ≤ 8
      · rw [List.take_of_length_le (by omega), List.take_of_length_le h]
      · rw [show i = 8 by omega]
    rw [e]
    by_cases h : (i : Int) < (l.length : Int)
    · have h8 : ¬ ((i : Int) < 8) := by omega
      have hn : i < l.length := by omega
      have hs := rfl (a := evCI pg ir_undertowref01_Ofl0 ⟨[.isl false (byV l), r, .int .u64 ((ofN (l.take 8) : Nat) : Int), .int .u64 ((256 ^ i % 18446744073709551616 : Nat) : Int), .int .i64 (i : Int), c], m⟩)
      conv at hs => rhs; simp [ir_undertowref01_Ofl0, go_sem, byV_len, h, hn, h8, -Int.natCast_emod, -Int.natCast_pow, -Int.natCast_ediv, -Int.natCast_add, -Int.natCast_mul]
      rw [s_loop, hs, s_then_exit]
      exact ⟨_, _, _, rfl⟩
    · have hn : ¬ i < l.length := by omega
      have hs := rfl (a := evCI pg ir_undertowref01_Ofl0 ⟨[.isl false (byV l), r, .int .u64 ((ofN (l.take 8) : Nat) : Int), .int .u64 ((256 ^ i % 18446744073709551616 : Nat) : Int), .int .i64 (i : Int), c], m⟩)
      conv at hs => rhs; simp [ir_undertowref01_Ofl0, go_sem, byV_len, h, hn, -Int.natCast_emod, -Int.natCast_pow, -Int.natCast_ediv, -Int.natCast_add, -Int.natCast_mul]
      rw [s_loop, hs, s_then_exit]
      exact ⟨_, _, _, rfl⟩
  | d + 1, i, r, c, hd => by
    have hn : i < l.length := by omega
    have h8 : (i : Int) < 8 := by omega
    have hg := byV_get l i hn
    have hbi := hb l[i] (List.getElem_mem _)
    have hp7 := pow256' (show i ≤ 7 by omega)
    have ep : 256 ^ i % 18446744073709551616 = 256 ^ i := Nat.mod_eq_of_lt (by omega)
    have hps := @Nat.pow_succ 256 i
    have htake : l.take (i + 1) = l.take i ++ [l[i]] := by rw [List.take_succ_eq_append_getElem hn]
    have hof : ofN (l.take (i + 1)) = ofN (l.take i) + 256 ^ i * l[i] := by
      rw [htake, ofN_append]
      simp [ofN, Nat.min_eq_left (Nat.le_of_lt hn)]
    have hlt : ofN (l.take (i + 1)) < 18446744073709551616 := by
      have h1 := ofN_lt (l.take (i + 1)) fun b h => hb b (List.mem_of_mem_take h)
      have h2 : 256 ^ (l.take (i + 1)).length ≤ 18446744073709551616 := pow256 (by simp; omega)
      omega
    have e1 : IntKind.u64.wrap (l[i] : Int) = (l[i] : Int) := wrap_u64' (by omega)
    have e2 : IntKind.u64.wrap (((256 ^ i : Nat) : Int) * (l[i] : Int)) = ((256 ^ i * l[i] : Nat) : Int) := by rw [← Int.natCast_mul, wrap_u64' (by omega)]
    have e3 : IntKind.u64.wrap (((ofN (l.take i) : Nat) : Int) + ((256 ^ i * l[i] : Nat) : Int)) = ((ofN (l.take (i + 1)) : Nat) : Int) := by rw [← Int.natCast_add, ← hof, wrap_u64' hlt]
    have e4 : IntKind.u64.wrap (((256 ^ i : Nat) : Int) * 256) = ((256 ^ (i + 1) % 18446744073709551616 : Nat) : Int) := by
      rw [hps]; exact wrap_u64 (256 ^ i * 256)
    have e5 : IntKind.i64.wrap ((i : Int) + 1) = (i : Int) + 1 := wrap_i64 (by omega) (by omega)
    rw [ep]
    have hs := rfl (a := evCI pg ir_undertowref01_Ofl0 ⟨[.isl false (byV l), r, .int .u64 ((ofN (l.take i) : Nat) : Int), .int .u64 ((256 ^ i : Nat) : Int), .int .i64 (i : Int), c], m⟩)
    conv at hs => rhs; simp [ir_undertowref01_Ofl0, go_sem, byV_len, byV_el, hn, h8, hg, e1, e2, e3, e4, e5, -Int.natCast_emod, -Int.natCast_pow, -Int.natCast_ediv, -Int.natCast_add, -Int.natCast_mul]
    rw [s_loop, hs, s_then_nrm]
    exact refOf_loop l hb hl m d (i + 1) _ _ (by omega)
theorem refOf_ok (l : List Nat) (hb : ∀ b ∈ l, b < 256) (hl : l.length ≤ 9223372036854775807) : evI pg .val n_undertowref01_Of [.isl false (byV l)] [] = some (.int .u64 (ofN (l.take 8) : Nat), []) := by
  obtain ⟨p', i', c', h⟩ := refOf_loop l hb hl ⟨[], [], []⟩ (min l.length 8) 0 (.int .u64 0) .undef (by omega)
  simp [ofN] at h
  rw [s_fn fn_undertowref01_Of]
  simp [ir_undertowref01_Of, go_sem, byV_len, h]
end Go.Proofs.Ytblaimfdeiccpaa
