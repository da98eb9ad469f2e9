/- Layer 21: the roots behind an instruction (no claim; lemmas). -/
import Derived.Test.YtccdkkgimaajbaaDoorK21d
set_option linter.unusedSimpArgs false
set_option linter.unusedVariables false
namespace Go.Proofs.YtccdkkgimaajbaaDoor
open Go Go.Vm

/-- What the target's roots are. -/
def gvn (S : Nat → Nat) (at' : Nat) (x : In) : Nat := if giv x.op then 2 ^ at' else if srtO x.op = 6 ∨ srtO x.op = 7 then ofS S (srcs x) else 0
def bhd (S : Nat → Nat) (at' : Nat) (x : In) : Nat → Nat := if tgt x = 0 then S else up S (tgt x).toNat (gvn S at' x)
theorem tgt_le (x : In) : 0 ≤ tgt x ∧ tgt x ≤ 31 := by
  unfold tgt
  split
  · exact rg_le _
  · omega
theorem up_lt {n : Nat} {S : Nat → Nat} (hS : ∀ r, r < 32 → S r < 2 ^ n) (k W : Nat) (hW : W < 2 ^ n) : ∀ r, r < 32 → up S k W r < 2 ^ n := by
  intro r hr
  unfold up
  split
  · exact hW
  · exact hS r hr
theorem gvn_lt {n : Nat} {S : Nat → Nat} (hS : ∀ r, r < 32 → S r < 2 ^ n) {at' : Nat} (ha : at' < n) (x : In) : gvn S at' x < 2 ^ n := by
  unfold gvn
  split
  · exact Nat.pow_lt_pow_right (by omega) ha
  · split
    · exact ofS_lt hS _
    · exact Nat.two_pow_pos n
theorem bhd_lt {n : Nat} {S : Nat → Nat} (hS : ∀ r, r < 32 → S r < 2 ^ n) {at' : Nat} (ha : at' < n) (x : In) : ∀ r, r < 32 → bhd S at' x r < 2 ^ n := by
  unfold bhd
  split
  · exact hS
  · exact up_lt hS _ _ (gvn_lt hS ha x)
theorem srcs_len (x : In) : (srcs x).length ≤ 2 := by
  unfold srcs src0
  refine Nat.le_trans (List.length_filter_le _ _) ?_
  cases rd1 x.op <;> cases rd2 x.op <;> simp
theorem wc_one (b : Nat) (hb : b < 512) : splice (wc 0) (b / 64) [.int .u64 ((2 ^ (b % 64) : Nat) : Int)] = wc (2 ^ b) := by
  have e := wl_add 8 0 b (by omega)
  have e0 : wd 0 (b / 64) = 0 := by unfold wd; rw [Nat.zero_div, Nat.zero_mod]
  rw [e0, Nat.zero_or, Nat.zero_or] at e
  rw [splice_one _ _ _ (by rw [wc_len]; omega)]
  unfold wc
  rw [← e]
  unfold wvs
  rw [List.map_set]
section
variable (H : List Vm.Obj) (p : Nat) (S : Nat → Nat) (at' : Nat) (x : In) (h : H[p]? = some (.arr [rc S])) (ha : at' < 512)
include h ha
theorem behind_ok : evI pg .heap n_deps_roots_behind [.ptr p 0 0, .int .i64 (at' : Int), .agg (inV x)] H = some (.tup [], H.set p (.arr [rc (bhd S at' x)])) := by
  have hp := get_lt h
  have hg := get_el h hp
  have hT := Target_ok x
  have hG := gives_ok x
  have hS := SortO x.op
  have hQ := Sources_ok x
  have hO := of_ok true S (ils (iI (srcs x))) (srcs x) (.ils _) (by have := srcs_len x; omega)
  have ht := tgt_le x
  have him := fun vs tk => rc_imm S ⟨vs, tk, H⟩ true 6
  simp only [Nat.reduceAdd] at him
  have hset : H.set p (.arr [rc S]) = H := by
    apply List.ext_getElem?
    intro q
    by_cases c : p = q
    · subst c; rw [List.getElem?_set_self hp, h]
    · rw [List.getElem?_set_ne c]
  unfold bhd
  have hlen := rc_len S
  by_cases c0 : tgt x = 0
  · rw [if_pos c0, hset]
    rw [c0] at hT
    rw [s_fn fn_deps_roots_behind]
    simp [inV] at hT hG hQ ⊢
    simp [ir_deps_roots_behind, go_sem, hT, V.cells, loadAt]
  · rw [if_neg c0]
    obtain ⟨k, hk⟩ : ∃ k : Nat, tgt x = (k : Int) := ⟨(tgt x).toNat, by omega⟩
    rw [hk, Int.toNat_natCast]
    have hk32 : k < 32 := by omega
    have hk32' : (k : Int) < 32 := by omega
    have hx := asIx_nat (k := .i64) hk32
    have hk0 : ¬ (k : Int) = 0 := by omega
    have hk0' : ¬ k = 0 := by omega
    have hr := rc_set S (gvn S at' x) hk32
    have hl8 : k * 8 + 8 ≤ 256 := by omega
    have hsl := Sl.ils (iI (srcs x))
    rw [hk] at hT
    unfold gvn at hr ⊢
    rw [s_fn fn_deps_roots_behind]
    cases hgv : giv x.op with
    | true =>
      rw [hgv] at hG
      simp only [hgv, if_true] at hr ⊢
      have e0 : IntKind.i64.wrap ((at' : Int).tdiv 64) = ((at' / 64 : Nat) : Int) := (tdiv64 at').resolve_right (by omega)
      have e2 : ((at' : Int).tmod 64) = ((at' % 64 : Nat) : Int) := by rw [Int.tmod_eq_emod_of_nonneg (Int.natCast_nonneg _)]; omega
      have e0' : IntKind.i64.wrap ((at' : Int) / 64) = ((at' / 64 : Nat) : Int) := by rw [wrap_i64 (by omega) (by omega)]; omega
      have e2' : ((at' : Int) % 64) = ((at' % 64 : Nat) : Int) := by omega
      have h64 : at' % 64 < 64 := Nat.mod_lt _ (by omega)
      have hbk : at' / 64 < 8 := by omega
      have hpw : 2 ^ (at' % 64) < 18446744073709551616 := by
        have := Nat.pow_lt_pow_right (a := 2) (by omega) h64
        omega
      have e4 : IntKind.u64.wrap ((1 : Int) * 2 ^ (at' % 64)) = ((2 ^ (at' % 64) : Nat) : Int) := by
        rw [← wrap_u64' hpw]; simp
      have e4' : IntKind.u64.wrap ((2 : Int) ^ (at' % 64)) = ((2 ^ (at' % 64) : Nat) : Int) := by
        rw [← wrap_u64' hpw]; simp
      have hw0 : wd 0 (at' / 64) = 0 := by unfold wd; rw [Nat.zero_div, Nat.zero_mod]
      have hget := wc_get 0 hbk
      rw [hw0] at hget
      have e5 : orI .u64 (0 : Int) ((2 ^ (at' % 64) : Nat) : Int) = ((2 ^ (at' % 64) : Nat) : Int) := by
        have := or_u64 (a := 0) (by omega) hpw
        rwa [Nat.zero_or] at this
      have e6 := wc_one at' ha
      have hmn : min (at' % 64) 64 = at' % 64 := by omega
      have hxs := asIx_nat (k := .i64) hbk
      have hz := wc_len 0
      have hc8 := wc_len (2 ^ at')
      have ht8 := wc_take (2 ^ at')
      have hle1 : at' / 64 + 1 ≤ 8 := by omega
      simp only [inV] at hT hG hQ ⊢
      simp only [ir_deps_roots_behind, ← wc_zero]
      generalize wc (2 ^ at') = c2 at *
      generalize wc 0 = c0' at *
      generalize rc S = rcs at *
      generalize 2 ^ (at' % 64) = pw at *
      generalize at' % 64 = r at *
      generalize at' / 64 = s at *
      have hsl' : s < c0'.length := by omega
      have hrs : c0'[s] = .int .u64 0 := by
        rw [List.getElem?_eq_getElem hsl'] at hget; exact Option.some.inj hget
      rw [splice] at e6 hr
      have hbk' : (s : Int) < 8 := by omega
      simp [hc8] at e6 hr
      simp [go_sem, hT, hG, hS, hk0, hk0', V.cells, loadAt, evStore, splice, e0, e2, e0', e2', e4, e4', e5, e6, hmn, h, hp, hg, hget, hrs, hxs, hx, hz, hc8, ht8, hle1, hlen, hl8, hr, hbk', hk32', IntKind.bits, -Int.natCast_emod, -Int.natCast_pow, -Int.natCast_ediv, -Int.natCast_add, -Int.natCast_mul]
    | false =>
      rw [hgv] at hG
      simp only [hgv, Bool.false_eq_true, if_false] at hr ⊢
      have hz := wc_len 0
      by_cases c67 : srtO x.op = 6 ∨ srtO x.op = 7
      · rw [if_pos c67] at hr
        rw [if_pos c67]
        have hc8 := wc_len (ofS S (srcs x))
        have ht8 := wc_take (ofS S (srcs x))
        have hd8 : List.drop 8 (wc (ofS S (srcs x))) = [] := List.drop_of_length_le (by omega)
        have h7 := wc_clean (ofS S (srcs x)) 6
        simp only [Nat.reduceAdd] at h7
        simp only [inV] at hT hG hQ ⊢
        simp only [ir_deps_roots_behind, ← wc_zero]
        generalize wc (ofS S (srcs x)) = c2 at *
        generalize wc 0 = c0' at *
        have hd0 : List.drop 8 c0' = [] := List.drop_of_length_le (by omega)
        generalize rc S = rcs at *
        generalize ils (iI (srcs x)) = u at *
        rw [splice] at hr
        simp [hc8] at hr
        rcases c67 with e | e
        · rw [e] at hS
          simp [go_sem, hT, hG, hS, hQ, hO, him, hsl.is, hk0, hk0', V.cells, loadAt, evStore, splice, h, hp, hg, hx, hz, hc8, ht8, hd8, hd0, hlen, hl8, hr, hk32', h7, -Int.natCast_add, -Int.natCast_mul, -List.all_eq_true]
        · rw [e] at hS
          simp [go_sem, hT, hG, hS, hQ, hO, him, hsl.is, hk0, hk0', V.cells, loadAt, evStore, splice, h, hp, hg, hx, hz, hc8, ht8, hd8, hd0, hlen, hl8, hr, hk32', h7, -Int.natCast_add, -Int.natCast_mul, -List.all_eq_true]
      · rw [if_neg c67] at hr
        rw [if_neg c67]
        have n6 : ¬ srtO x.op = 6 := fun e => c67 (.inl e)
        have n7 : ¬ srtO x.op = 7 := fun e => c67 (.inr e)
        have n6' : ¬ (srtO x.op : Int) = 6 := by omega
        have n7' : ¬ (srtO x.op : Int) = 7 := by omega
        have ht0 := wc_take 0
        simp only [inV] at hT hG hQ ⊢
        simp only [ir_deps_roots_behind, ← wc_zero]
        generalize wc 0 = c0' at *
        generalize rc S = rcs at *
        rw [splice] at hr
        simp [hz] at hr
        simp [go_sem, hT, hG, hS, n6, n7, n6', n7', hk0, hk0', V.cells, loadAt, evStore, splice, h, hp, hg, hx, hz, ht0, hlen, hl8, hr, hk32', -Int.natCast_add, -Int.natCast_mul]
end
end Go.Proofs.YtccdkkgimaajbaaDoor
