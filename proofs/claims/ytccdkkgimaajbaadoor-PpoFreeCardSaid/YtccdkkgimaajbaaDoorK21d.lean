/- Layer 21: the roots of all registers (no claim; lemmas). -/
import Derived.Test.YtccdkkgimaajbaaDoorK21c
set_option linter.unusedSimpArgs false
set_option linter.unusedVariables false
namespace Go.Proofs.YtccdkkgimaajbaaDoor
open Go Go.Vm

/-- All registers' sets, as cells. -/
def rc (S : Nat → Nat) : List V := (List.range 256).map fun c => .int .u64 ((wd (S (c / 8)) (c % 8) : Nat) : Int)
theorem rc_len (S : Nat → Nat) : (rc S).length = 256 := by simp [rc]
theorem rc_el (S : Nat → Nat) (i : Nat) (h : i < (rc S).length) : (rc S)[i] = .int .u64 ((wd (S (i / 8)) (i % 8) : Nat) : Int) := by simp [rc]
theorem wc_el (W : Nat) (i : Nat) (h : i < (wc W).length) : (wc W)[i] = .int .u64 ((wd W i : Nat) : Int) := by simp [wc, wvs, wl_el]
theorem rc_get (S : Nat → Nat) {r : Nat} (h : r < 32) : ((rc S).drop (r * 8)).take 8 = wc (S r) := by
  apply List.ext_getElem
  · rw [List.length_take, List.length_drop, rc_len, wc_len]; omega
  · intro j h1 h2
    rw [wc_len] at h2
    rw [List.getElem_take, List.getElem_drop, rc_el, wc_el]
    rw [show (r * 8 + j) / 8 = r by omega, show (r * 8 + j) % 8 = j by omega]
def up (S : Nat → Nat) (r W : Nat) : Nat → Nat := fun q => if q = r then W else S q
theorem rc_set (S : Nat → Nat) {r : Nat} (W : Nat) (h : r < 32) : splice (rc S) (r * 8) (wc W) = rc (up S r W) := by
  unfold splice
  rw [wc_len]
  apply List.ext_getElem
  · simp only [List.length_append, List.length_take, List.length_drop, rc_len, wc_len]; omega
  · intro j h1 h2
    rw [rc_len] at h2
    rw [rc_el]
    by_cases c1 : j < r * 8
    · rw [List.getElem_append_left (by simp only [List.length_append, List.length_take, rc_len]; omega), List.getElem_append_left (by simp only [List.length_take, rc_len]; omega), List.getElem_take, rc_el]
      have : ¬ j / 8 = r := by omega
      simp [up, this]
    · by_cases c2 : j < r * 8 + 8
      · rw [List.getElem_append_left (by simp only [List.length_append, List.length_take, rc_len, wc_len]; omega), List.getElem_append_right (by simp only [List.length_take, rc_len]; omega), wc_el]
        have e1 : j / 8 = r := by omega
        have e2 : j - (List.take (r * 8) (rc S)).length = j % 8 := by simp only [List.length_take, rc_len]; omega
        simp only [e2, up, e1, if_true]
      · rw [List.getElem_append_right (by simp only [List.length_append, List.length_take, rc_len, wc_len]; omega), List.getElem_drop, rc_el]
        have e2 : r * 8 + 8 + (j - (List.take (r * 8) (rc S) ++ wc W).length) = j := by simp only [List.length_append, List.length_take, rc_len, wc_len]; omega
        have : ¬ j / 8 = r := by omega
        simp only [e2, up, this, if_false]
theorem rc_imm (S : Nat → Nat) (m : Mem) (t : Bool) (d : Nat) : omap (toImm m t (d + 1)) (rc S) = some (rc S) := omap_same fun v hv => by
  obtain ⟨c, _, rfl⟩ := List.mem_map.1 hv
  rfl
theorem wc_imm (W : Nat) (m : Mem) (t : Bool) (d : Nat) : omap (toImm m t (d + 1)) (wc W) = some (wc W) := omap_same fun v hv => by
  obtain ⟨c, _, rfl⟩ := List.mem_map.1 hv
  rfl
theorem rc_flat (S : Nat → Nat) : flatAll [rc S] = true := by
  simp [flatAll, rc, V.flat]
/-- The roots of some registers together. -/
def ofS (S : Nat → Nat) (q : List Int) : Nat := q.foldl (fun W r => if 0 < r ∧ r < 32 then W ||| S r.toNat else W) 0
def ofF (S : Nat → Nat) (q : List Int) (W : Nat) : Nat := q.foldl (fun W r => if 0 < r ∧ r < 32 then W ||| S r.toNat else W) W
theorem of_loop (t : Bool) (S : Nat → Nat) (u : V) (q : List Int) (hu : Sl u (iI q)) (hq : q.length ≤ 1000) (i : Nat) (hi : i ≤ q.length) (W : Nat) (vs : List (List V)) :
    evCI pg (.loop ir_deps_roots_ofl0) ⟨[.ip t (rc S) 0, .undef, .lp 0 0, .ptr 0 0 0, .undef, u, .int .i64 (q.length : Int), .int .i64 (i : Int), .undef, .undef], ⟨vs, [], [.arr [wc W]]⟩⟩ =
      some (.exit 0, ⟨[.ip t (rc S) 0, .undef, .lp 0 0, .ptr 0 0 0, .undef, u, .int .i64 (q.length : Int), .int .i64 (q.length : Int), .bool false, .undef], ⟨vs, [], [.arr [wc (ofF S (q.drop i) W)]]⟩⟩) := by
  obtain ⟨B, hB⟩ : ∃ B, B = C.loop ir_deps_roots_ofl0 := ⟨_, rfl⟩
  by_cases h : i < q.length
  · have e1 := fun m => hu.ia (sz := 1) m .i64 (i := i) (by rw [iI_len]; exact h) (by simp [iI])
    simp only [iI_el] at e1
    have e3 := succ_i64 h (by omega)
    have hd : q.drop i = q[i] :: q.drop (i + 1) := List.drop_eq_getElem_cons h
    by_cases c : 0 < q[i] ∧ q[i] < 32
    · obtain ⟨r, hr⟩ : ∃ r : Nat, q[i] = (r : Int) := ⟨q[i].toNat, by omega⟩
      rw [hr] at e1 c
      have hr32 : r < 32 := by omega
      have c1 : (0 : Int) < (r : Int) := c.1
      have c2 : (r : Int) < 32 := c.2
      have c1n : 0 < r := by omega
      have ef : ofF S (q.drop i) W = ofF S (q.drop (i + 1)) (W ||| S r) := by
        rw [hd]; unfold ofF; rw [List.foldl_cons, hr, if_pos c]; rfl
      have ih := of_loop t S u q hu hq (i + 1) (by omega) (W ||| S r) vs
      have hj := join_ok [.arr [wc W]] 0 W (S r) rfl
      have hg := rc_get S hr32
      have hlen := rc_len S
      have hl8 : r * 8 + 8 ≤ 256 := by omega
      have hx := asIx_nat (k := .i64) hr32
      rw [ef, ← ih, ← hB]
      conv => lhs; rw [s_loop_at hB]
      generalize rc S = rcs at *
      generalize wc (S r) = cw at *
      generalize wc (W ||| S r) = cwo at *
      generalize wc W = cw0 at *
      simp only [List.set_cons_zero] at hj
      simp [ir_deps_roots_ofl0, go_sem, h, e1, e3, c1, c1n, c2, hx, hlen, loadAt, hl8, hg, hj, hu.is, -Int.natCast_add]
    · have ef : ofF S (q.drop i) W = ofF S (q.drop (i + 1)) W := by
        rw [hd]; unfold ofF; rw [List.foldl_cons, if_neg c]
      have ih := of_loop t S u q hu hq (i + 1) (by omega) W vs
      rw [ef, ← ih, ← hB]
      conv => lhs; rw [s_loop_at hB]
      generalize rc S = rcs at *
      generalize wc W = cw0 at *
      by_cases c1 : 0 < q[i]
      · have c2 : ¬ q[i] < 32 := fun d => c ⟨c1, d⟩
        simp [ir_deps_roots_ofl0, go_sem, h, e1, e3, c1, c2, hu.is, -Int.natCast_add]
      · simp [ir_deps_roots_ofl0, go_sem, h, e1, e3, c1, hu.is, -Int.natCast_add]
  · obtain rfl : i = q.length := by omega
    rw [← hB, s_loop_at hB, List.drop_length]
    simp [ir_deps_roots_ofl0, go_sem, ofF]
termination_by q.length - i
theorem of_ok (t : Bool) (S : Nat → Nat) (u : V) (q : List Int) (hu : Sl u (iI q)) (hq : q.length ≤ 1000) : evI pg .val n_deps_roots_of [.ip t (rc S) 0, u] [] = some (.agg (wc (ofS S q)), []) := by
  have hl := of_loop t S u q hu hq 0 (by omega) 0 [[.int .u64 0, .int .u64 0, .int .u64 0, .int .u64 0, .int .u64 0, .int .u64 0, .int .u64 0, .int .u64 0]]
  rw [List.drop_zero, Int.natCast_zero] at hl
  have e : ofF S q 0 = ofS S q := rfl
  rw [e, wc_zero] at hl
  have ht := wc_take (ofS S q)
  have hlen := wc_len (ofS S q)
  have hcl := wc_clean (ofS S q)
  have hti := fun (m : Mem) => wc_imm (ofS S q) m false 6
  simp only [Nat.reduceAdd] at hti
  have h7 := hcl 6
  simp only [Nat.reduceAdd] at h7
  rw [s_fn fn_deps_roots_of]
  generalize wc (ofS S q) = cw at *
  have hd8 : List.drop 8 cw = [] := List.drop_of_length_le (by omega)
  generalize rc S = rcs at *
  simp [ir_deps_roots_of, go_sem, hu.is, hu.rows, iI_len, hl, V.cells, hlen, loadAt, ht, evStore, splice, hcl, h7, hd8, hti, -List.all_eq_true]
theorem ofF_lt {n : Nat} {S : Nat → Nat} (hS : ∀ r, r < 32 → S r < 2 ^ n) : ∀ (q : List Int) (W : Nat), W < 2 ^ n → ofF S q W < 2 ^ n
  | [], W, h => h
  | r :: q, W, h => by
    unfold ofF
    rw [List.foldl_cons]
    refine ofF_lt hS q _ ?_
    split
    · rename_i c
      have hr : r.toNat < 32 := by clear h hS; omega
      exact Nat.or_lt_two_pow h (hS _ hr)
    · exact h
theorem ofS_lt {n : Nat} {S : Nat → Nat} (hS : ∀ r, r < 32 → S r < 2 ^ n) (q : List Int) : ofS S q < 2 ^ n := ofF_lt hS q 0 (Nat.two_pow_pos n)
end Go.Proofs.YtccdkkgimaajbaaDoor
