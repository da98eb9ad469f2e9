/- Layer 19: rows of rows on the heap (no claim; lemmas). -/
import Derived.Test.YtccdkkgimaajbaaDoorK19c
set_option linter.unusedSimpArgs false
set_option linter.unusedVariables false
namespace Go.Proofs.YtccdkkgimaajbaaDoor
open Go Go.Vm

theorem get_lt {H : List Vm.Obj} {p : Nat} {o : Vm.Obj} (h : H[p]? = some o) : p < H.length := (List.getElem?_eq_some_iff.1 h).1
theorem get_el {H : List Vm.Obj} {p : Nat} {o : Vm.Obj} (h : H[p]? = some o) (hl : p < H.length) : H[p] = o := (List.getElem?_eq_some_iff.1 h).2
/-- What is on the heap of rows of rows: `T` the upper one, `I` the others. -/
structure MatAt (H : List Vm.Obj) (v : V) (n k T : Nat) (I : Nat → Nat) (R : Nat → List (List V)) : Prop where
  top : (n = 0 ∧ v = .nils) ∨ (0 < n ∧ v = .rsl T 0 n ∧ H[T]? = some (.arr ((List.range n).map fun a => [.rsl (I a) 0 k])))
  row : ∀ a, a < n → H[I a]? = some (.arr (R a))
  len : ∀ a, a < n → (R a).length = k
  inj : ∀ a b, a < n → b < n → I a = I b → a = b
  sep : ∀ a, a < n → I a ≠ T
/-- Its objects. -/
def mft (n T : Nat) (I : Nat → Nat) (q : Nat) : Prop := (0 < n ∧ q = T) ∨ ∃ a, a < n ∧ q = I a
section
variable {H : List Vm.Obj} {v : V} {n k T : Nat} {I : Nat → Nat} {R : Nat → List (List V)} (h : MatAt H v n k T I R)
include h
theorem MatAt.frame {H' : List Vm.Obj} (hf : ∀ q, mft n T I q → H'[q]? = H[q]?) : MatAt H' v n k T I R := by
  refine ⟨?_, fun a ha => by rw [hf _ (.inr ⟨a, ha, rfl⟩)]; exact h.row a ha, h.len, h.inj, h.sep⟩
  rcases h.top with h1 | ⟨h1, h2, h3⟩
  · exact .inl h1
  · exact .inr ⟨h1, h2, by rw [hf T (.inl ⟨h1, rfl⟩)]; exact h3⟩
theorem MatAt.lt {q : Nat} (hq : mft n T I q) : q < H.length := by
  rcases hq with ⟨h0, rfl⟩ | ⟨a, ha, rfl⟩
  · rcases h.top with ⟨h1, _⟩ | ⟨_, _, h3⟩
    · omega
    · exact get_lt h3
  · exact get_lt (h.row a ha)
theorem MatAt.pos (hn : 0 < n) : v = .rsl T 0 n ∧ H[T]? = some (.arr ((List.range n).map fun a => [.rsl (I a) 0 k])) := by
  rcases h.top with ⟨h1, _⟩ | ⟨_, h2, h3⟩
  · omega
  · exact ⟨h2, h3⟩
/-- A row is turned. -/
theorem MatAt.set {a : Nat} (ha : a < n) (r : List (List V)) (hr : r.length = k) : MatAt (H.set (I a) (.arr r)) v n k T I (fun b => if b = a then r else R b) := by
  have hal := get_lt (h.row a ha)
  refine ⟨?_, fun b hb => ?_, fun b hb => ?_, h.inj, h.sep⟩
  · rcases h.top with h1 | ⟨h1, h2, h3⟩
    · exact .inl h1
    · exact .inr ⟨h1, h2, by rw [List.getElem?_set_ne (h.sep a ha)]; exact h3⟩
  · by_cases c : b = a
    · subst c; simp [hal]
    · rw [List.getElem?_set_ne (fun e => c (h.inj _ _ ha hb e).symm), if_neg c]; exact h.row b hb
  · by_cases c : b = a
    · simp [c, hr]
    · simp only [c, if_false]; exact h.len b hb
theorem MatAt.congr {R' : Nat → List (List V)} (hR : ∀ a, a < n → R' a = R a) : MatAt H v n k T I R' :=
  ⟨h.top, fun a ha => by rw [hR a ha]; exact h.row a ha, fun a ha => by rw [hR a ha]; exact h.len a ha, h.inj, h.sep⟩
/-- The upper one, looked at. -/
theorem MatAt.ia {a : Nat} (ha : a < n) (vs : List (List V)) (tk : List Nat) : iaSV 1 ⟨vs, tk, H⟩ v (.int .i64 (a : Int)) = some (.ptr T a 0) ∧ (∀ ag : Bool, ag = false → evLoad ag 1 ⟨vs, tk, H⟩ (.ptr T a 0) = some (.rsl (I a) 0 k)) := by
  obtain ⟨h1, h2⟩ := h.pos (by omega)
  subst h1
  have hT := get_lt h2
  constructor
  · rw [e_ia_rsl]
    simp [asIx_nat ha, h2, ha]
  · intro ag hag
    subst hag
    rw [e_load_ptr]
    simp [h2, ha, loadAt]
theorem MatAt.exp : v.exp = some v ∧ v.flat = true ∧ v.loc = none := by
  rcases h.top with ⟨_, h1⟩ | ⟨_, h1, _⟩ <;> subst h1 <;> exact ⟨rfl, rfl, rfl⟩
theorem MatAt.vlen : lenV v = some n := by
  rcases h.top with ⟨h0, h1⟩ | ⟨_, h1, _⟩ <;> subst h1
  · rw [h0]; rfl
  · rfl
/-- As it is handed by its contents. -/
theorem MatAt.imm (t : Bool) (hR : ∀ a, a < n → ∀ e ∈ R a, ∀ x ∈ e, ∀ m d, toImm m t (d + 1) x = some x) : ∃ u rows, Sl u rows ∧ rows.length = n ∧ (∀ (a : Nat) (h : a < rows.length), rows[a] = [.isl t (R a)]) ∧ (∀ vs tk d, toImm ⟨vs, tk, H⟩ t (d + 3) v = some u) ∧
    (t = false → (∀ a, a < n → ∀ e ∈ R a, ∀ x ∈ e, ∀ d, clean (d + 1) x = true) → ∀ d, clean (d + 3) u = true) := by
  rcases h.top with ⟨h0, h1⟩ | ⟨h0, h1, h2⟩
  · subst h1; subst h0
    exact ⟨.nils, [], .nils, rfl, fun a h => by simp at h, fun _ _ _ => rfl, fun _ _ _ => rfl⟩
  · subst h1
    refine ⟨.isl t ((List.range n).map fun a => [.isl t (R a)]), _, .isl _ _, by simp, fun a h => by simp, fun vs tk d => ?_, fun ht hc d => ?_⟩
    · have key : ∀ l : List Nat, (∀ a ∈ l, a < n) → omap2 (toImm ⟨vs, tk, H⟩ t (d + 2)) (l.map fun a => [V.rsl (I a) 0 k]) = some (l.map fun a => [V.isl t (R a)]) := by
        intro l
        induction l with
        | nil => intro _; rfl
        | cons a l ih =>
          intro hl
          have ha := hl a (by simp)
          have hrow := h.row a ha
          have hlen := h.len a ha
          have hsame : omap2 (toImm ⟨vs, tk, H⟩ t (d + 1)) (R a) = some (R a) := omap2_same fun q hq x hx => hR a ha q hq x hx _ _
          have e1 : toImm ⟨vs, tk, H⟩ t (d + 2) (.rsl (I a) 0 k) = some (.isl t (R a)) := by
            rw [e_imm_rsl]
            simp only [hrow]
            rw [if_pos (by omega), List.drop_zero, List.take_of_length_le (by omega), hsame]
            rfl
          simp only [List.map_cons, omap2, omap, e1, ih (fun b hb => hl b (by simp [hb]))]
      rw [e_imm_rsl]
      simp only [h2]
      rw [if_pos (by simp), List.drop_zero, List.take_of_length_le (by simp), key _ (fun a ha => List.mem_range.1 ha)]
      rfl
    · subst ht
      simp only [clean, Bool.not_false, Bool.true_and, List.all_eq_true]
      intro e he x hx
      obtain ⟨a, ha, rfl⟩ := List.mem_map.1 he
      simp only [List.mem_singleton] at hx
      subst hx
      simp only [clean, Bool.not_false, Bool.true_and, List.all_eq_true]
      exact fun e' he' x' hx' => hc a (List.mem_range.1 ha) e' he' x' hx' d
end
theorem wR_imm {l : List Nat} : ∀ e ∈ wR l, ∀ x ∈ e, ∀ (m : Mem) (t : Bool) (d : Nat), toImm m t (d + 1) x = some x := by
  intro e he x hx m t d
  obtain ⟨w, _, rfl⟩ := List.mem_map.1 he
  simp at hx; subst hx; rfl
theorem wR_clean {l : List Nat} : ∀ e ∈ wR l, ∀ x ∈ e, ∀ d, clean (d + 1) x = true := by
  intro e he x hx d
  obtain ⟨w, _, rfl⟩ := List.mem_map.1 he
  simp at hx; subst hx; rfl

/-! ### rows of bits are turned -/
theorem wl_or (k W U : Nat) : wl k (W ||| U) = (List.range k).map fun j => wd W j ||| wd U j := by
  unfold wl
  apply List.map_congr_left
  intro j _
  apply Nat.eq_of_testBit_eq
  intro i
  rw [Nat.testBit_or, wd_bit, wd_bit, wd_bit, Nat.testBit_or]
  cases decide (i < 64) <;> simp
theorem wR_set (l : List Nat) (i x : Nat) : (wR l).set i [.int .u64 (x : Int)] = wR (l.set i x) := by simp [wR, List.map_set]
theorem wl_add (k W b : Nat) (hb : b < 64 * k) : (wl k W).set (b / 64) (wd W (b / 64) ||| 2 ^ (b % 64)) = wl k (W ||| 2 ^ b) := by
  apply List.ext_getElem
  · simp [wl]
  · intro i h1 h2
    rw [wl_len] at h2
    rw [List.getElem_set, wl_el, wl_el]
    apply Nat.eq_of_testBit_eq
    intro j
    by_cases c : b / 64 = i
    · rw [if_pos c, Nat.testBit_or, wd_bit, wd_bit, Nat.testBit_or, Nat.testBit_two_pow, Nat.testBit_two_pow, c]
      by_cases hj : j < 64
      · have : (decide (b % 64 = j)) = decide (b = 64 * i + j) := by
          apply decide_eq_decide.2; omega
        simp [hj, this]
      · have : ¬ b % 64 = j := by omega
        simp [hj, this]
    · rw [if_neg c, wd_bit, wd_bit, Nat.testBit_or, Nat.testBit_two_pow]
      by_cases hj : j < 64
      · have : ¬ b = 64 * i + j := by omega
        simp [this]
      · simp [hj]
theorem row_add_ok (H : List Vm.Obj) (id k W b : Nat) (h : H[id]? = some (.arr (wR (wl k W)))) (hk : k ≤ 8) (hb : b < 64 * k) :
    evI pg .heap n_rel_row_add [.rsl id 0 k, .int .i64 (b : Int)] H = some (.tup [], H.set id (.arr (wR (wl k (W ||| 2 ^ b))))) := by
  have e0 : IntKind.i64.wrap ((b : Int).tdiv 64) = ((b / 64 : Nat) : Int) := (tdiv64 b).resolve_right (by omega)
  have e2 : ((b : Int).tmod 64) = ((b % 64 : Nat) : Int) := by rw [Int.tmod_eq_emod_of_nonneg (Int.natCast_nonneg _)]; omega
  have e0' : IntKind.i64.wrap ((b : Int) / 64) = ((b / 64 : Nat) : Int) := by rw [wrap_i64 (by omega) (by omega)]; omega
  have e2' : ((b : Int) % 64) = ((b % 64 : Nat) : Int) := by omega
  have h64 : b % 64 < 64 := Nat.mod_lt _ (by omega)
  have hbk : b / 64 < k := by omega
  have hget : (wR (wl k W))[b / 64]? = some [.int .u64 ((wd W (b / 64) : Nat) : Int)] := by
    rw [List.getElem?_eq_getElem (by rw [wR_len, wl_len]; exact hbk), wR_el, wl_el]
  have hl := wd_lt W (b / 64)
  have hp : 2 ^ (b % 64) < 18446744073709551616 := by
    have := Nat.pow_lt_pow_right (a := 2) (by omega) h64
    omega
  have e4 : IntKind.u64.wrap ((1 : Int) * 2 ^ (b % 64)) = ((2 ^ (b % 64) : Nat) : Int) := by
    rw [← wrap_u64' hp]; simp
  have e4' : IntKind.u64.wrap ((2 : Int) ^ (b % 64)) = ((2 ^ (b % 64) : Nat) : Int) := by
    rw [← wrap_u64' hp]; simp
  have e5 : orI .u64 ((wd W (b / 64) : Nat) : Int) ((2 ^ (b % 64) : Nat) : Int) = ((wd W (b / 64) ||| 2 ^ (b % 64) : Nat) : Int) := or_u64 hl hp
  have e6 := wl_add k W b hb
  have hmn : min (b % 64) 64 = b % 64 := by omega
  have hidl := get_lt h
  have hg := get_el h hidl
  rw [← e6, ← wR_set]
  have hlen : (wR (wl k W)).length = k := by rw [wR_len, wl_len]
  generalize wR (wl k W) = rw0 at *
  generalize hq : wd W (b / 64) ||| 2 ^ (b % 64) = q at *
  generalize 2 ^ (b % 64) = pw at *
  generalize wd W (b / 64) = u at *
  generalize b % 64 = r at *
  generalize b / 64 = s at *
  have hsl : s < rw0.length := by omega
  have hrs : rw0[s] = [.int .u64 (u : Int)] := by
    rw [List.getElem?_eq_getElem hsl] at hget; exact Option.some.inj hget
  rw [s_fn fn_rel_row_add]
  simp [ir_rel_row_add, go_sem, e0, e2, e0', e2', e4, e4', e5, hmn, h, hidl, hg, hget, hsl, hrs, hlen, hbk, asIx_nat, IntKind.bits, -Int.natCast_emod, -Int.natCast_pow, -Int.natCast_ediv, -Int.natCast_add, -Int.natCast_mul]
end Go.Proofs.YtccdkkgimaajbaaDoor
