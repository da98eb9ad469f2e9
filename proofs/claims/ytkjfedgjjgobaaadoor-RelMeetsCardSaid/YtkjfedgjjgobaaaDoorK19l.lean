/- Layer 19: the document's relation of ways (no claim; lemmas). -/
import Derived.Test.YtkjfedgjjgobaaaDoorK19k
set_option linter.unusedSimpArgs false
set_option linter.unusedVariables false
namespace Go.Proofs.YtkjfedgjjgobaaaDoor
open Go Go.Vm

/-! ### plain -/
/-- Ways that go over things below `m`. -/
def war (R : Nat → Nat → Bool) : Nat → Nat → Nat → Bool
  | 0 => R
  | m + 1 => fun a b => war R m a b || (war R m a m && war R m m b)
theorem war_sub (R : Nat → Nat → Bool) (a b : Nat) (h : R a b = true) : ∀ m, war R m a b = true
  | 0 => h
  | m + 1 => by simp [war, war_sub R a b h m]
theorem war_trans (R : Nat → Nat → Bool) : ∀ m x a b, x < m → war R m a x = true → war R m x b = true → war R m a b = true
  | 0, x, a, b, hx, _, _ => by omega
  | m + 1, x, a, b, hx, h1, h2 => by
    simp only [war, Bool.or_eq_true, Bool.and_eq_true] at h1 h2 ⊢
    by_cases c : x = m
    · subst c
      rcases h1 with h1 | ⟨h1, _⟩ <;> rcases h2 with h2 | ⟨_, h2⟩ <;> exact .inr ⟨h1, h2⟩
    · have hx' : x < m := by omega
      rcases h1 with h1 | ⟨h1, h1'⟩
      · rcases h2 with h2 | ⟨h2, h2'⟩
        · exact .inl (war_trans R m x a b hx' h1 h2)
        · exact .inr ⟨war_trans R m x a m hx' h1 h2, h2'⟩
      · rcases h2 with h2 | ⟨h2, h2'⟩
        · exact .inr ⟨h1, war_trans R m x m b hx' h1' h2⟩
        · exact .inr ⟨h1, h2'⟩
theorem war_least (R : Nat → Nat → Bool) (n : Nat) (P : Nat → Nat → Prop) (h1 : ∀ a b, a < n → b < n → R a b = true → P a b) (h2 : ∀ a x b, a < n → x < n → b < n → P a x → P x b → P a b) : ∀ m, m ≤ n → ∀ a b, a < n → b < n → war R m a b = true → P a b
  | 0, _, a, b, ha, hb, h => h1 a b ha hb h
  | m + 1, hm, a, b, ha, hb, h => by
    simp only [war, Bool.or_eq_true, Bool.and_eq_true] at h
    rcases h with h | ⟨h, h'⟩
    · exact war_least R n P h1 h2 m (by omega) a b ha hb h
    · exact h2 a m b ha (by omega) hb (war_least R n P h1 h2 m (by omega) a m ha (by omega) h) (war_least R n P h1 h2 m (by omega) m b (by omega) hb h')

/-! ### tables, place by place -/
theorem TabAt.set1 {H : List Vm.Obj} {v : V} {n T : Nat} {I : Nat → Nat} {f : Nat → Nat → Bool} (h : TabAt H v n T I f) {i j : Nat} (hi : i < n) (x : Bool) :
    TabAt (H.set (I i) (.arr ((bR n (f i)).set j [.bool x]))) v n T I (fun a b => if a = i ∧ b = j then x else f a b) := by
  have s := MatAt.set h hi ((bR n (f i)).set j [.bool x]) (by rw [List.length_set, bR_len])
  refine MatAt.congr s fun a ha => ?_
  by_cases e : a = i
  · subst e
    simp only [if_true]
    rw [bR_set]
    apply bR_congr
    intro b hb
    simp
  · simp only [e, if_false]
    apply bR_congr
    intro b hb
    simp
theorem TabAt.congr {H : List Vm.Obj} {v : V} {n T : Nat} {I : Nat → Nat} {f g : Nat → Nat → Bool} (h : TabAt H v n T I f) (e : ∀ a b, a < n → b < n → g a b = f a b) : TabAt H v n T I g :=
  MatAt.congr h fun a ha => bR_congr fun b hb => e a b ha hb
/-- As far as it is copied. -/
def cpT (f : Nat → Nat → Bool) (i j : Nat) : Nat → Nat → Bool := fun a b => if a < i ∨ (a = i ∧ b < j) then f a b else false
section
variable (tv : V) (n : Nat) (hn : n ≤ 512) (f : Nat → Nat → Bool) (ht : TabV tv n f) (v : V) (T : Nat) (I : Nat → Nat)
include hn ht
theorem refClose_l0 (i : Nat) (hi : i < n) (j : Nat) (hj : j ≤ n) (H : List Vm.Obj) (h : TabAt H v n T I (cpT f i j)) :
    ∃ H', evCI pg (.loop ir_undertowref19_Closel0) ⟨[tv, .undef, v, .int .i64 (i : Int), .int .i64 (j : Int), .undef, .undef, .undef, .undef, .undef, .undef, .undef, .undef], ⟨[], [], H⟩⟩ =
        some (.exit 2, ⟨[tv, .undef, v, .int .i64 (i : Int), .int .i64 (n : Int), .undef, .undef, .undef, .undef, .bool false, .undef, .undef, .undef], ⟨[], [], H'⟩⟩) ∧ TabAt H' v n T I (cpT f i n) := by
  obtain ⟨B, hB⟩ : ∃ B, B = C.loop ir_undertowref19_Closel0 := ⟨_, rfl⟩
  by_cases c : j < n
  · have e3 := succ_i64 c (by omega)
    obtain ⟨a1, a2⟩ := MatAt.ia h hi [] []
    have a2 := a2 false rfl
    obtain ⟨a3, a4⟩ := h.el hi c [] []
    obtain ⟨x, hx, ex⟩ := ht.row hi
    have e1 := TabV.el hx c
    have hrow := MatAt.row h i hi
    have hrl := get_lt hrow
    have hrg := get_el hrow hrl
    obtain ⟨hv, ht2⟩ := MatAt.pos h (by omega)
    have hT := get_lt ht2
    have s2 := (h.set1 (j := j) hi (f i j)).congr (g := cpT f i (j + 1)) (fun a b ha hb => by
      unfold cpT
      by_cases e : a = i ∧ b = j
      · obtain ⟨rfl, rfl⟩ := e; simp
      · rw [if_neg e]
        have : (a < i ∨ (a = i ∧ b < j + 1)) ↔ (a < i ∨ (a = i ∧ b < j)) := by omega
        simp [this])
    obtain ⟨H', r1, r2⟩ := refClose_l0 i hi (j + 1) (by omega) _ s2
    refine ⟨H', ?_, r2⟩
    rw [← r1, ← hB]
    conv => lhs; rw [s_loop_at hB]
    have hbl := bR_len n (cpT f i j i)
    have hbg := bR_get (n := n) (cpT f i j i) c
    rw [hv] at a1
    generalize bR n (cpT f i j i) = br at *
    have hbrl : j < br.length := by omega
    have hbre : br[j] = [.bool (cpT f i j i j)] := by
      rw [List.getElem?_eq_getElem hbrl] at hbg; exact Option.some.inj hbg
    simp [ir_undertowref19_Closel0, go_sem, ht.is, ht.len, hx.is, c, e3, hv, a1, a2, a3, ex, e1, hrow, hrl, hrg, hT, hbl, hbg, hbrl, hbre, -Int.natCast_add]
  · obtain rfl : j = n := by omega
    refine ⟨H, ?_, h⟩
    rw [← hB, s_loop_at hB]
    simp [ir_undertowref19_Closel0, go_sem, ht.is, ht.len]
termination_by n - j
theorem refClose_l1 (i : Nat) (hi : i ≤ n) (H : List Vm.Obj) (h : TabAt H v n T I (cpT f i 0)) :
    ∃ H', evCI pg (.loop ir_undertowref19_Closel1) ⟨[tv, .undef, v, .int .i64 (i : Int), .undef, .undef, .undef, .undef, .undef, .undef, .undef, .undef, .undef], ⟨[], [], H⟩⟩ =
        some (.exit 0, ⟨[tv, .undef, v, .int .i64 (n : Int), .undef, .undef, .undef, .undef, .bool false, .undef, .undef, .undef, .undef], ⟨[], [], H'⟩⟩) ∧ TabAt H' v n T I f := by
  obtain ⟨B, hB⟩ : ∃ B, B = C.loop ir_undertowref19_Closel1 := ⟨_, rfl⟩
  by_cases c : i < n
  · have e3 := succ_i64 c (by omega)
    obtain ⟨H1, l1, l2⟩ := refClose_l0 tv n hn f ht v T I i c 0 (by omega) H h
    have l2' : TabAt H1 v n T I (cpT f (i + 1) 0) := l2.congr fun a b ha hb => by
      unfold cpT
      have : (a < i + 1 ∨ (a = i + 1 ∧ b < 0)) ↔ (a < i ∨ (a = i ∧ b < n)) := by omega
      simp only [this]
    obtain ⟨H', r1, r2⟩ := refClose_l1 (i + 1) (by omega) H1 l2'
    refine ⟨H', ?_, r2⟩
    rw [Int.natCast_zero] at l1
    rw [← r1, ← hB]
    conv => lhs; rw [s_loop_at hB]
    simp [ir_undertowref19_Closel1, go_sem, ht.is, ht.len, c, e3, l1, -Int.natCast_add]
  · obtain rfl : i = n := by omega
    refine ⟨H, ?_, h.congr fun a b ha hb => by unfold cpT; rw [if_pos (.inl ha)]⟩
    rw [← hB, s_loop_at hB]
    simp [ir_undertowref19_Closel1, go_sem, ht.is, ht.len]
termination_by n - i
end
/-- A stage, as far as it is gone. -/
def stg (w : Nat → Nat → Bool) (m i k : Nat) : Nat → Nat → Bool := fun a b => if a < i ∨ (a = i ∧ b < k) then w a b || (w a m && w m b) else w a b
theorem stg_m (w : Nat → Nat → Bool) (m i k a : Nat) : stg w m i k a m = w a m := by
  unfold stg
  split
  · cases w a m <;> simp
  · rfl
theorem stg_row (w : Nat → Nat → Bool) (m i k b : Nat) : stg w m i k m b = w m b := by
  unfold stg
  split
  · cases w m b <;> simp
  · rfl
section
variable (n : Nat) (hn : n ≤ 512) (v : V) (T : Nat) (I : Nat → Nat) (w : Nat → Nat → Bool) (m : Nat) (hm : m < n)
include hn hm
theorem refClose_l2 (i : Nat) (hi : i < n) (k : Nat) (hk : k ≤ n) (H : List Vm.Obj) (h : TabAt H v n T I (stg w m i k)) :
    ∃ H' k', evCI pg (.loop ir_undertowref19_Closel2) ⟨[.undef, .undef, v, .undef, .undef, .int .i64 (m : Int), .int .i64 (i : Int), .int .i64 (k : Int), .undef, .undef, .undef, .undef, .undef], ⟨[], [], H⟩⟩ =
        some (.exit 8, ⟨[.undef, .undef, v, .undef, .undef, .int .i64 (m : Int), .int .i64 (i : Int), .int .i64 k', .undef, .undef, .undef, .undef, .bool false], ⟨[], [], H'⟩⟩) ∧ TabAt H' v n T I (stg w m i n) := by
  obtain ⟨B, hB⟩ : ∃ B, B = C.loop ir_undertowref19_Closel2 := ⟨_, rfl⟩
  have hvl : lenV v = some n := MatAt.vlen h
  have hvs := MatAt.slot h
  obtain ⟨hv, ht2⟩ := MatAt.pos h (by omega)
  have hT := get_lt ht2
  by_cases c : k < n
  · have e3 := succ_i64 c (by omega)
    obtain ⟨a1, a2⟩ := MatAt.ia h hi [] []
    have a2 := a2 false rfl
    obtain ⟨b1, b2⟩ := MatAt.ia h hm [] []
    have b2 := b2 false rfl
    obtain ⟨a3, a4⟩ := h.el hi c [] []
    obtain ⟨a5, a6⟩ := h.el hi hm [] []
    obtain ⟨b3, b4⟩ := h.el hm c [] []
    rw [stg_m] at a6
    rw [stg_row] at b4
    rw [hv] at a1 b1
    have hq : stg w m i k i k = w i k := by unfold stg; rw [if_neg (by omega)]
    rw [hq] at a4
    have hrow := MatAt.row h i hi
    have hrl := get_lt hrow
    have hrg := get_el hrow hrl
    have hrow2 := MatAt.row h m hm
    have hrl2 := get_lt hrow2
    cases hc : w i m with
    | false =>
      rw [hc] at a6
      refine ⟨H, (k : Int), ?_, h.congr fun a b ha hb => ?_⟩
      · rw [← hB, s_loop_at hB]
        simp [ir_undertowref19_Closel2, go_sem, hv, c, a1, a2, a5, a6]
      · unfold stg
        by_cases e : a = i
        · subst e
          simp [hc]
        · simp [e]
    | true =>
      rw [hc] at a6
      have s2 := (h.set1 (j := k) hi (w i k || w m k)).congr (g := stg w m i (k + 1)) (fun a b ha hb => by
        unfold stg
        by_cases e : a = i ∧ b = k
        · obtain ⟨rfl, rfl⟩ := e; simp [hc]
        · rw [if_neg e]
          have : (a < i ∨ (a = i ∧ b < k + 1)) ↔ (a < i ∨ (a = i ∧ b < k)) := by omega
          simp [this])
      obtain ⟨H', k', r1, r2⟩ := refClose_l2 i hi (k + 1) (by omega) _ s2
      refine ⟨H', k', ?_, r2⟩
      rw [← r1, ← hB]
      conv => lhs; rw [s_loop_at hB]
      have hbl := bR_len n (stg w m i k i)
      have hbg := bR_get (n := n) (stg w m i k i) c
      rw [hq] at hbg
      generalize bR n (stg w m i k i) = br at *
      have hbrl : k < br.length := by omega
      have hbre : br[k] = [.bool (w i k)] := by
        rw [List.getElem?_eq_getElem hbrl] at hbg; exact Option.some.inj hbg
      cases hwk : w i k with
      | true =>
        rw [hwk] at a4 hbg hbre
        simp [ir_undertowref19_Closel2, go_sem, hv, c, e3, a1, a2, a3, a4, a5, a6, b1, b2, b3, b4, hrow, hrl, hrg, hrl2, hT, hbl, hbg, hbrl, hbre, -Int.natCast_add]
      | false =>
        rw [hwk] at a4 hbg hbre
        simp [ir_undertowref19_Closel2, go_sem, hv, c, e3, a1, a2, a3, a4, a5, a6, b1, b2, b3, b4, hrow, hrl, hrg, hrl2, hT, hbl, hbg, hbrl, hbre, -Int.natCast_add]
  · obtain rfl : k = n := by omega
    refine ⟨H, (k : Int), ?_, h⟩
    rw [← hB, s_loop_at hB]
    simp [ir_undertowref19_Closel2, go_sem, hv]
termination_by n - k
theorem refClose_l3 (i : Nat) (hi : i ≤ n) (H : List Vm.Obj) (h : TabAt H v n T I (stg w m i 0)) :
    ∃ H', evCI pg (.loop ir_undertowref19_Closel3) ⟨[.undef, .undef, v, .undef, .undef, .int .i64 (m : Int), .int .i64 (i : Int), .undef, .undef, .undef, .undef, .undef, .undef], ⟨[], [], H⟩⟩ =
        some (.exit 6, ⟨[.undef, .undef, v, .undef, .undef, .int .i64 (m : Int), .int .i64 (n : Int), .undef, .undef, .undef, .undef, .bool false, .undef], ⟨[], [], H'⟩⟩) ∧ TabAt H' v n T I (fun a b => w a b || (w a m && w m b)) := by
  obtain ⟨B, hB⟩ : ∃ B, B = C.loop ir_undertowref19_Closel3 := ⟨_, rfl⟩
  have hvl : lenV v = some n := MatAt.vlen h
  have hvs := MatAt.slot h
  by_cases c : i < n
  · have e3 := succ_i64 c (by omega)
    obtain ⟨H1, k', l1, l2⟩ := refClose_l2 n hn v T I w m hm i c 0 (by omega) H h
    have l2' : TabAt H1 v n T I (stg w m (i + 1) 0) := l2.congr fun a b ha hb => by
      unfold stg
      have : (a < i + 1 ∨ (a = i + 1 ∧ b < 0)) ↔ (a < i ∨ (a = i ∧ b < n)) := by omega
      simp only [this]
    obtain ⟨H', r1, r2⟩ := refClose_l3 (i + 1) (by omega) H1 l2'
    refine ⟨H', ?_, r2⟩
    rw [Int.natCast_zero] at l1
    rw [← r1, ← hB]
    conv => lhs; rw [s_loop_at hB]
    simp [ir_undertowref19_Closel3, go_sem, hvl, c, e3, l1, -Int.natCast_add]
  · obtain rfl : i = n := by omega
    refine ⟨H, ?_, h.congr fun a b ha hb => by unfold stg; rw [if_pos (.inl ha)]⟩
    rw [← hB, s_loop_at hB]
    simp [ir_undertowref19_Closel3, go_sem, hvl]
termination_by n - i
end
theorem refClose_l4 (n : Nat) (hn : n ≤ 512) (v : V) (T : Nat) (I : Nat → Nat) (R : Nat → Nat → Bool) (m : Nat) (hm : m ≤ n) (H : List Vm.Obj) (h : TabAt H v n T I (war R m)) :
    ∃ H', evCI pg (.loop ir_undertowref19_Closel4) ⟨[.undef, .undef, v, .undef, .undef, .int .i64 (m : Int), .undef, .undef, .undef, .undef, .undef, .undef, .undef], ⟨[], [], H⟩⟩ =
        some (.exit 4, ⟨[.undef, .undef, v, .undef, .undef, .int .i64 (n : Int), .undef, .undef, .undef, .undef, .bool false, .undef, .undef], ⟨[], [], H'⟩⟩) ∧ TabAt H' v n T I (war R n) := by
  obtain ⟨B, hB⟩ : ∃ B, B = C.loop ir_undertowref19_Closel4 := ⟨_, rfl⟩
  have hvl : lenV v = some n := MatAt.vlen h
  by_cases c : m < n
  · have e3 := succ_i64 c (by omega)
    obtain ⟨H1, l1, l2⟩ := refClose_l3 n hn v T I (war R m) m c 0 (by omega) H (h.congr fun a b ha hb => by unfold stg; rw [if_neg (by omega)])
    obtain ⟨H', r1, r2⟩ := refClose_l4 n hn v T I R (m + 1) (by omega) H1 l2
    refine ⟨H', ?_, r2⟩
    rw [Int.natCast_zero] at l1
    rw [← r1, ← hB]
    conv => lhs; rw [s_loop_at hB]
    simp [ir_undertowref19_Closel4, go_sem, hvl, c, e3, l1, -Int.natCast_add]
  · obtain rfl : m = n := by omega
    refine ⟨H, ?_, h⟩
    rw [← hB, s_loop_at hB]
    simp [ir_undertowref19_Closel4, go_sem, hvl]
termination_by n - m
/-- The document's relation of ways. -/
theorem refClose_ok (tv : V) (n : Nat) (hn : n ≤ 512) (R : Nat → Nat → Bool) (ht : TabV tv n R) : ∃ u, evI pg .val n_undertowref19_Close [tv] [] = some (u, []) ∧ TabV u n (war R n) ∧ ∀ d, clean (d + 3) u = true := by
  obtain ⟨H1, v, T, I, a1, a2, a3, a4, a5⟩ := refNew_ok n hn []
  obtain ⟨H2, b1, b2⟩ := refClose_l1 tv n hn R ht v T I 0 (by omega) H1 (a2.congr fun a b ha hb => by unfold cpT; rw [if_neg (by omega)])
  obtain ⟨H3, c1, c2⟩ := refClose_l4 n hn v T I R 0 (by omega) H2 b2
  obtain ⟨u, hu, him, hcl⟩ := MatAt.tabV c2 false
  have hi8 := fun vs tk => him vs tk 5
  simp only [Nat.reduceAdd] at hi8
  have hvs := MatAt.slot c2
  rw [Int.natCast_zero] at b1 c1
  refine ⟨u, ?_, hu, hcl rfl⟩
  rw [s_fn fn_undertowref19_Close]
  simp [ir_undertowref19_Close, go_sem, ht.is, ht.len, a1, b1, c1, hvs, hi8]
end Go.Proofs.YtkjfedgjjgobaaaDoor
