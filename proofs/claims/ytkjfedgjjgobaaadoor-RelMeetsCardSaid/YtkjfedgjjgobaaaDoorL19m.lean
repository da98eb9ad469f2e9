/- RelMeets (no claim; lemmas). -/
import Derived.Test.YtkjfedgjjgobaaaDoorL19o
import Derived.Test.YtkjfedgjjgobaaaDoorK19v
set_option linter.unusedSimpArgs false
set_option linter.unusedVariables false
namespace Go.Proofs.YtkjfedgjjgobaaaDoor
open Go Go.Vm

theorem hasW_nat (n : Nat) (W : Nat → Nat) {a b : Nat} (ha : a < n) (hb : b < n) : hasW n W (a : Int) (b : Int) = (W a).testBit b := by
  unfold hasW
  have : (0 ≤ (a : Int) ∧ (a : Int) < n ∧ 0 ≤ (b : Int) ∧ (b : Int) < n) := by omega
  simp [this]
section
variable (n : Nat) (hn : n ≤ 512) (W C D : Nat → Nat) (u cu du : V) (hu : RelV u n W) (hc : RelV cu n C) (hd : RelV du n D)
  (hsub : ∀ a b, a < n → b < n → (W a).testBit b = true → (C a).testBit b = true) (heq : ∀ a b, a < n → b < n → (C a).testBit b = (D a).testBit b)
  (H : List Vm.Obj) (p : Nat) (v : V) (T : Nat) (I : Nat → Nat) (h : RelAt H p v n T I W) (him : ∀ vs tk, toImm ⟨vs, tk, H⟩ true 7 v = some u) (is : Bool)
include hn hu hc hd hsub heq h him
theorem Meets_l0 (a : Nat) (ha : a < n) (b : Nat) (hb : b ≤ n) (lp : Bool) :
    evCI pg (.loop ir_undertowlaw19_RelMeetsl0) ⟨[.undef, .undef, .undef, .undef, .int .i64 (n : Int), .ptr p 0 0, .undef, .undef, .bool is, .ip false [cu] 0, .ip false [du] 0, .bool lp, .int .i64 (a : Int), .int .i64 (b : Int), .undef, .undef, .undef, .undef, .undef, .undef, .undef], ⟨[], [], H⟩⟩ =
      some (.exit 2, ⟨[.undef, .undef, .undef, .undef, .int .i64 (n : Int), .ptr p 0 0, .undef, .undef, .bool is, .ip false [cu] 0, .ip false [du] 0, .bool lp, .int .i64 (a : Int), .int .i64 (n : Int), .undef, .undef, .undef, .undef, .undef, .bool false, .undef], ⟨[], [], H⟩⟩) := by
  obtain ⟨B, hB⟩ : ∃ B, B = Vm.C.loop ir_undertowlaw19_RelMeetsl0 := ⟨_, rfl⟩
  by_cases c : b < n
  · have e3 := succ_i64 c (by omega)
    have h1 := Has_ok (t := true) hu (a : Int) (b : Int)
    have h2 := Has_ok (t := false) hc (a : Int) (b : Int)
    have h3 := Has_ok (t := false) hd (a : Int) (b : Int)
    rw [hasW_nat n _ ha c] at h1 h2 h3
    rw [← heq a b ha c] at h3
    have hs := hsub a b ha c
    have hpl := get_lt h.obj
    have ho := h.obj
    have hg := get_el ho hpl
    have ih := Meets_l0 a ha (b + 1) (by omega) lp
    rw [← ih, ← hB]
    conv => lhs; rw [s_loop_at hB]
    generalize (W a).testBit b = wb at *
    generalize (C a).testBit b = cb at *
    cases wb with
    | true =>
      have hs := hs rfl
      subst hs
      simp [ir_undertowlaw19_RelMeetsl0, go_sem, c, e3, ho, hpl, hg, him, h1, h2, h3, -Int.natCast_add]
    | false =>
      simp [ir_undertowlaw19_RelMeetsl0, go_sem, c, e3, ho, hpl, hg, him, h1, h2, h3, -Int.natCast_add]
  · obtain rfl : b = n := by omega
    rw [← hB, s_loop_at hB]
    simp [ir_undertowlaw19_RelMeetsl0, go_sem]
termination_by n - b
theorem Meets_l1 (a : Nat) (ha : a ≤ n) (lp : Bool) :
    evCI pg (.loop ir_undertowlaw19_RelMeetsl1) ⟨[.undef, .undef, .undef, .undef, .int .i64 (n : Int), .ptr p 0 0, .undef, .undef, .bool is, .ip false [cu] 0, .ip false [du] 0, .bool lp, .int .i64 (a : Int), .undef, .undef, .undef, .undef, .undef, .undef, .undef, .undef], ⟨[], [], H⟩⟩ =
      some (.exit 0, ⟨[.undef, .undef, .undef, .undef, .int .i64 (n : Int), .ptr p 0 0, .undef, .undef, .bool is, .ip false [cu] 0, .ip false [du] 0, .bool (lp || (List.range' a (n - a)).any fun x => (C x).testBit x), .int .i64 (n : Int), .undef, .undef, .undef, .undef, .undef, .bool false, .undef, .undef], ⟨[], [], H⟩⟩) := by
  obtain ⟨B, hB⟩ : ∃ B, B = Vm.C.loop ir_undertowlaw19_RelMeetsl1 := ⟨_, rfl⟩
  by_cases c : a < n
  · have e3 := succ_i64 c (by omega)
    have h2 := Has_ok (t := false) hc (a : Int) (a : Int)
    rw [hasW_nat n _ c c] at h2
    have hrg : List.range' a (n - a) = a :: List.range' (a + 1) (n - (a + 1)) := by rw [show n - a = (n - (a + 1)) + 1 by omega, List.range'_succ]
    have h0 := fun lp => Meets_l0 n hn W C D u cu du hu hc hd hsub heq H p v T I h him is a c 0 (by omega) lp
    have ih := Meets_l1 (a + 1) (by omega) (lp || (C a).testBit a)
    rw [hrg, List.any_cons, ← Bool.or_assoc, ← ih, ← hB]
    conv => lhs; rw [s_loop_at hB]
    rw [Int.natCast_zero] at h0
    generalize (C a).testBit a = cb at *
    cases lp with
    | true => simp [ir_undertowlaw19_RelMeetsl1, go_sem, c, e3, h0, -Int.natCast_add]
    | false => simp [ir_undertowlaw19_RelMeetsl1, go_sem, c, e3, h2, h0, -Int.natCast_add]
  · obtain rfl : a = n := by omega
    rw [← hB, s_loop_at hB, Nat.sub_self, List.range'_zero]
    simp [ir_undertowlaw19_RelMeetsl1, go_sem]
termination_by n - a
end
theorem RelMeets_true (x : Nat) (lv iv : V) (l : List (Int × Int)) (il : List Int) (hl : Sl lv (pR l)) (hi : Sl iv (iI il)) (him : il.length ≤ maxLen) : evI pg .val n_undertowlaw19_RelMeets [.int .u8 (x : Int), lv, iv] [] = some (.bool true, []) := by
  rw [s_fn fn_undertowlaw19_RelMeets]
  by_cases c1 : 400 < l.length
  · have c1' : (400 : Int) < (l.length : Int) := by omega
    simp [ir_undertowlaw19_RelMeets, go_sem, alive19, hl.is, hl.rows, pR_len, c1']
  have c1' : ¬ (400 : Int) < (l.length : Int) := by omega
  by_cases c2 : 400 < il.length
  · have c2' : (400 : Int) < (il.length : Int) := by omega
    simp [ir_undertowlaw19_RelMeets, go_sem, alive19, hl.is, hl.rows, hi.is, hi.rows, iI_len, pR_len, c1', c2']
  have c2' : ¬ (400 : Int) < (il.length : Int) := by omega
  obtain ⟨n, hn, en, en2⟩ : ∃ n : Nat, n < 70 ∧ IntKind.i64.wrap ((x : Int).tmod 70) = (n : Int) ∧ IntKind.i64.wrap ((x : Int) % 70) = (n : Int) := by
    refine ⟨x % 70, Nat.mod_lt _ (by omega), ?_, ?_⟩
    · rw [Int.tmod_eq_emod_of_nonneg (Int.natCast_nonneg _), wrap_i64 (by omega) (by omega)]; omega
    · rw [wrap_i64 (by omega) (by omega)]; omega
  obtain ⟨H1, p, v, T, I, v2, T2, I2, b1, b2, b3⟩ := both_ok lv l hl (by omega) n (by omega) []
  obtain ⟨u, hu, him1, _⟩ := b2.rel.imm true
  have hi7 := fun vs tk => him1 vs tk 4
  simp only [Nat.reduceAdd] at hi7
  obtain ⟨W, hW⟩ : ∃ W, W = relOf n l := ⟨_, rfl⟩
  rw [← hW] at hu b2
  have hO := Order_ok true u n W hu
  have hF := fun w il hi him => Fits_ok true u n W hu w il hi him
  obtain ⟨cu, C, k1, k2, k3, k4⟩ := Close_ok (t := true) hu
  obtain ⟨du, D, m1, m2, m3, m4⟩ := Close_ok (t := false) k2
  have k7 := k4 4
  have m7 := m4 4
  simp only [Nat.reduceAdd] at k7 m7
  have hsub : ∀ a b, a < n → b < n → (W a).testBit b = true → (C a).testBit b = true := fun a b ha hb hw => by rw [k3 a b ha hb]; exact war_sub _ a b hw n
  have heq : ∀ a b, a < n → b < n → (C a).testBit b = (D a).testBit b := fun a b ha hb => by
    rw [m3 a b ha hb, Bool.eq_iff_iff]
    constructor
    · exact fun h => war_sub _ a b h n
    · exact fun h => war_least (bitW C) n (fun a b => (C a).testBit b = true) (fun x y _ _ h => h) (fun x z y hx hz hy h1 h2 => by
        rw [k3 x z hx hz] at h1
        rw [k3 z y hz hy] at h2
        rw [k3 x y hx hy]
        exact war_trans _ n z x y hz h1 h2) n (Nat.le_refl _) a b ha hb h
  have hl1 := fun is => Meets_l1 n (by omega) W C D u cu du hu k2 m2 hsub heq H1 p v T I b2.rel hi7 is 0 (by omega) false
  have hp1 := get_lt b2.rel.obj
  have ho1 := b2.rel.obj
  have hg1 := get_el ho1 hp1
  have hs2 := MatAt.slot b2.tab
  rw [Nat.sub_zero, ← List.range_eq_range', Int.natCast_zero, Bool.false_or] at hl1
  have hFl := hF iv il hi him
  cases hk : kah (bitW W) n n (fun _ => false) [] with
  | none =>
    rw [hk] at hO
    have hcyc : ((List.range n).any fun x => (C x).testBit x) = true := by
      cases hq : (List.range n).any fun x => (C x).testBit x with
      | true => rfl
      | false =>
        rw [List.any_eq_false] at hq
        obtain ⟨o, ho⟩ := acyc_kah (bitW W) n (fun a ha => by
          have := hq a (List.mem_range.2 ha)
          rw [k3 a a ha ha] at this
          simpa using this) n (fun _ => false) [] (by simp) (by simp) (by simp) (by simp)
        rw [List.map_nil, hk] at ho; cases ho
    have hno : fitP n W il = false := by
      cases hq : fitP n W il with
      | false => rfl
      | true =>
        obtain ⟨a, ha, hb⟩ := List.any_eq_true.1 hcyc
        have ha' := List.mem_range.1 ha
        rw [k3 a a ha' ha', fit_acyc n W il hq a ha'] at hb
        cases hb
    rw [hno] at hFl
    rw [hcyc] at hl1
    simp only [ordV] at hO
    simp [ir_undertowlaw19_RelMeets, go_sem, alive19, hl.is, hl.rows, hi.is, hi.rows, iI_len, pR_len, c1', c2', en, en2, b1, hi7, hs2, ho1, hp1, hg1, hO, hFl, k1, k7, m1, m7, hl1]
  | some o =>
    rw [hk] at hO
    have hol := kah_len _ _ _ _ _ _ hk
    obtain ⟨rest, r1, r2⟩ := kah_fit (bitW W) n n (fun _ => false) [] o hk (fun b hb => by cases hb)
    rw [List.nil_append] at r1
    subst r1
    have hfo : fitP n W o = true := (fitP_iff n W o).2 ⟨by simpa using hol, r2⟩
    have hFo := hF (ils (iI o)) o (.ils _) (by simp at hol; unfold maxLen; omega)
    rw [hfo] at hFo
    have hcyc : ((List.range n).any fun x => (C x).testBit x) = false := by
      rw [List.any_eq_false]
      intro a ha
      have ha' := List.mem_range.1 ha
      rw [k3 a a ha' ha', fit_acyc n W o hfo a ha']
      simp
    rw [hcyc] at hl1
    have hcl : clean 7 (ils (iI o)) = true := e_clean_ils 6 _ (by
      simp only [List.all_eq_true]
      intro e he x hx
      obtain ⟨y, _, rfl⟩ := List.mem_map.1 he
      simp at hx; subst hx; rfl)
    have hsl := Sl.ils (iI o)
    simp only [ordV] at hO
    generalize ils (iI o) = ov at *
    cases hq : fitP n W il with
    | true =>
      rw [hq] at hFl
      simp [ir_undertowlaw19_RelMeets, go_sem, alive19, hl.is, hl.rows, hi.is, hi.rows, iI_len, pR_len, c1', c2', en, en2, b1, hi7, hs2, ho1, hp1, hg1, hO, hFl, hFo, hcl, hsl.is, k1, k7, m1, m7, hl1]
    | false =>
      rw [hq] at hFl
      simp [ir_undertowlaw19_RelMeets, go_sem, alive19, hl.is, hl.rows, hi.is, hi.rows, iI_len, pR_len, c1', c2', en, en2, b1, hi7, hs2, ho1, hp1, hg1, hO, hFl, hFo, hcl, hsl.is, k1, k7, m1, m7, hl1]
theorem law_meets : ∀ vs, PArgs Tryd.prog 8 Tryd.f6.params.toList vs → ∃ k, evF pg k .val 6 vs [] = some (.bool true, []) := by
  intro vs h
  obtain ⟨v1, _, rfl, h1, v2, _, rfl, h2, v3, _, rfl, h3, rfl⟩ := h
  obtain ⟨x, rfl, hx⟩ := arg_u8 Tryd.underlying5 h1
  obtain ⟨l, hl⟩ := arg_pairs (n := 5) h2
  obtain ⟨il, hi, him⟩ := arg_ints (n := 6) h3
  exact (evI_iff (Go.Vm.hx _ _ _)).1 (RelMeets_true x v2 v3 l il hl hi him)
end Go.Proofs.YtkjfedgjjgobaaaDoor
