/- Layer 12: what the program's memory comes to, looked at (no claim; lemmas). -/
import Derived.Test.YtbloiihagbcfpaaW2
set_option linter.unusedSimpArgs false
set_option linter.unusedVariables false
namespace Go.Proofs.Ytbloiihagbcfpaa
open Go Go.Vm

/-! ### slices of objects -/
inductive Ow (H : List Vm.Obj) : V → List (List V) → Prop
  | nils : Ow H .nils []
  | emp : Ow H .emp []
  | rsl (id : Nat) (es : List (List V)) (h : H[id]? = some (.arr es)) (hne : es ≠ []) : Ow H (.rsl id 0 es.length) es
/-- A list that is put more behind. -/
inductive Lg (H : List Vm.Obj) : V → List (List V) → Prop
  | nils : Lg H .nils []
  | tok (j : Nat) (es : List (List V)) (h : H[j]? = some (.tok es.length)) (hne : es ≠ []) : Lg H (.osl true j es) es
/-- Rows that are the same for everybody. -/
def PlainR (es : List (List V)) : Prop := ∀ q ∈ es, ∀ x ∈ q, ∀ m t d, toImm m t (d + 1) x = some x
theorem Ow.imm {H : List Vm.Obj} {v : V} {es : List (List V)} (h : Ow H v es) (hp : PlainR es) : ∃ u, Sl u es ∧ ∀ vs tk d, toImm ⟨vs, tk, H⟩ true (d + 2) v = some u := by
  cases h with
  | nils => exact ⟨.nils, .nils, fun _ _ _ => rfl⟩
  | emp => exact ⟨.emp, .emp, fun _ _ _ => rfl⟩
  | rsl id es h hne =>
    refine ⟨.isl true es, .isl _ _, fun vs tk d => ?_⟩
    rw [e_imm_rsl]
    have : omap2 (toImm ⟨vs, tk, H⟩ true (d + 1)) es = some es := omap2_same fun q hq x hx => hp q hq x hx _ _ _
    simp [h, this]
theorem Lg.imm {H : List Vm.Obj} {v : V} {es : List (List V)} (h : Lg H v es) : ∃ u, Sl u es ∧ ∀ vs tk d, toImm ⟨vs, tk, H⟩ true (d + 2) v = some u := by
  cases h with
  | nils => exact ⟨.nils, .nils, fun _ _ _ => rfl⟩
  | tok j es h hne => exact ⟨ils es, .ils es, fun vs tk d => by rw [e_imm_osl]⟩
theorem Ow.len {H : List Vm.Obj} {v : V} {es : List (List V)} (h : Ow H v es) : lenV v = some es.length := by cases h <;> rfl
theorem Ow.flat {H : List Vm.Obj} {v : V} {es : List (List V)} (h : Ow H v es) : v.flat = true := by cases h <;> rfl
theorem byV_plain (l : List Nat) : PlainR (byV l) := by
  intro q hq x hx m t d
  obtain ⟨n, _, rfl⟩ := List.mem_map.1 hq
  simp at hx; subst hx; rfl
theorem iI_plain (l : List Int) : PlainR (iI l) := by
  intro q hq x hx m t d
  obtain ⟨n, _, rfl⟩ := List.mem_map.1 hq
  simp at hx; subst hx; rfl
theorem wsV_plain (l : List Wr) : PlainR (wsV l) := by
  intro q hq x hx m t d
  obtain ⟨w, _, rfl⟩ := List.mem_map.1 hq
  simp only [wrV, List.mem_cons, List.not_mem_nil, or_false] at hx
  rcases hx with rfl | rfl | rfl | rfl <;> rfl

/-! ### a memory -/
/-- Three harts' places. -/
structure P3 where
  (a0 n0 a1 n1 a2 n2 : Int)
def P3.get (r : P3) (h : Int) : Int × Int := if h = 0 then (r.a0, r.n0) else if h = 1 then (r.a1, r.n1) else (r.a2, r.n2)
def P3.put (r : P3) (h a n : Int) : P3 := if h = 0 then { r with a0 := a, n0 := n } else if h = 1 then { r with a1 := a, n1 := n } else { r with a2 := a, n2 := n }
/-- Its cells: its bytes, tags, log, of three harts the places. -/
def rmC (bv tv lv : V) (r : P3) : List V := [bv, tv, lv, .int .i64 r.a0, .int .i64 r.n0, .int .i64 r.a1, .int .i64 r.n1, .int .i64 r.a2, .int .i64 r.n2]
def mayB (L : Nat) (a n : Int) : Bool := algn a n && decide (n ≤ (L : Int)) && decide (a ≤ (L : Int) - n)
def isH (h : Int) : Bool := decide (0 ≤ h ∧ h < 3)
theorem isHart_ok (h : Int) : evI pg .val n_ram_isHart [.int .i64 h] [] = some (.bool (isH h), []) := by
  rw [s_fn fn_ram_isHart]
  unfold isH
  simp [ir_ram_isHart, go_sem]
  by_cases c : 0 ≤ h <;> simp [c, go_sem]
theorem algn_n {a n : Int} (h : algn a n = true) : n = 1 ∨ n = 2 ∨ n = 4 ∨ n = 8 := by
  unfold algn at h
  simp only [decide_eq_true_eq] at h
  exact h.1
theorem algn_a {a n : Int} (h : algn a n = true) : 0 ≤ a := by
  unfold algn at h
  simp only [decide_eq_true_eq] at h
  exact h.2.1
theorem may_ok (t : Bool) (bv : V) (es : List (List V)) (hb : Sl bv es) (hL : es.length ≤ 9223372036854775807) (cs : List V) (a n : Int) :
    evI pg .val n_ram_Ram_may [.ip t (bv :: cs) 0, .int .i64 a, .int .i64 n] [] = some (.bool (mayB es.length a n), []) := by
  have hA := Aligned_ok a n
  rw [s_fn fn_ram_Ram_may]
  unfold mayB
  cases hq : algn a n with
  | false =>
    rw [hq] at hA
    simp [ir_ram_Ram_may, go_sem, hA]
  | true =>
    rw [hq] at hA
    have e1 : IntKind.i64.wrap ((es.length : Int) - n) = (es.length : Int) - n := by
      have := algn_n hq
      exact wrap_i64 (by omega) (by omega)
    simp [ir_ram_Ram_may, go_sem, hA, hb.is, hb.rows, e1]
    by_cases c : n ≤ (es.length : Int) <;> simp [c, go_sem]
theorem may_nil (a n : Int) : evI pg .val n_ram_Ram_may [.nilp, .int .i64 a, .int .i64 n] [] = some (.bool false, []) := by
  rw [s_fn fn_ram_Ram_may]
  simp [ir_ram_Ram_may, go_sem]
theorem isH_three {h : Int} (hh : isH h = true) : h = 0 ∨ h = 1 ∨ h = 2 := by
  unfold isH at hh
  simp only [decide_eq_true_eq] at hh
  omega
theorem Held_ok (t : Bool) (bv tv lv : V) (es : List (List V)) (hb : Sl bv es) (ht : isS tv = true) (hl : isS lv = true) (hL : es.length ≤ 9223372036854775807) (r : P3) (h a n : Int) :
    evI pg .val n_ram_Ram_Held [.ip t (rmC bv tv lv r) 0, .int .i64 h, .int .i64 a, .int .i64 n] [] = some (.bool (mayB es.length a n && isH h && decide (r.get h = (a, n))), []) := by
  have hm := may_ok t bv es hb hL [tv, lv, .int .i64 r.a0, .int .i64 r.n0, .int .i64 r.a1, .int .i64 r.n1, .int .i64 r.a2, .int .i64 r.n2] a n
  have hH := isHart_ok h
  rw [s_fn fn_ram_Ram_Held]
  unfold rmC
  cases hq : mayB es.length a n with
  | false =>
    rw [hq] at hm
    simp [ir_ram_Ram_Held, go_sem, hm, hb.is, ht, hl]
  | true =>
    rw [hq] at hm
    cases hq2 : isH h with
    | false =>
      rw [hq2] at hH
      simp [ir_ram_Ram_Held, go_sem, hm, hH, hb.is, ht, hl]
    | true =>
      rw [hq2] at hH
      rcases isH_three hq2 with rfl | rfl | rfl <;>
        simp [ir_ram_Ram_Held, go_sem, hm, hH, hb.is, ht, hl, fill, splice, eqaV, eqcV, P3.get, int_beq]
theorem Held_nil (h a n : Int) : evI pg .val n_ram_Ram_Held [.nilp, .int .i64 h, .int .i64 a, .int .i64 n] [] = some (.bool false, []) := by
  have hm := may_nil a n
  rw [s_fn fn_ram_Ram_Held]
  simp [ir_ram_Ram_Held, go_sem, hm]
end Go.Proofs.Ytbloiihagbcfpaa
