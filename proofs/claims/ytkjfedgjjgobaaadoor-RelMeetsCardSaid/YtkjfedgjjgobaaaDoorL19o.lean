/- RelOrders (no claim; lemmas). -/
import Derived.Test.YtkjfedgjjgobaaaDoorK19u
set_option linter.unusedSimpArgs false
set_option linter.unusedVariables false
namespace Go.Proofs.YtkjfedgjjgobaaaDoor
open Go Go.Vm

theorem SameI (o : List Int) (h : o.length < 9223372036854775808) : evI pg .val n_undertowref02_SameInts [ils (iI o), ils (iI o)] [] = some (.bool true, []) := by
  have := SameInts_ok (ils (iI o)) (ils (iI o)) o o (.ils _) (.ils _) h
  simpa using this
theorem kah_len (R : Nat → Nat → Bool) (n : Nat) : ∀ k gone out o, kah R n k gone out = some o → o.length = out.length + k
  | 0, gone, out, o, h => by simp only [kah, Option.some.injEq] at h; rw [h]; rfl
  | k + 1, gone, out, o, h => by
    unfold kah at h
    split at h
    · cases h
    · have := kah_len R n k _ _ o h
      simp at this
      omega
theorem RelOrders_true (x : Nat) (lv iv : V) (l : List (Int × Int)) (il : List Int) (hl : Sl lv (pR l)) (hi : Sl iv (iI il)) (him : il.length ≤ maxLen) : evI pg .val n_undertowlaw19_RelOrders [.int .u8 (x : Int), lv, iv] [] = some (.bool true, []) := by
  rw [s_fn fn_undertowlaw19_RelOrders]
  by_cases c1 : 400 < l.length
  · have c1' : (400 : Int) < (l.length : Int) := by omega
    simp [ir_undertowlaw19_RelOrders, go_sem, alive19, hl.is, hl.rows, pR_len, c1']
  have c1' : ¬ (400 : Int) < (l.length : Int) := by omega
  by_cases c2 : 400 < il.length
  · have c2' : (400 : Int) < (il.length : Int) := by omega
    simp [ir_undertowlaw19_RelOrders, go_sem, alive19, hl.is, hl.rows, hi.is, hi.rows, iI_len, pR_len, c1', c2']
  have c2' : ¬ (400 : Int) < (il.length : Int) := by omega
  obtain ⟨n, hn, en, en2⟩ : ∃ n : Nat, n < 70 ∧ IntKind.i64.wrap ((x : Int).tmod 70) = (n : Int) ∧ IntKind.i64.wrap ((x : Int) % 70) = (n : Int) := by
    refine ⟨x % 70, Nat.mod_lt _ (by omega), ?_, ?_⟩
    · rw [Int.tmod_eq_emod_of_nonneg (Int.natCast_nonneg _), wrap_i64 (by omega) (by omega)]; omega
    · rw [wrap_i64 (by omega) (by omega)]; omega
  obtain ⟨H1, p, v, T, I, v2, T2, I2, b1, b2, b3⟩ := both_ok lv l hl (by omega) n (by omega) []
  obtain ⟨u, hu, him1, _⟩ := b2.rel.imm true
  obtain ⟨tu, htu, htim, _⟩ := MatAt.tabV b2.tab true
  have hi7 := fun vs tk => him1 vs tk 4
  have ht8 := fun vs tk => htim vs tk 5
  simp only [Nat.reduceAdd] at hi7 ht8
  have hO := Order_ok true u n _ hu
  have hO2 := refOrder_ok tu n (by omega) (bitW (relOf n l)) htu
  have hF := Fits_ok true u n _ hu iv il hi him
  have hF2 := refFits_ok tu n (by omega) (bitW (relOf n l)) htu iv il hi
  rw [fit_same] at hF
  have hp1 := get_lt b2.rel.obj
  have ho1 := b2.rel.obj
  have hg1 := get_el ho1 hp1
  have hs2 := MatAt.slot b2.tab
  have hz0 : toImm ⟨[], [], []⟩ false 8 v2 = none ∨ toImm ⟨[], [], []⟩ false 8 v2 = some tu := by
    rcases MatAt.top b2.tab with ⟨_, hv⟩ | ⟨_, hv, _⟩
    · right
      have := ht8 [] []
      rw [hv, show (8 : Nat) = 7 + 1 from rfl, e_imm_nils] at this
      rw [hv]; exact this
    · left; rw [hv]; rfl
  generalize (decide (il.length = n) && rfit (bitW (relOf n l)) n (fun _ => false) [] il) = fb at *
  cases hk : kah (bitW (relOf n l)) n n (fun _ => false) [] with
  | none =>
    rw [hk] at hO hO2
    have hS : evI pg .val n_undertowref02_SameInts [.nils, .nils] [] = some (.bool true, []) := SameI [] (by simp)
    simp only [ordV] at hO hO2
    rcases hz0 with hz | hz
    · simp [ir_undertowlaw19_RelOrders, go_sem, alive19, hl.is, hl.rows, hi.is, hi.rows, iI_len, pR_len, c1', c2', en, en2, b1, hi7, hz, ht8, hs2, ho1, hp1, hg1, hO, hO2, hF, hF2, hS]
    · simp [ir_undertowlaw19_RelOrders, go_sem, alive19, hl.is, hl.rows, hi.is, hi.rows, iI_len, pR_len, c1', c2', en, en2, b1, hi7, hz, ht8, hs2, ho1, hp1, hg1, hO, hO2, hF, hF2, hS]
  | some o =>
    rw [hk] at hO hO2
    have hol := kah_len _ _ _ _ _ _ hk
    have hS := SameI o (by simp at hol; omega)
    have hcl : clean 7 (ils (iI o)) = true := e_clean_ils 6 _ (by
      simp only [List.all_eq_true]
      intro e he x hx
      obtain ⟨y, _, rfl⟩ := List.mem_map.1 he
      simp at hx; subst hx; rfl)
    have hsl := Sl.ils (iI o)
    simp only [ordV] at hO hO2
    generalize ils (iI o) = ov at *
    rcases hz0 with hz | hz
    · simp [ir_undertowlaw19_RelOrders, go_sem, alive19, hl.is, hl.rows, hi.is, hi.rows, iI_len, pR_len, c1', c2', en, en2, b1, hi7, hz, ht8, hs2, ho1, hp1, hg1, hO, hO2, hF, hF2, hS, hcl, hsl.is]
    · simp [ir_undertowlaw19_RelOrders, go_sem, alive19, hl.is, hl.rows, hi.is, hi.rows, iI_len, pR_len, c1', c2', en, en2, b1, hi7, hz, ht8, hs2, ho1, hp1, hg1, hO, hO2, hF, hF2, hS, hcl, hsl.is]
theorem law_orders : ∀ vs, PArgs Tryd.prog 8 Tryd.f5.params.toList vs → ∃ k, evF pg k .val 5 vs [] = some (.bool true, []) := by
  intro vs h
  obtain ⟨v1, _, rfl, h1, v2, _, rfl, h2, v3, _, rfl, h3, rfl⟩ := h
  obtain ⟨x, rfl, hx⟩ := arg_u8 Tryd.underlying5 h1
  obtain ⟨l, hl⟩ := arg_pairs (n := 5) h2
  obtain ⟨il, hi, him⟩ := arg_ints (n := 6) h3
  exact (evI_iff (Go.Vm.hx _ _ _)).1 (RelOrders_true x v2 v3 l il hl hi him)
end Go.Proofs.YtkjfedgjjgobaaaDoor
