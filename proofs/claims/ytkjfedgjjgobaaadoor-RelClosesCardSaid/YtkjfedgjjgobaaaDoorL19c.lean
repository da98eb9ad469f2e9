/- RelCloses (no claim; lemmas). -/
import Derived.Test.YtkjfedgjjgobaaaDoorK19n
set_option linter.unusedSimpArgs false
set_option linter.unusedVariables false
namespace Go.Proofs.YtkjfedgjjgobaaaDoor
open Go Go.Vm

theorem RelCloses_true (x : Nat) (lv : V) (l : List (Int × Int)) (hl : Sl lv (pR l)) : evI pg .val n_undertowlaw19_RelCloses [.int .u8 (x : Int), lv] [] = some (.bool true, []) := by
  rw [s_fn fn_undertowlaw19_RelCloses]
  by_cases c1 : 400 < l.length
  · have c1' : (400 : Int) < (l.length : Int) := by omega
    simp [ir_undertowlaw19_RelCloses, go_sem, alive19, hl.is, hl.rows, pR_len, c1']
  have c1' : ¬ (400 : Int) < (l.length : Int) := by omega
  obtain ⟨n, hn, en, en2⟩ : ∃ n : Nat, n < 70 ∧ IntKind.i64.wrap ((x : Int).tmod 70) = (n : Int) ∧ IntKind.i64.wrap ((x : Int) % 70) = (n : Int) := by
    refine ⟨x % 70, Nat.mod_lt _ (by omega), ?_, ?_⟩
    · rw [Int.tmod_eq_emod_of_nonneg (Int.natCast_nonneg _), wrap_i64 (by omega) (by omega)]; omega
    · rw [wrap_i64 (by omega) (by omega)]; omega
  obtain ⟨H1, p, v, T, I, v2, T2, I2, b1, b2, b3⟩ := both_ok lv l hl (by omega) n (by omega) []
  obtain ⟨u, hu, him, _⟩ := b2.rel.imm true
  obtain ⟨tu, htu, htim, _⟩ := MatAt.tabV b2.tab true
  have hi7 := fun vs tk => him vs tk 4
  have ht8 := fun vs tk => htim vs tk 5
  simp only [Nat.reduceAdd] at hi7 ht8
  have hS := same_ok (t := true) hu htu
  obtain ⟨cu, W', k1, k2, k3, k4⟩ := Close_ok (t := true) hu
  obtain ⟨ct, m1, m2, m3⟩ := refClose_ok tu n (by omega) (bitW (relOf n l)) htu
  have hS2 := same_ok (t := false) k2 (m2.congr fun a b ha hb => k3 a b ha hb)
  have k7 := k4 4
  have m8 := m3 5
  simp only [Nat.reduceAdd] at k7 m8
  have k7i : toImm ⟨[], [], []⟩ false 8 (.ip false [cu] 0) = some (.ip false [cu] 0) := rfl
  have hp1 := get_lt b2.rel.obj
  have ho1 := b2.rel.obj
  have hg1 := get_el ho1 hp1
  have hs2 := MatAt.slot b2.tab
  have hcs := m2.is
  have hz0 : toImm ⟨[], [], []⟩ false 8 v2 = none ∨ toImm ⟨[], [], []⟩ false 8 v2 = some tu := by
    rcases MatAt.top b2.tab with ⟨_, hv⟩ | ⟨_, hv, _⟩
    · right
      have := ht8 [] []
      rw [hv, show (8 : Nat) = 7 + 1 from rfl, e_imm_nils] at this
      rw [hv]; exact this
    · left; rw [hv]; rfl
  rcases hz0 with hz | hz
  · simp [ir_undertowlaw19_RelCloses, go_sem, alive19, hl.is, hl.rows, pR_len, c1', en, en2, b1, hi7, hz, ht8, hs2, hS, k1, k7, m1, m8, hS2, hcs, ho1, hp1, hg1]
  · simp [ir_undertowlaw19_RelCloses, go_sem, alive19, hl.is, hl.rows, pR_len, c1', en, en2, b1, hi7, hz, ht8, hs2, hS, k1, k7, m1, m8, hS2, hcs, ho1, hp1, hg1]
theorem law_closes : ∀ vs, PArgs Tryd.prog 8 Tryd.f3.params.toList vs → ∃ k, evF pg k .val 3 vs [] = some (.bool true, []) := by
  intro vs h
  obtain ⟨v1, _, rfl, h1, v2, _, rfl, h2, rfl⟩ := h
  obtain ⟨x, rfl, hx⟩ := arg_u8 Tryd.underlying5 h1
  obtain ⟨l, hl⟩ := arg_pairs (n := 5) h2
  exact (evI_iff (Go.Vm.hx _ _ _)).1 (RelCloses_true x v2 l hl)
end Go.Proofs.YtkjfedgjjgobaaaDoor
