/- Whichever entries go first, all stores leave a memory the same bytes as in the order in which they came: the law SbufSame returns true whatever it is handed. No condition. -/
import Derived.Test.YtaedicechhbhdaaK13t
import Derived.Test.YtaedicechhbhdaaRows
set_option linter.unusedSimpArgs false
set_option linter.unusedVariables false
namespace Go.Proofs.Ytaedicechhbhdaa
open Go Go.Vm

theorem byV_zero : List.replicate 1040 [V.int .u8 0] = byV (List.replicate 1040 0) := by
  unfold byV
  rw [List.map_replicate]
  rfl
theorem SbufSame_true (v pv : V) (acts : List Ac) (picks : List Nat) (hv : Sl v (acR acts)) (hpv : Sl pv (byV picks)) (hok : okA acts) (hpk : ∀ b ∈ picks, b < 256) : evI pg .val n_undertowlaw13_SbufSame [v, pv] [] = some (.bool true, []) := by
  have h0 := Lv.new [Vm.Obj.arr [[.nils, .int .i64 0]], .arr (byV (List.replicate 1040 0)), .arr (byV (List.replicate 1040 0))] 0 rfl
  obtain ⟨H1, L, ep, F, Q, c, l1, b1, b2, b3, b4, b5, b6⟩ := Same_loop1 v pv acts picks hv hpv hok 0 (by omega) _ [] 0 _ h0 Iv.nil (by omega) _ MemOf.nil _ rfl rfl (fun q hq => by subst hq; omega)
  obtain ⟨H2, F2, S, Q2, c2, l2, d1, d2, d3, d4, d5⟩ := Same_loop4 pv picks hpv hpk 0 H1 L ep F b1 b2 (by have := b2.n4; omega) [] (L.map Prod.fst) (fun p => by simp) _ MemOf.nil _ b4 b5 b6
  have hQ : Q = Q2 := b3.same d2 d3
  subst hQ
  obtain ⟨ev, u, hp, hu, hui⟩ := d1.imm
  have hpl := get_lt hp
  have hE := Empty_ok true u (grp []) ep hu
  rw [decide_eq_true (by simp [grp])] at hE
  have hB := SameBytes_ok (.isl true (byV Q)) (.isl true (byV Q)) Q Q (.isl _ _) (.isl _ _) (by have := b3.1; omega)
  rw [decide_eq_true rfl] at hB
  have i1 := fun d => toImm_by [[]] [] H2 d 1 1040 Q d4 b3.1
  have i2 := fun d => toImm_by [[]] [] H2 d 2 1040 Q d5 b3.1
  rw [Int.natCast_zero] at l1 l2
  rw [s_fn fn_undertowlaw13_SbufSame]
  simp [ir_undertowlaw13_SbufSame, go_sem, alive13, hv.is, hpv.is, byV_zero, maxB, l1, l2, hp, get_el hp, hpl, hui, hu.is, hE, hB, i1, i2, unV, -List.reduceReplicate]
theorem law_same : ∀ vs, PArgs Try.prog 8 Try.f5.params.toList vs → ∃ k, evF pg k .val 5 vs [] = some (.bool true, []) := by
  intro vs h
  obtain ⟨v1, _, rfl, h1, v2, _, rfl, h2, rfl⟩ := h
  obtain ⟨l, hl, hok⟩ := arg_acs (n := 4) h1
  obtain ⟨p, hp, hpk⟩ := arg_u8s (n := 6) h2
  exact (evI_iff (hx _ _ _)).1 (SbufSame_true v1 v2 l p hl hp hok hpk)
end Go.Proofs.Ytaedicechhbhdaa
