/- Whatever is put and drained, with barriers between, each answer, and all that the buffer has, are the document's: the law SbufPlays returns true whatever it is handed. No condition. -/
import Derived.Test.YtaedicechhbhdaaK13jj
import Derived.Test.YtaedicechhbhdaaRows
set_option linter.unusedSimpArgs false
set_option linter.unusedVariables false
namespace Go.Proofs.Ytaedicechhbhdaa
open Go Go.Vm

theorem SbufPlays_true (v : V) (acts : List Ac) (hv : Sl v (acR acts)) (hok : okA acts) : evI pg .val n_undertowlaw13_SbufPlays [v] [] = some (.bool true, []) := by
  have h0 := Lv.new [Vm.Obj.arr [[.nils, .int .i64 0]], .arr [[.nils, .int .i64 0]]] 0 rfl
  have h1 := Dv.new [Vm.Obj.arr [[.nils, .int .i64 0]], .arr [[.nils, .int .i64 0]]] 1 rfl
  obtain ⟨H', L', ep', F', D', c, l1, b1, b2, b3⟩ := Plays_loop v acts hv hok 0 (by omega) _ [] 0 _ _ h0 h1 Iv.nil (by omega) (fun q hq hc => by omega)
  obtain ⟨ev, u, lv, u', b, id, ok, o, q1, q2, q3, q4, q5, q6, q7, q8, q9, q10, q11⟩ := asked b1 b2 b3 0 0 (by omega)
  have ql1 := get_lt q1
  have ql2 := get_lt q4
  rw [Int.natCast_zero] at l1
  rw [s_fn fn_undertowlaw13_SbufPlays]
  simp [ir_undertowlaw13_SbufPlays, go_sem, alive13, hv.is, l1, q1, q2, q3, q4, q5, q6, q11, ql1, ql2, get_el q1 ql1, get_el q4 ql2, unV]
theorem law_plays : ∀ vs, PArgs Try.prog 8 Try.f6.params.toList vs → ∃ k, evF pg k .val 6 vs [] = some (.bool true, []) := by
  intro vs h
  obtain ⟨v1, _, rfl, h1, rfl⟩ := h
  obtain ⟨l, hl, hok⟩ := arg_acs (n := 4) h1
  exact (evI_iff (hx _ _ _)).1 (SbufPlays_true v1 l hl hok)
end Go.Proofs.Ytaedicechhbhdaa
