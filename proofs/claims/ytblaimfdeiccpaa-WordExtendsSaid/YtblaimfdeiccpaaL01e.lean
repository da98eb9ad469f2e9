/- The low bits of every word, with and without their sign, are the document's: the law WordExtends returns true whatever it is handed. No condition. -/
import Derived.Test.YtblaimfdeiccpaaK01
import Derived.Test.YtblaimfdeiccpaaRows
set_option linter.unusedSimpArgs false
set_option linter.unusedVariables false
namespace Go.Proofs.Ytblaimfdeiccpaa.lawExtends
open Go Go.Vm

theorem alive_ok : evI pg .val n_undertowlaw01_alive [] [] = some (.bool true, []) := closed irL_ok 100 (by kernel_rfl)
theorem loop (x : Nat) (n : Int) (hx : x < 18446744073709551616) (m : Mem) : ∀ (d : Nat) (i : Int) (r a b c : V), i + d = 67 → -1 ≤ i →
    ∃ i' b' c', evCI pg (.loop ir_undertowlaw01_WordExtendsl0) ⟨[.int .u64 x, .int .i64 n, r, .int .i64 i, a, b, c], m⟩ = some (.exit 0, ⟨[.int .u64 x, .int .i64 n, r, i', a, b', c'], m⟩)
  | 0, i, r, a, b, c, hd, hi => by
    have h : ¬ i < 67 := by omega
    have hs := rfl (a := evCI pg ir_undertowlaw01_WordExtendsl0 ⟨[.int .u64 x, .int .i64 n, r, .int .i64 i, a, b, c], m⟩)
    conv at hs => rhs; simp [ir_undertowlaw01_WordExtendsl0, go_sem, h]
    rw [s_loop, hs, s_then_exit]
    exact ⟨_, _, _, rfl⟩
  | d + 1, i, r, a, b, c, hd, hi => by
    have h : i < 67 := by omega
    have hw : IntKind.i64.wrap (i + 1) = i + 1 := wrap_i64 (by omega) (by omega)
    have hs := rfl (a := evCI pg ir_undertowlaw01_WordExtendsl0 ⟨[.int .u64 x, .int .i64 n, r, .int .i64 i, a, b, c], m⟩)
    conv at hs => rhs; simp [ir_undertowlaw01_WordExtendsl0, go_sem, h, hw, Zext_ok x i hx, refZext_ok x i hx, Sext_ok x i hx, refSext_ok x i hx]
    rw [s_loop, hs, s_then_nrm]
    exact loop x n hx m d (i + 1) _ _ _ _ (by omega) (by omega)
theorem true_ (x : Nat) (n : Int) (hx : x < 18446744073709551616) : evI pg .val n_undertowlaw01_WordExtends [.int .u64 x, .int .i64 n] [] = some (.bool true, []) := by
  obtain ⟨i', b', c', h⟩ := loop x n hx ⟨[], [], []⟩ 68 (-1) (.bool false) (.bool false) .undef .undef (by omega) (by omega)
  rw [s_fn fn_undertowlaw01_WordExtends]
  simp [ir_undertowlaw01_WordExtends, go_sem, alive_ok, h, Zext_ok x n hx, refZext_ok x n hx, Sext_ok x n hx, refSext_ok x n hx]
theorem law : ∀ vs, PArgs Try.prog 6 Try.f3.params.toList vs → ∃ k, evF pg k .val 3 vs [] = some (.bool true, []) := by
  intro vs h
  obtain ⟨v1, _, rfl, h1, v2, _, rfl, h2, rfl⟩ := h
  obtain ⟨w, rfl, hw⟩ := arg_u64 Try.underlying22 h1
  obtain ⟨n, rfl, _⟩ := arg_i64 Try.underlying3 h2
  exact (evI_iff (hx _ _)).1 (true_ w n hw)
end Go.Proofs.Ytblaimfdeiccpaa.lawExtends
