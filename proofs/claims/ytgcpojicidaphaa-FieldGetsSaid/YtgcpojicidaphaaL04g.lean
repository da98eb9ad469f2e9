/- Every word's immediate is read as the document reads it: the law FieldGets returns true whatever it is handed. No condition. -/
import Derived.Test.YtgcpojicidaphaaK04d
import Derived.Test.YtgcpojicidaphaaK04e
import Derived.Test.YtgcpojicidaphaaRows
set_option linter.unusedSimpArgs false
set_option linter.unusedVariables false
namespace Go.Proofs.Ytgcpojicidaphaa
open Go Go.Vm

theorem alive_okG : evI pg .val n_undertowlaw04_alive [] [] = some (.bool true, []) := closed irL_ok 100 (by kernel_rfl)
def fmG (v : Int) (f : Nat) : Int := if f = 0 then v else f
theorem gets_loop (v : Int) (w : Nat) (hw : w < 4294967296) : ∀ (d f : Nat) (s4 s6 s7 s8 : V), f + d = 7 →
    ∃ f' s4' s6' s7' s8', evCI pg (.loop ir_undertowlaw04_FieldGetsl0) ⟨[.int .i64 v, .int .u32 (w : Int), .bool false, .int .i64 (f : Int), s4, .bool false, s6, s7, s8], ⟨[], [], []⟩⟩ =
      some (.exit 0, ⟨[.int .i64 v, .int .u32 (w : Int), .bool false, f', s4', .bool false, s6', s7', s8'], ⟨[], [], []⟩⟩)
  | 0, f, s4, s6, s7, s8, hd => by
    have hf : f = 7 := by omega
    subst hf
    have hs := rfl (a := evCI pg ir_undertowlaw04_FieldGetsl0 ⟨[.int .i64 v, .int .u32 (w : Int), .bool false, .int .i64 ((7 : Nat) : Int), s4, .bool false, s6, s7, s8], ⟨[], [], []⟩⟩)
    conv at hs => rhs; simp [ir_undertowlaw04_FieldGetsl0, go_sem]
    rw [s_loop, hs, s_then_exit]
    exact ⟨_, _, _, _, _, rfl⟩
  | d + 1, f, s4, s6, s7, s8, hd => by
    have hf : (f : Int) < 7 := by omega
    have e7 : IntKind.i64.wrap ((f : Int) + 1) = (f : Int) + 1 := wrap_i64 (by omega) (by omega)
    have key : ∃ (g m : Int), evI pg .val n_field_Get [.int .i64 (fmG v f), .int .u32 (w : Int)] [] = some (.int .i64 g, []) ∧ evI pg .val n_undertowref04_Get [.int .i64 (fmG v f), .int .u32 (w : Int)] [] = some (.int .i64 g, []) ∧ evI pg .val n_field_Mask [.int .i64 (fmG v f)] [] = some (.int .u32 m, []) ∧ evI pg .val n_undertowref04_Mask [.int .i64 (fmG v f)] [] = some (.int .u32 m, []) := by
      generalize fmG v f = k
      by_cases hk : 1 ≤ k ∧ k ≤ 5
      · obtain ⟨n, rfl⟩ : ∃ n : Nat, k = n := ⟨k.toNat, by omega⟩
        have h1 : 1 ≤ n := by omega
        have h5 : n ≤ 5 := by omega
        refine ⟨_, _, Get_ok n w hw h1 h5, ?_, Mask_ok n h1 h5, refMask_ok n h1 h5⟩
        rw [getI_eq n w h1 h5]
        exact refGet_ok n w hw h1 h5
      · exact ⟨_, _, Get_bad k w (by omega), refGet_bad k w (by omega), Mask_bad k (by omega), refMask_bad k (by omega)⟩
    obtain ⟨g, m, k1, k2, k3, k4⟩ := key
    by_cases h0 : f = 0
    · subst h0
      have hk : fmG v 0 = v := rfl
      rw [hk] at k1 k2 k3 k4
      have hs := rfl (a := evCI pg ir_undertowlaw04_FieldGetsl0 ⟨[.int .i64 v, .int .u32 (w : Int), .bool false, .int .i64 ((0 : Nat) : Int), s4, .bool false, s6, s7, s8], ⟨[], [], []⟩⟩)
      conv at hs => rhs; simp [ir_undertowlaw04_FieldGetsl0, go_sem, k1, k2, k3, k4]
      rw [s_loop, hs, s_then_nrm]
      exact gets_loop v w hw d 1 _ _ _ _ (by omega)
    · have h0' : ¬ ((f : Int) = 0) := by omega
      have hk : fmG v f = (f : Int) := by unfold fmG; rw [if_neg h0]
      rw [hk] at k1 k2 k3 k4
      have hs := rfl (a := evCI pg ir_undertowlaw04_FieldGetsl0 ⟨[.int .i64 v, .int .u32 (w : Int), .bool false, .int .i64 (f : Int), s4, .bool false, s6, s7, s8], ⟨[], [], []⟩⟩)
      conv at hs => rhs; simp [ir_undertowlaw04_FieldGetsl0, go_sem, hf, h0, h0', k1, k2, k3, k4, e7]
      rw [s_loop, hs, s_then_nrm]
      exact gets_loop v w hw d (f + 1) _ _ _ _ (by omega)
theorem FieldGets_true (v : Int) (w : Nat) (hw : w < 4294967296) : evI pg .val n_undertowlaw04_FieldGets [.int .i64 v, .int .u32 (w : Int)] [] = some (.bool true, []) := by
  obtain ⟨a, b, c, d, e, hl⟩ := gets_loop v w hw 7 0 .undef .undef .undef .undef (by omega)
  simp at hl
  rw [s_fn fn_undertowlaw04_FieldGets]
  simp [ir_undertowlaw04_FieldGets, go_sem, callF, alive_okG, hl, unV]
theorem law_gets : ∀ vs, PArgs Try.prog 4 Try.f4.params.toList vs → ∃ k, evF pg k .val 4 vs [] = some (.bool true, []) := by
  intro vs h
  obtain ⟨v1, _, rfl, h1, v2, _, rfl, h2, rfl⟩ := h
  obtain ⟨v, rfl, _⟩ := arg_i64 Try.underlying3 h1
  obtain ⟨w, rfl, hw⟩ := arg_u32 Try.underlying23 h2
  exact (evI_iff (hx _ _)).1 (FieldGets_true v w hw)
end Go.Proofs.Ytgcpojicidaphaa
