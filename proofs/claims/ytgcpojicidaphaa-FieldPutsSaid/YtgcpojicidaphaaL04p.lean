/- Every immediate of every format is put where the document puts it: the law FieldPuts returns true whatever it is handed. No condition. -/
import Derived.Test.YtgcpojicidaphaaK04c
import Derived.Test.YtgcpojicidaphaaRows
set_option linter.unusedSimpArgs false
set_option linter.unusedVariables false
namespace Go.Proofs.Ytgcpojicidaphaa
open Go Go.Vm

theorem alive_ok : evI pg .val n_undertowlaw04_alive [] [] = some (.bool true, []) := closed irL_ok 100 (by kernel_rfl)
/-- The format of a round. -/
def fm (v : Int) (f : Nat) : Int := if f = 0 then v else f
theorem puts_loop (v imm : Int) (h : -9223372036854775808 ≤ imm) (h' : imm ≤ 9223372036854775807) : ∀ (d f : Nat) (s4 s5 s6 s7 s8 s9 s10 : V), f + d = 7 →
    ∃ f' s4' s5' s6' s7' s8' s9' s10', evCI pg (.loop ir_undertowlaw04_FieldPutsl0) ⟨[.int .i64 v, .int .i64 imm, .bool false, .int .i64 (f : Int), s4, s5, s6, s7, s8, s9, s10], ⟨[], [], []⟩⟩ =
      some (.exit 0, ⟨[.int .i64 v, .int .i64 imm, .bool false, f', s4', s5', s6', s7', s8', s9', s10'], ⟨[], [], []⟩⟩)
  | 0, f, s4, s5, s6, s7, s8, s9, s10, hd => by
    have hf : f = 7 := by omega
    subst hf
    have hs := rfl (a := evCI pg ir_undertowlaw04_FieldPutsl0 ⟨[.int .i64 v, .int .i64 imm, .bool false, .int .i64 ((7 : Nat) : Int), s4, s5, s6, s7, s8, s9, s10], ⟨[], [], []⟩⟩)
    conv at hs => rhs; simp [ir_undertowlaw04_FieldPutsl0, go_sem]
    rw [s_loop, hs, s_then_exit]
    exact ⟨_, _, _, _, _, _, _, _, rfl⟩
  | d + 1, f, s4, s5, s6, s7, s8, s9, s10, hd => by
    have hf : (f : Int) < 7 := by omega
    have e7 : IntKind.i64.wrap ((f : Int) + 1) = (f : Int) + 1 := wrap_i64 (by omega) (by omega)
    have hfm : ∀ c : Decidable ((f : Int) = 0), (if (f : Int) = 0 then v else (f : Int)) = fm v f := by
      intro c
      unfold fm
      by_cases h : f = 0 <;> simp [h]
    have key : ∃ u : Nat, ∃ b : Bool, evI pg .val n_field_Put [.int .i64 (fm v f), .int .i64 imm] [] = some (.tup [.int .u32 (u : Int), .bool b], []) ∧ mayB (fm v f) imm = b ∧ (b = true → evI pg .val n_undertowref04_Put [.int .i64 (fm v f), .int .i64 imm] [] = some (.int .u32 (u : Int), [])) ∧ (b = false → u = 0) := by
      generalize fm v f = k
      by_cases hk : 1 ≤ k ∧ k ≤ 5
      · obtain ⟨n, rfl⟩ : ∃ n : Nat, k = n := ⟨k.toNat, by omega⟩
        have h1 : 1 ≤ n := by omega
        have h5 : n ≤ 5 := by omega
        refine ⟨_, _, Put_ok n imm h1 h5, (okB_eq n imm h1 h5 h h').symm, fun hb => ?_, fun hb => ?_⟩
        · rw [hb, if_pos rfl, wPut_eq n imm h1 h5]
          exact refPut_ok n imm h1 h5
        · rw [hb]
          rfl
      · refine ⟨0, false, Put_bad k imm (by omega), ?_, fun hb => (by cases hb), fun _ => rfl⟩
        unfold mayB
        rw [if_neg (by omega), if_neg (by omega), if_neg (by omega), if_neg (by omega)]
    obtain ⟨u, b, hp, hm, hr, hu⟩ := key
    have hmay := May_ok (fm v f) imm
    rw [hm] at hmay
    by_cases h0 : f = 0
    · subst h0
      have hk : fm v 0 = v := rfl
      rw [hk] at hp hmay hr
      cases b with
      | true =>
        have hr := hr rfl
        have hs := rfl (a := evCI pg ir_undertowlaw04_FieldPutsl0 ⟨[.int .i64 v, .int .i64 imm, .bool false, .int .i64 ((0 : Nat) : Int), s4, s5, s6, s7, s8, s9, s10], ⟨[], [], []⟩⟩)
        conv at hs => rhs; simp [ir_undertowlaw04_FieldPutsl0, go_sem, hp, hmay, hr, unV]
        rw [s_loop, hs, s_then_nrm]
        exact puts_loop v imm h h' d 1 _ _ _ _ _ _ _ (by omega)
      | false =>
        have hu := hu rfl
        subst hu
        have hs := rfl (a := evCI pg ir_undertowlaw04_FieldPutsl0 ⟨[.int .i64 v, .int .i64 imm, .bool false, .int .i64 ((0 : Nat) : Int), s4, s5, s6, s7, s8, s9, s10], ⟨[], [], []⟩⟩)
        conv at hs => rhs; simp [ir_undertowlaw04_FieldPutsl0, go_sem, hp, hmay, unV]
        rw [s_loop, hs, s_then_nrm]
        exact puts_loop v imm h h' d 1 _ _ _ _ _ _ _ (by omega)
    · have h0' : ¬ ((f : Int) = 0) := by omega
      have hk : fm v f = (f : Int) := by unfold fm; rw [if_neg h0]
      rw [hk] at hp hmay hr
      cases b with
      | true =>
        have hr := hr rfl
        have hs := rfl (a := evCI pg ir_undertowlaw04_FieldPutsl0 ⟨[.int .i64 v, .int .i64 imm, .bool false, .int .i64 (f : Int), s4, s5, s6, s7, s8, s9, s10], ⟨[], [], []⟩⟩)
        conv at hs => rhs; simp [ir_undertowlaw04_FieldPutsl0, go_sem, hf, h0, h0', hp, hmay, hr, e7, unV]
        rw [s_loop, hs, s_then_nrm]
        exact puts_loop v imm h h' d (f + 1) _ _ _ _ _ _ _ (by omega)
      | false =>
        have hu := hu rfl
        subst hu
        have hs := rfl (a := evCI pg ir_undertowlaw04_FieldPutsl0 ⟨[.int .i64 v, .int .i64 imm, .bool false, .int .i64 (f : Int), s4, s5, s6, s7, s8, s9, s10], ⟨[], [], []⟩⟩)
        conv at hs => rhs; simp [ir_undertowlaw04_FieldPutsl0, go_sem, hf, h0, h0', hp, hmay, e7, unV]
        rw [s_loop, hs, s_then_nrm]
        exact puts_loop v imm h h' d (f + 1) _ _ _ _ _ _ _ (by omega)
theorem FieldPuts_true (v imm : Int) (h : -9223372036854775808 ≤ imm) (h' : imm ≤ 9223372036854775807) : evI pg .val n_undertowlaw04_FieldPuts [.int .i64 v, .int .i64 imm] [] = some (.bool true, []) := by
  obtain ⟨a, b, c, d, e, f, g, i, hl⟩ := puts_loop v imm h h' 7 0 .undef .undef .undef (.bool false) .undef .undef .undef (by omega)
  simp at hl
  rw [s_fn fn_undertowlaw04_FieldPuts]
  simp [ir_undertowlaw04_FieldPuts, go_sem, callF, alive_ok, hl, unV]
theorem law : ∀ vs, PArgs Try.prog 3 Try.f3.params.toList vs → ∃ k, evF pg k .val 3 vs [] = some (.bool true, []) := by
  intro vs h
  obtain ⟨v1, _, rfl, h1, v2, _, rfl, h2, rfl⟩ := h
  obtain ⟨v, rfl, _⟩ := arg_i64 Try.underlying3 h1
  obtain ⟨imm, rfl, hi⟩ := arg_i64 Try.underlying2 h2
  exact (evI_iff (hx _ _)).1 (FieldPuts_true v imm hi.1 hi.2)
end Go.Proofs.Ytgcpojicidaphaa
