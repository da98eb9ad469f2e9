/- Layer 19: tables on the heap; a relation and its table (no claim; lemmas). -/
import Derived.Test.YtkjfedgjjgobaaaDoorK19g
set_option linter.unusedSimpArgs false
set_option linter.unusedVariables false
namespace Go.Proofs.YtkjfedgjjgobaaaDoor
open Go Go.Vm

theorem Join_end (r ys : V) (m : Nat) (M : Mem) : evCI pg (.loop ir_rel_Rel_Joinl1) ⟨[r, .undef, .undef, .undef, ys, .int .i64 (m : Int), .int .i64 (m : Int), .undef, .undef, .undef, .undef, .undef], M⟩ =
    some (.exit 0, ⟨[r, .undef, .undef, .undef, ys, .int .i64 (m : Int), .int .i64 (m : Int), .bool false, .undef, .undef, .undef, .undef], M⟩) := by
  rw [s_loop]
  simp [ir_rel_Rel_Joinl1, go_sem]
/-- Joined with one that is handed by its contents. -/
theorem Join_one_ok {p : Nat} {v : V} {n T : Nat} {I : Nat → Nat} {W U : Nat → Nat} {t : Bool} {rv : V} (hu : RelV rv n U) (H : List Vm.Obj) (h : RelAt H p v n T I W) :
    ∃ H', evI pg .heap n_rel_Rel_Join [.ptr p 0 0, .isl false [[.ip t [rv] 0]]] H = some (.tup [], H') ∧ RelAt H' p v n T I (fun a => W a ||| U a) ∧ (∀ q, (∀ a, a < n → q ≠ I a) → H'[q]? = H[q]?) := by
  obtain ⟨H', r1, r2, r3⟩ := Join_step_ip (t := t) hu (.isl false [[.ip t [rv] 0]]) 0 1 (by omega) (by omega) H h (.ip false [.ip t [rv] 0] 0) (by rw [e_ia_isl]; rfl) (by rw [e_load_ip]; rfl)
  refine ⟨H', ?_, r2, r3⟩
  have he := Join_end (.ptr p 0 0) (.isl false [[.ip t [rv] 0]]) 1 ⟨[], [], H'⟩
  obtain ⟨B, hB⟩ : ∃ B, B = C.loop ir_rel_Rel_Joinl1 := ⟨_, rfl⟩
  have hl : evCI pg B ⟨[.ptr p 0 0, .undef, .undef, .undef, .isl false [[.ip t [rv] 0]], .int .i64 1, .int .i64 0, .undef, .undef, .undef, .undef, .undef], ⟨[], [], H⟩⟩ = some (.exit 0, ⟨[.ptr p 0 0, .undef, .undef, .undef, .isl false [[.ip t [rv] 0]], .int .i64 1, .int .i64 1, .bool false, .undef, .undef, .undef, .undef], ⟨[], [], H'⟩⟩) := by
    rw [s_loop_at hB]
    simp only [Int.natCast_zero, Int.natCast_one] at r1
    rw [r1, s_then_nrm, hB]
    exact he
  rw [s_fn fn_rel_Rel_Join]
  simp [ir_rel_Rel_Join, go_sem]
  rw [← hB]
  rw [hl]
  simp [go_sem]
/-- No relation, joined with one. -/
theorem Join_none_ok (H : List Vm.Obj) (q p : Nat) (hq : H[q]? = some (.arr [[.ptr p 0 0]])) : evI pg .heap n_rel_Rel_Join [.nilp, .rsl q 0 1] H = some (.tup [], H) := by
  have hql := get_lt hq
  have hg := get_el hq hql
  have he := Join_end .nilp (.rsl q 0 1) 1 ⟨[], [], H⟩
  obtain ⟨B, hB⟩ : ∃ B, B = C.loop ir_rel_Rel_Joinl1 := ⟨_, rfl⟩
  have hs : evCI pg ir_rel_Rel_Joinl1 ⟨[.nilp, .undef, .undef, .undef, .rsl q 0 1, .int .i64 1, .int .i64 0, .undef, .undef, .undef, .undef, .undef], ⟨[], [], H⟩⟩ =
      some (.nrm, ⟨[.nilp, .undef, .undef, .undef, .rsl q 0 1, .int .i64 1, .int .i64 1, .undef, .undef, .undef, .undef, .undef], ⟨[], [], H⟩⟩) := by
    have e3 : IntKind.i64.wrap 1 = 1 := rfl
    simp [ir_rel_Rel_Joinl1, go_sem, hq, hql, hg, e3, asIx, loadAt]
  have hl : evCI pg B ⟨[.nilp, .undef, .undef, .undef, .rsl q 0 1, .int .i64 1, .int .i64 0, .undef, .undef, .undef, .undef, .undef], ⟨[], [], H⟩⟩ = some (.exit 0, ⟨[.nilp, .undef, .undef, .undef, .rsl q 0 1, .int .i64 1, .int .i64 1, .bool false, .undef, .undef, .undef, .undef], ⟨[], [], H⟩⟩) := by
    rw [s_loop_at hB, hs, s_then_nrm, hB]
    exact he
  rw [s_fn fn_rel_Rel_Join]
  simp [ir_rel_Rel_Join, go_sem]
  rw [← hB, hl]
  simp [go_sem]
/-- Joined with one, with none, and with one of another length. -/
theorem Join_three_ok {p : Nat} {v : V} {n T : Nat} {I : Nat → Nat} {W U : Nat → Nat} {p' : Nat} {v' : V} {T' : Nat} {I' : Nat → Nat} {p2 n2 : Nat} {v2 : V} {T2 : Nat} {I2 W2 : Nat → Nat} (hd : ∀ a, a < n → ¬ rft p' n T' I' (I a)) (hd2 : ∀ a, a < n → ¬ rft p2 n2 T2 I2 (I a)) (hn2 : n2 ≠ n) (H : List Vm.Obj) (q : Nat)
    (h : RelAt H p v n T I W) (hu : RelAt H p' v' n T' I' U) (h2 : RelAt H p2 v2 n2 T2 I2 W2) (hq : H[q]? = some (.arr [[.ptr p' 0 0], [.nilp], [.ptr p2 0 0]])) (hqd : ∀ a, a < n → q ≠ I a) :
    ∃ H', evI pg .heap n_rel_Rel_Join [.ptr p 0 0, .rsl q 0 3] H = some (.tup [], H') ∧ RelAt H' p v n T I (fun a => W a ||| U a) ∧ (∀ q, (∀ a, a < n → q ≠ I a) → H'[q]? = H[q]?) := by
  have ia : ∀ (H1 : List Vm.Obj), H1[q]? = some (.arr [[.ptr p' 0 0], [.nilp], [.ptr p2 0 0]]) → ∀ j : Nat, j < 3 → iaSV 1 ⟨[], [], H1⟩ (.rsl q 0 3) (.int .i64 (j : Int)) = some (.ptr q j 0) := by
    intro H1 h1 j hj
    rw [e_ia_rsl]
    simp only [asIx_nat hj, h1]
    match j, hj with
    | 0, _ => rfl
    | 1, _ => rfl
    | 2, _ => rfl
  have ld : ∀ (H1 : List Vm.Obj), H1[q]? = some (.arr [[.ptr p' 0 0], [.nilp], [.ptr p2 0 0]]) → ∀ j : Nat, evLoad false 1 ⟨[], [], H1⟩ (.ptr q j 0) = match [[V.ptr p' 0 0], [.nilp], [.ptr p2 0 0]][j]? with | some cs => loadAt false 1 cs 0 | none => none := by
    intro H1 h1 j
    rw [e_load_ptr]
    simp only [h1]
    rfl
  obtain ⟨H', r1, r2, r3⟩ := Join_step_ptr hd (.rsl q 0 3) 0 3 (by omega) (by omega) H h hu (.ptr q 0 0) (ia H hq 0 (by omega)) (by rw [ld H hq]; rfl)
  have hq' : H'[q]? = some (.arr [[.ptr p' 0 0], [.nilp], [.ptr p2 0 0]]) := by rw [r3 q hqd, hq]
  have h2' : RelAt H' p2 v2 n2 T2 I2 W2 := h2.frame fun x hx => r3 x fun a ha e => hd2 a ha (by rw [← e]; exact hx)
  have s1 := Join_step_nil (.rsl q 0 3) 1 3 (by omega) (by omega) H' r2 (.ptr q 1 0) (ia H' hq' 1 (by omega)) (by rw [ld H' hq']; rfl)
  have s2 := Join_step_len hn2 (.rsl q 0 3) 2 3 (by omega) (by omega) H' r2 h2' (.ptr q 2 0) (ia H' hq' 2 (by omega)) (by rw [ld H' hq']; rfl)
  refine ⟨H', ?_, r2, r3⟩
  have he := Join_end (.ptr p 0 0) (.rsl q 0 3) 3 ⟨[], [], H'⟩
  obtain ⟨B, hB⟩ : ∃ B, B = C.loop ir_rel_Rel_Joinl1 := ⟨_, rfl⟩
  have hl : evCI pg B ⟨[.ptr p 0 0, .undef, .undef, .undef, .rsl q 0 3, .int .i64 ((3 : Nat) : Int), .int .i64 ((0 : Nat) : Int), .undef, .undef, .undef, .undef, .undef], ⟨[], [], H⟩⟩ = some (.exit 0, ⟨[.ptr p 0 0, .undef, .undef, .undef, .rsl q 0 3, .int .i64 ((3 : Nat) : Int), .int .i64 ((3 : Nat) : Int), .bool false, .undef, .undef, .undef, .undef], ⟨[], [], H'⟩⟩) := by
    rw [s_loop_at hB, r1, s_then_nrm, s_loop_at hB, s1, s_then_nrm, s_loop_at hB, s2, s_then_nrm, hB]
    exact he
  rw [s_fn fn_rel_Rel_Join]
  simp [ir_rel_Rel_Join, go_sem]
  rw [← hB]
  simp only [Int.natCast_zero] at hl
  erw [hl]
  simp [go_sem]

/-! ### tables -/
def bR (n : Nat) (f : Nat → Bool) : List (List V) := (List.range n).map fun b => [.bool (f b)]
theorem bR_len (n : Nat) (f : Nat → Bool) : (bR n f).length = n := by simp [bR]
theorem bR_el (n : Nat) (f : Nat → Bool) (i : Nat) (h : i < (bR n f).length) : (bR n f)[i] = [.bool (f i)] := by simp [bR]
theorem bR_get {n : Nat} (f : Nat → Bool) {i : Nat} (h : i < n) : (bR n f)[i]? = some [.bool (f i)] := by
  rw [List.getElem?_eq_getElem (by rw [bR_len]; exact h), bR_el]
theorem bR_set (n : Nat) (f : Nat → Bool) (i : Nat) (x : Bool) : (bR n f).set i [.bool x] = bR n (fun j => if j = i then x else f j) := by
  apply List.ext_getElem
  · simp [bR]
  · intro j h1 h2
    rw [List.getElem_set, bR_el, bR_el]
    by_cases c : i = j
    · subst c; simp
    · have : ¬ j = i := fun e => c e.symm
      simp [c, this]
theorem bR_congr {n : Nat} {f g : Nat → Bool} (h : ∀ j, j < n → f j = g j) : bR n f = bR n g := by
  unfold bR
  apply List.map_congr_left
  intro j hj
  rw [h j (List.mem_range.1 hj)]
theorem bR_imm {n : Nat} {f : Nat → Bool} : ∀ e ∈ bR n f, ∀ x ∈ e, ∀ (m : Mem) (t : Bool) (d : Nat), toImm m t (d + 1) x = some x := by
  intro e he x hx m t d
  obtain ⟨w, _, rfl⟩ := List.mem_map.1 he
  simp at hx; subst hx; rfl
theorem bR_clean {n : Nat} {f : Nat → Bool} : ∀ e ∈ bR n f, ∀ x ∈ e, ∀ d, clean (d + 1) x = true := by
  intro e he x hx d
  obtain ⟨w, _, rfl⟩ := List.mem_map.1 he
  simp at hx; subst hx; rfl
theorem bR_rep (n : Nat) : bR n (fun _ => false) = List.replicate n [.bool false] := by simp [bR, List.map_const']
/-- A table that stands somewhere. -/
def TabAt (H : List Vm.Obj) (v : V) (n T : Nat) (I : Nat → Nat) (f : Nat → Nat → Bool) : Prop := MatAt H v n n T I (fun a => bR n (f a))
theorem refNew_loop (n b0 : Nat) (hn : n ≤ 512) (H0 : List Vm.Obj) (i : Nat) (hi : i ≤ n) (H : List Vm.Obj) (v : V) (T : Nat) (I : Nat → Nat) (c1 : ∀ q, q < b0 → H[q]? = H0[q]?) (c2 : b0 ≤ H.length)
    (c3 : MatAt H v i n T I (fun _ => bR n (fun _ => false))) (c4 : ∀ q, mft i T I q → b0 ≤ q) :
    ∃ H' v' T' I', evCI pg (.loop ir_undertowref19_Newl0) ⟨[.int .i64 (n : Int), .undef, v, .int .i64 (i : Int), .undef], ⟨[], [], H⟩⟩ =
        some (.exit 0, ⟨[.int .i64 (n : Int), .undef, v', .int .i64 (n : Int), .bool false], ⟨[], [], H'⟩⟩) ∧
      (∀ q, q < b0 → H'[q]? = H0[q]?) ∧ MatAt H' v' n n T' I' (fun _ => bR n (fun _ => false)) ∧ (∀ q, mft n T' I' q → b0 ≤ q) ∧ b0 ≤ H'.length := by
  obtain ⟨B, hB⟩ : ∃ B, B = C.loop ir_undertowref19_Newl0 := ⟨_, rfl⟩
  by_cases h : i < n
  · have e3 := succ_i64 h (by omega)
    obtain ⟨H2, g1, g2, g3, g4⟩ := c3.grow (bR n (fun _ => false)) (bR_len _ _) (by omega) [] []
    have hnew : ∀ q, mft (i + 1) (H.length + 1) (fun a => if a = i then H.length else I a) q → b0 ≤ q := by
      rintro q (⟨_, rfl⟩ | ⟨a, ha, rfl⟩)
      · omega
      · by_cases c : a = i
        · simp only [c, if_true]; omega
        · simp only [c, if_false]; exact c4 _ (.inr ⟨a, by omega, rfl⟩)
    obtain ⟨H', v', T', I', r1, r2⟩ := refNew_loop n b0 hn H0 (i + 1) (by omega) H2 (.rsl (H.length + 1) 0 (i + 1)) (H.length + 1) _
      (fun q hq => by rw [g4 q (by omega) (fun hc => by have := c4 q hc; omega), c1 q hq]) (by omega) (g2.congr fun a _ => by simp) hnew
    refine ⟨H', v', T', I', ?_, r2⟩
    rw [← r1, ← hB]
    conv => lhs; rw [s_loop_at hB]
    have hk4 : n * 1 ≤ maxB := by unfold maxB; omega
    have hk5 : (n : Int) ≤ 9223372036854775807 := by omega
    obtain ⟨x1, x2, x3⟩ := c3.exp
    rw [bR_rep] at g1
    have hn4 : n ≤ maxB := by omega
    have hsl : ∀ k, slotV k v = some v := by
      intro k
      rcases c3.top with ⟨_, h1⟩ | ⟨_, h1, _⟩ <;> subst h1 <;> rfl
    simp [ir_undertowref19_Newl0, go_sem, h, e3, hk4, hn4, hk5, litParts, g1, hsl, -Int.natCast_add]
  · obtain rfl : i = n := by omega
    refine ⟨H, v, T, I, ?_, c1, c3, c4, c2⟩
    rw [← hB, s_loop_at hB]
    simp [ir_undertowref19_Newl0, go_sem]
termination_by n - i
theorem refNew_ok (n : Nat) (hn : n ≤ 512) (H : List Vm.Obj) : ∃ H' v T I, evI pg .heap n_undertowref19_New [.int .i64 (n : Int)] H = some (v, H') ∧ TabAt H' v n T I (fun _ _ => false) ∧ (∀ q, q < H.length → H'[q]? = H[q]?) ∧ (∀ q, mft n T I q → H.length ≤ q) ∧ H.length ≤ H'.length := by
  obtain ⟨H', v', T', I', r1, r2, r3, r4, r5⟩ := refNew_loop n H.length hn H 0 (by omega) H .nils 0 (fun _ => 0) (fun q hq => rfl) (by omega)
    ⟨.inl ⟨rfl, rfl⟩, fun a ha => by omega, fun a ha => by omega, fun a b ha => by omega, fun a ha => by omega⟩ (fun q hq => by rcases hq with ⟨h0, _⟩ | ⟨a, ha, _⟩ <;> omega)
  rw [Int.natCast_zero] at r1
  refine ⟨H', v', T', I', ?_, r3, r2, r4, r5⟩
  rw [s_fn fn_undertowref19_New]
  obtain ⟨x1, x2, x3⟩ := r3.exp
  have hsl : ∀ k, slotV k v' = some v' := by
    intro k
    rcases r3.top with ⟨_, h1⟩ | ⟨_, h1, _⟩ <;> subst h1 <;> rfl
  simp [ir_undertowref19_New, go_sem, r1, hsl, x1]
end Go.Proofs.YtkjfedgjjgobaaaDoor
