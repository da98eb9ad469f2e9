/- Layer 19: tables on the heap; a relation and its table (no claim; lemmas). -/
import Derived.Test.YtkdgcgkmgcmaiaaDoorK19g
set_option linter.unusedSimpArgs false
set_option linter.unusedVariables false
namespace Go.Proofs.YtkdgcgkmgcmaiaaDoor
open Go Go.Vm

/-! ### tables -/
def bR (n : Nat) (f : Nat → Bool) : List (List V) := (List.range n).map fun b => [.bool (f b)]
theorem bR_len (n : Nat) (f : Nat → Bool) : (bR n f).length = n := by simp [bR]
theorem bR_el (n : Nat) (f : Nat → Bool) (i : Nat) (h : i < (bR n f).length) : (bR n f)[i] = [.bool (f i)] := by simp [bR]
theorem bR_get {n : Nat} (f : Nat → Bool) {i : Nat} (h : i < n) : (bR n f)[i]? = some [.bool (f i)] := by
  rw [List.getElem?_eq_getElem (by rw [bR_len]; exact h), bR_el]
theorem bR_set (n : Nat) (f : Nat → Bool) (i : Nat) (x : Bool) : (bR n f).set i [.bool x] = bR n (fun j => if j = i then x else f j) := by
  apply List.ext_getElem
  · simp [bR]
  · intro j h1 h2
    rw [List.getElem_set, bR_el, bR_el]
    by_cases c : i = j
    · subst c; simp
    · have : ¬ j = i := fun e => c e.symm
      simp [c, this]
theorem bR_congr {n : Nat} {f g : Nat → Bool} (h : ∀ j, j < n → f j = g j) : bR n f = bR n g := by
  unfold bR
  apply List.map_congr_left
  intro j hj
  rw [h j (List.mem_range.1 hj)]
theorem bR_imm {n : Nat} {f : Nat → Bool} : ∀ e ∈ bR n f, ∀ x ∈ e, ∀ (m : Mem) (t : Bool) (d : Nat), toImm m t (d + 1) x = some x := by
  intro e he x hx m t d
  obtain ⟨w, _, rfl⟩ := List.mem_map.1 he
  simp at hx; subst hx; rfl
theorem bR_clean {n : Nat} {f : Nat → Bool} : ∀ e ∈ bR n f, ∀ x ∈ e, ∀ d, clean (d + 1) x = true := by
  intro e he x hx d
  obtain ⟨w, _, rfl⟩ := List.mem_map.1 he
  simp at hx; subst hx; rfl
theorem bR_rep (n : Nat) : bR n (fun _ => false) = List.replicate n [.bool false] := by simp [bR, List.map_const']
/-- A table that stands somewhere. -/
def TabAt (H : List Vm.Obj) (v : V) (n T : Nat) (I : Nat → Nat) (f : Nat → Nat → Bool) : Prop := MatAt H v n n T I (fun a => bR n (f a))
theorem refNew_loop (n b0 : Nat) (hn : n ≤ 512) (H0 : List Vm.Obj) (i : Nat) (hi : i ≤ n) (H : List Vm.Obj) (v : V) (T : Nat) (I : Nat → Nat) (c1 : ∀ q, q < b0 → H[q]? = H0[q]?) (c2 : b0 ≤ H.length)
    (c3 : MatAt H v i n T I (fun _ => bR n (fun _ => false))) (c4 : ∀ q, mft i T I q → b0 ≤ q) :
    ∃ H' v' T' I', evCI pg (.loop ir_undertowref19_Newl0) ⟨[.int .i64 (n : Int), .undef, v, .int .i64 (i : Int), .undef], ⟨[], [], H⟩⟩ =
        some (.exit 0, ⟨[.int .i64 (n : Int), .undef, v', .int .i64 (n : Int), .bool false], ⟨[], [], H'⟩⟩) ∧
      (∀ q, q < b0 → H'[q]? = H0[q]?) ∧ MatAt H' v' n n T' I' (fun _ => bR n (fun _ => false)) ∧ (∀ q, mft n T' I' q → b0 ≤ q) ∧ b0 ≤ H'.length := by
  obtain ⟨B, hB⟩ : ∃ B, B = C.loop ir_undertowref19_Newl0 := ⟨_, rfl⟩
  by_cases h : i < n
  · have e3 := succ_i64 h (by omega)
    obtain ⟨H2, g1, g2, g3, g4⟩ := c3.grow (bR n (fun _ => false)) (bR_len _ _) (by omega) [] []
    have hnew : ∀ q, mft (i + 1) (H.length + 1) (fun a => if a = i then H.length else I a) q → b0 ≤ q := by
      rintro q (⟨_, rfl⟩ | ⟨a, ha, rfl⟩)
      · omega
      · by_cases c : a = i
        · simp only [c, if_true]; omega
        · simp only [c, if_false]; exact c4 _ (.inr ⟨a, by omega, rfl⟩)
    obtain ⟨H', v', T', I', r1, r2⟩ := refNew_loop n b0 hn H0 (i + 1) (by omega) H2 (.rsl (H.length + 1) 0 (i + 1)) (H.length + 1) _
      (fun q hq => by rw [g4 q (by omega) (fun hc => by have := c4 q hc; omega), c1 q hq]) (by omega) (g2.congr fun a _ => by simp) hnew
    refine ⟨H', v', T', I', ?_, r2⟩
    rw [← r1, ← hB]
    conv => lhs; rw [s_loop_at hB]
    have hk4 : n * 1 ≤ maxB := by unfold maxB; omega
    have hk5 : (n : Int) ≤ 9223372036854775807 := by omega
    obtain ⟨x1, x2, x3⟩ := c3.exp
    rw [bR_rep] at g1
    have hn4 : n ≤ maxB := by omega
    have hsl : ∀ k, slotV k v = some v := by
      intro k
      rcases c3.top with ⟨_, h1⟩ | ⟨_, h1, _⟩ <;> subst h1 <;> rfl
    simp [ir_undertowref19_Newl0, go_sem, h, e3, hk4, hn4, hk5, litParts, g1, hsl, -Int.natCast_add]
  · obtain rfl : i = n := by omega
    refine ⟨H, v, T, I, ?_, c1, c3, c4, c2⟩
    rw [← hB, s_loop_at hB]
    simp [ir_undertowref19_Newl0, go_sem]
termination_by n - i
theorem refNew_ok (n : Nat) (hn : n ≤ 512) (H : List Vm.Obj) : ∃ H' v T I, evI pg .heap n_undertowref19_New [.int .i64 (n : Int)] H = some (v, H') ∧ TabAt H' v n T I (fun _ _ => false) ∧ (∀ q, q < H.length → H'[q]? = H[q]?) ∧ (∀ q, mft n T I q → H.length ≤ q) ∧ H.length ≤ H'.length := by
  obtain ⟨H', v', T', I', r1, r2, r3, r4, r5⟩ := refNew_loop n H.length hn H 0 (by omega) H .nils 0 (fun _ => 0) (fun q hq => rfl) (by omega)
    ⟨.inl ⟨rfl, rfl⟩, fun a ha => by omega, fun a ha => by omega, fun a b ha => by omega, fun a ha => by omega⟩ (fun q hq => by rcases hq with ⟨h0, _⟩ | ⟨a, ha, _⟩ <;> omega)
  rw [Int.natCast_zero] at r1
  refine ⟨H', v', T', I', ?_, r3, r2, r4, r5⟩
  rw [s_fn fn_undertowref19_New]
  obtain ⟨x1, x2, x3⟩ := r3.exp
  have hsl : ∀ k, slotV k v' = some v' := by
    intro k
    rcases r3.top with ⟨_, h1⟩ | ⟨_, h1, _⟩ <;> subst h1 <;> rfl
  simp [ir_undertowref19_New, go_sem, r1, hsl, x1]
end Go.Proofs.YtkdgcgkmgcmaiaaDoor
