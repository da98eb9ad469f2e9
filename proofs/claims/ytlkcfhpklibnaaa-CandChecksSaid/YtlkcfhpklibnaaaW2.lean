/- Lists that are compared, lists that are copied (no claim; lemmas). -/
import Derived.Test.YtlkcfhpklibnaaaW1
set_option linter.unusedSimpArgs false
set_option linter.unusedVariables false
namespace Go.Proofs.Ytlkcfhpklibnaaa
open Go Go.Vm

theorem s_loop_at {a B : C} (h : B = .loop a) (st : St) : evCI pg B st = thenC pg (evCI pg a st) B := by subst h; exact s_loop a st
def iI (l : List Int) : List (List V) := l.map fun x => [.int .i64 x]
theorem iI_len (l : List Int) : (iI l).length = l.length := by simp [iI]
theorem iI_el (l : List Int) (i : Nat) (h : i < (iI l).length) : (iI l)[i] = [.int .i64 (l[i]'(by simpa [iI] using h))] := by simp [iI]
theorem succ_i64 {i n : Nat} (h : i < n) (hn : n < 9223372036854775808) : IntKind.i64.wrap ((i : Int) + 1) = ((i + 1 : Nat) : Int) := by rw [wrap_i64 (by omega) (by omega)]; rfl
theorem byV_elS (l : List Nat) (i : Nat) (h : i < (byV l).length) : ((byV l)[i]).length = 1 := by simp [byV]
/-! ### the word of bytes -/
/-- A write. -/
structure Wr where
  (id addr size : Int) (data : Nat)
  deriving DecidableEq
def wrV (w : Wr) : List V := [.int .i64 w.id, .int .i64 w.addr, .int .i64 w.size, .int .u64 (w.data : Int)]
def wsV (l : List Wr) : List (List V) := l.map wrV
theorem wsV_len (l : List Wr) : (wsV l).length = l.length := by simp [wsV]
theorem wsV_el (l : List Wr) (i : Nat) (h : i < (wsV l).length) : (wsV l)[i] = wrV (l[i]'(by simpa [wsV] using h)) := by simp [wsV]
theorem wsV_sz (l : List Wr) : ∀ e ∈ wsV l, e.length = 4 := by
  intro e he
  obtain ⟨w, _, rfl⟩ := List.mem_map.1 he
  rfl
theorem wsV_szAll (l : List Wr) : szAll 4 (wsV l) = true := by simp only [szAll, List.all_eq_true]; intro e he; simp [wsV_sz l e he]
theorem wsV_imm (l : List Wr) : immAll (wsV l) = true := by simp [immAll, wsV, wrV, V.imm]
theorem wsV_append (l l' : List Wr) : wsV (l ++ l') = wsV l ++ wsV l' := by simp [wsV]
theorem wr_eq (a b : Wr) : eqaV [.int, .int, .int, .int] (wrV a) (wrV b) = some (decide (a = b)) := by
  obtain ⟨a1, a2, a3, a4⟩ := a
  obtain ⟨b1, b2, b3, b4⟩ := b
  simp only [wrV, eqaV, eqcV, if_true]
  rw [Option.some.injEq, Bool.eq_iff_iff]
  simp [nat_eq_int]
/-! ### copies -/
/-- What a copy is: of nil nil, of nothing nothing. -/
def cpS (v : V) (es : List (List V)) : V := match v with
  | .nils => .nils
  | _ => if es.isEmpty then .emp else .osl false 0 es
def cpV (v : V) (es : List (List V)) : V := match v with
  | .nils => .nils
  | _ => if es.isEmpty then .emp else .isl false es
theorem cpV_sl (v : V) (es : List (List V)) (h : Sl v es) : Sl (cpV v es) es := by
  unfold cpV
  split
  · cases h; exact .nils
  · split
    · rename_i he
      have : es = [] := by simpa using he
      subst this; exact .emp
    · exact .isl _ _
theorem fits_of {b n : Nat} (hb : 0 < b) (hn : n * b ≤ 140737488355328) : fits b n = true := by simp [fits, hb, maxB, hn]
/-! ### nothing in them is held for a call -/
def CleanR (es : List (List V)) : Prop := ∀ q ∈ es, ∀ x ∈ q, clean 7 x = true
theorem byV_clean (l : List Nat) : CleanR (byV l) := by
  intro q hq x hx
  obtain ⟨n, _, rfl⟩ := List.mem_map.1 hq
  simp at hx; subst hx; rfl
theorem iI_clean (l : List Int) : CleanR (iI l) := by
  intro q hq x hx
  obtain ⟨n, _, rfl⟩ := List.mem_map.1 hq
  simp at hx; subst hx; rfl
theorem wsV_clean (l : List Wr) : CleanR (wsV l) := by
  intro q hq x hx
  obtain ⟨w, _, rfl⟩ := List.mem_map.1 hq
  simp only [wrV, List.mem_cons, List.not_mem_nil, or_false] at hx
  rcases hx with rfl | rfl | rfl | rfl <;> rfl
theorem cpV_clean (v : V) (es : List (List V)) (h : Sl v es) (hc : CleanR es) : clean 8 (cpV v es) = true := by
  unfold cpV
  split
  · rfl
  · split
    · rfl
    · simp only [clean, Bool.not_false, Bool.true_and, List.all_eq_true]
      exact hc
end Go.Proofs.Ytlkcfhpklibnaaa
