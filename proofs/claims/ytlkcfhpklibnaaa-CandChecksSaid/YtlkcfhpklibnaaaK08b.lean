/- Layer 8: what is no operation has no sort and no size (no claim; lemmas). -/
import Derived.Test.YtlkcfhpklibnaaaK08a
import Derived.Test.YtlkcfhpklibnaaaW2
set_option linter.unusedSimpArgs false
set_option linter.unusedVariables false
namespace Go.Proofs.Ytlkcfhpklibnaaa
open Go Go.Vm

def sortSt (o : Int) (i : Int) (c a b : V) : St := ⟨[.int .i64 o, .int .i64 0, .isl false manyV, .int .i64 i, .bool false, a, b], ⟨[], [], []⟩⟩
theorem sort12 (o : Int) (a b : V) : ∃ o' a' b', evCI pg (.loop ir_undertowref05_Sortl0) ⟨[.int .i64 o, .int .i64 0, .isl false manyV, .int .i64 12, .bool false, a, b], ⟨[], [], []⟩⟩ = some (.exit 0, ⟨[.int .i64 o', .int .i64 0, .isl false manyV, .int .i64 12, .bool false, a', b'], ⟨[], [], []⟩⟩) := by
  refine ⟨o, .bool false, b, ?_⟩
  rw [s_loop]
  simp [ir_undertowref05_Sortl0, go_sem, manyV]
theorem sort11 (o : Int) (ho : 18 < o) (ho2 : o ≤ 9223372036854775807) (a b : V) : ∃ o' a' b', evCI pg (.loop ir_undertowref05_Sortl0) ⟨[.int .i64 o, .int .i64 0, .isl false manyV, .int .i64 11, .bool false, a, b], ⟨[], [], []⟩⟩ = some (.exit 0, ⟨[.int .i64 o', .int .i64 0, .isl false manyV, .int .i64 12, .bool false, a', b'], ⟨[], [], []⟩⟩) := by
  obtain ⟨o', a', b', ih⟩ := sort12 (o - 18) (.bool true) (.bool false)
  refine ⟨o', a', b', ?_⟩
  have c : ¬ o ≤ 18 := by omega
  have e : IntKind.i64.wrap (o - 18) = o - 18 := wrap_i64 (by omega) (by omega)
  have e2 : IntKind.i64.wrap (11 + 1) = 12 := by rfl
  obtain ⟨B, hB⟩ : ∃ B, B = C.loop ir_undertowref05_Sortl0 := ⟨_, rfl⟩
  rw [← hB] at ih
  rw [← hB, s_loop_at hB]
  unfold manyV at *
  simp [go_sem] at ih
  simp [ir_undertowref05_Sortl0, go_sem, c, e, e2, ih]
theorem sort10 (o : Int) (ho : 20 < o) (ho2 : o ≤ 9223372036854775807) (a b : V) : ∃ o' a' b', evCI pg (.loop ir_undertowref05_Sortl0) ⟨[.int .i64 o, .int .i64 0, .isl false manyV, .int .i64 10, .bool false, a, b], ⟨[], [], []⟩⟩ = some (.exit 0, ⟨[.int .i64 o', .int .i64 0, .isl false manyV, .int .i64 12, .bool false, a', b'], ⟨[], [], []⟩⟩) := by
  obtain ⟨o', a', b', ih⟩ := sort11 (o - 2) (by omega) (by omega) (.bool true) (.bool false)
  refine ⟨o', a', b', ?_⟩
  have c : ¬ o ≤ 2 := by omega
  have e : IntKind.i64.wrap (o - 2) = o - 2 := wrap_i64 (by omega) (by omega)
  have e2 : IntKind.i64.wrap (10 + 1) = 11 := by rfl
  obtain ⟨B, hB⟩ : ∃ B, B = C.loop ir_undertowref05_Sortl0 := ⟨_, rfl⟩
  rw [← hB] at ih
  rw [← hB, s_loop_at hB]
  unfold manyV at *
  simp [go_sem] at ih
  simp [ir_undertowref05_Sortl0, go_sem, c, e, e2, ih]
theorem sort9 (o : Int) (ho : 22 < o) (ho2 : o ≤ 9223372036854775807) (a b : V) : ∃ o' a' b', evCI pg (.loop ir_undertowref05_Sortl0) ⟨[.int .i64 o, .int .i64 0, .isl false manyV, .int .i64 9, .bool false, a, b], ⟨[], [], []⟩⟩ = some (.exit 0, ⟨[.int .i64 o', .int .i64 0, .isl false manyV, .int .i64 12, .bool false, a', b'], ⟨[], [], []⟩⟩) := by
  obtain ⟨o', a', b', ih⟩ := sort10 (o - 2) (by omega) (by omega) (.bool true) (.bool false)
  refine ⟨o', a', b', ?_⟩
  have c : ¬ o ≤ 2 := by omega
  have e : IntKind.i64.wrap (o - 2) = o - 2 := wrap_i64 (by omega) (by omega)
  have e2 : IntKind.i64.wrap (9 + 1) = 10 := by rfl
  obtain ⟨B, hB⟩ : ∃ B, B = C.loop ir_undertowref05_Sortl0 := ⟨_, rfl⟩
  rw [← hB] at ih
  rw [← hB, s_loop_at hB]
  unfold manyV at *
  simp [go_sem] at ih
  simp [ir_undertowref05_Sortl0, go_sem, c, e, e2, ih]
theorem sort8 (o : Int) (ho : 24 < o) (ho2 : o ≤ 9223372036854775807) (a b : V) : ∃ o' a' b', evCI pg (.loop ir_undertowref05_Sortl0) ⟨[.int .i64 o, .int .i64 0, .isl false manyV, .int .i64 8, .bool false, a, b], ⟨[], [], []⟩⟩ = some (.exit 0, ⟨[.int .i64 o', .int .i64 0, .isl false manyV, .int .i64 12, .bool false, a', b'], ⟨[], [], []⟩⟩) := by
  obtain ⟨o', a', b', ih⟩ := sort9 (o - 2) (by omega) (by omega) (.bool true) (.bool false)
  refine ⟨o', a', b', ?_⟩
  have c : ¬ o ≤ 2 := by omega
  have e : IntKind.i64.wrap (o - 2) = o - 2 := wrap_i64 (by omega) (by omega)
  have e2 : IntKind.i64.wrap (8 + 1) = 9 := by rfl
  obtain ⟨B, hB⟩ : ∃ B, B = C.loop ir_undertowref05_Sortl0 := ⟨_, rfl⟩
  rw [← hB] at ih
  rw [← hB, s_loop_at hB]
  unfold manyV at *
  simp [go_sem] at ih
  simp [ir_undertowref05_Sortl0, go_sem, c, e, e2, ih]
theorem sort7 (o : Int) (ho : 26 < o) (ho2 : o ≤ 9223372036854775807) (a b : V) : ∃ o' a' b', evCI pg (.loop ir_undertowref05_Sortl0) ⟨[.int .i64 o, .int .i64 0, .isl false manyV, .int .i64 7, .bool false, a, b], ⟨[], [], []⟩⟩ = some (.exit 0, ⟨[.int .i64 o', .int .i64 0, .isl false manyV, .int .i64 12, .bool false, a', b'], ⟨[], [], []⟩⟩) := by
  obtain ⟨o', a', b', ih⟩ := sort8 (o - 2) (by omega) (by omega) (.bool true) (.bool false)
  refine ⟨o', a', b', ?_⟩
  have c : ¬ o ≤ 2 := by omega
  have e : IntKind.i64.wrap (o - 2) = o - 2 := wrap_i64 (by omega) (by omega)
  have e2 : IntKind.i64.wrap (7 + 1) = 8 := by rfl
  obtain ⟨B, hB⟩ : ∃ B, B = C.loop ir_undertowref05_Sortl0 := ⟨_, rfl⟩
  rw [← hB] at ih
  rw [← hB, s_loop_at hB]
  unfold manyV at *
  simp [go_sem] at ih
  simp [ir_undertowref05_Sortl0, go_sem, c, e, e2, ih]
theorem sort6 (o : Int) (ho : 41 < o) (ho2 : o ≤ 9223372036854775807) (a b : V) : ∃ o' a' b', evCI pg (.loop ir_undertowref05_Sortl0) ⟨[.int .i64 o, .int .i64 0, .isl false manyV, .int .i64 6, .bool false, a, b], ⟨[], [], []⟩⟩ = some (.exit 0, ⟨[.int .i64 o', .int .i64 0, .isl false manyV, .int .i64 12, .bool false, a', b'], ⟨[], [], []⟩⟩) := by
  obtain ⟨o', a', b', ih⟩ := sort7 (o - 15) (by omega) (by omega) (.bool true) (.bool false)
  refine ⟨o', a', b', ?_⟩
  have c : ¬ o ≤ 15 := by omega
  have e : IntKind.i64.wrap (o - 15) = o - 15 := wrap_i64 (by omega) (by omega)
  have e2 : IntKind.i64.wrap (6 + 1) = 7 := by rfl
  obtain ⟨B, hB⟩ : ∃ B, B = C.loop ir_undertowref05_Sortl0 := ⟨_, rfl⟩
  rw [← hB] at ih
  rw [← hB, s_loop_at hB]
  unfold manyV at *
  simp [go_sem] at ih
  simp [ir_undertowref05_Sortl0, go_sem, c, e, e2, ih]
theorem sort5 (o : Int) (ho : 54 < o) (ho2 : o ≤ 9223372036854775807) (a b : V) : ∃ o' a' b', evCI pg (.loop ir_undertowref05_Sortl0) ⟨[.int .i64 o, .int .i64 0, .isl false manyV, .int .i64 5, .bool false, a, b], ⟨[], [], []⟩⟩ = some (.exit 0, ⟨[.int .i64 o', .int .i64 0, .isl false manyV, .int .i64 12, .bool false, a', b'], ⟨[], [], []⟩⟩) := by
  obtain ⟨o', a', b', ih⟩ := sort6 (o - 13) (by omega) (by omega) (.bool true) (.bool false)
  refine ⟨o', a', b', ?_⟩
  have c : ¬ o ≤ 13 := by omega
  have e : IntKind.i64.wrap (o - 13) = o - 13 := wrap_i64 (by omega) (by omega)
  have e2 : IntKind.i64.wrap (5 + 1) = 6 := by rfl
  obtain ⟨B, hB⟩ : ∃ B, B = C.loop ir_undertowref05_Sortl0 := ⟨_, rfl⟩
  rw [← hB] at ih
  rw [← hB, s_loop_at hB]
  unfold manyV at *
  simp [go_sem] at ih
  simp [ir_undertowref05_Sortl0, go_sem, c, e, e2, ih]
theorem sort4 (o : Int) (ho : 58 < o) (ho2 : o ≤ 9223372036854775807) (a b : V) : ∃ o' a' b', evCI pg (.loop ir_undertowref05_Sortl0) ⟨[.int .i64 o, .int .i64 0, .isl false manyV, .int .i64 4, .bool false, a, b], ⟨[], [], []⟩⟩ = some (.exit 0, ⟨[.int .i64 o', .int .i64 0, .isl false manyV, .int .i64 12, .bool false, a', b'], ⟨[], [], []⟩⟩) := by
  obtain ⟨o', a', b', ih⟩ := sort5 (o - 4) (by omega) (by omega) (.bool true) (.bool false)
  refine ⟨o', a', b', ?_⟩
  have c : ¬ o ≤ 4 := by omega
  have e : IntKind.i64.wrap (o - 4) = o - 4 := wrap_i64 (by omega) (by omega)
  have e2 : IntKind.i64.wrap (4 + 1) = 5 := by rfl
  obtain ⟨B, hB⟩ : ∃ B, B = C.loop ir_undertowref05_Sortl0 := ⟨_, rfl⟩
  rw [← hB] at ih
  rw [← hB, s_loop_at hB]
  unfold manyV at *
  simp [go_sem] at ih
  simp [ir_undertowref05_Sortl0, go_sem, c, e, e2, ih]
theorem sort3 (o : Int) (ho : 65 < o) (ho2 : o ≤ 9223372036854775807) (a b : V) : ∃ o' a' b', evCI pg (.loop ir_undertowref05_Sortl0) ⟨[.int .i64 o, .int .i64 0, .isl false manyV, .int .i64 3, .bool false, a, b], ⟨[], [], []⟩⟩ = some (.exit 0, ⟨[.int .i64 o', .int .i64 0, .isl false manyV, .int .i64 12, .bool false, a', b'], ⟨[], [], []⟩⟩) := by
  obtain ⟨o', a', b', ih⟩ := sort4 (o - 7) (by omega) (by omega) (.bool true) (.bool false)
  refine ⟨o', a', b', ?_⟩
  have c : ¬ o ≤ 7 := by omega
  have e : IntKind.i64.wrap (o - 7) = o - 7 := wrap_i64 (by omega) (by omega)
  have e2 : IntKind.i64.wrap (3 + 1) = 4 := by rfl
  obtain ⟨B, hB⟩ : ∃ B, B = C.loop ir_undertowref05_Sortl0 := ⟨_, rfl⟩
  rw [← hB] at ih
  rw [← hB, s_loop_at hB]
  unfold manyV at *
  simp [go_sem] at ih
  simp [ir_undertowref05_Sortl0, go_sem, c, e, e2, ih]
theorem sort2 (o : Int) (ho : 71 < o) (ho2 : o ≤ 9223372036854775807) (a b : V) : ∃ o' a' b', evCI pg (.loop ir_undertowref05_Sortl0) ⟨[.int .i64 o, .int .i64 0, .isl false manyV, .int .i64 2, .bool false, a, b], ⟨[], [], []⟩⟩ = some (.exit 0, ⟨[.int .i64 o', .int .i64 0, .isl false manyV, .int .i64 12, .bool false, a', b'], ⟨[], [], []⟩⟩) := by
  obtain ⟨o', a', b', ih⟩ := sort3 (o - 6) (by omega) (by omega) (.bool true) (.bool false)
  refine ⟨o', a', b', ?_⟩
  have c : ¬ o ≤ 6 := by omega
  have e : IntKind.i64.wrap (o - 6) = o - 6 := wrap_i64 (by omega) (by omega)
  have e2 : IntKind.i64.wrap (2 + 1) = 3 := by rfl
  obtain ⟨B, hB⟩ : ∃ B, B = C.loop ir_undertowref05_Sortl0 := ⟨_, rfl⟩
  rw [← hB] at ih
  rw [← hB, s_loop_at hB]
  unfold manyV at *
  simp [go_sem] at ih
  simp [ir_undertowref05_Sortl0, go_sem, c, e, e2, ih]
theorem sort1 (o : Int) (ho : 73 < o) (ho2 : o ≤ 9223372036854775807) (a b : V) : ∃ o' a' b', evCI pg (.loop ir_undertowref05_Sortl0) ⟨[.int .i64 o, .int .i64 0, .isl false manyV, .int .i64 1, .bool false, a, b], ⟨[], [], []⟩⟩ = some (.exit 0, ⟨[.int .i64 o', .int .i64 0, .isl false manyV, .int .i64 12, .bool false, a', b'], ⟨[], [], []⟩⟩) := by
  obtain ⟨o', a', b', ih⟩ := sort2 (o - 2) (by omega) (by omega) (.bool true) (.bool false)
  refine ⟨o', a', b', ?_⟩
  have c : ¬ o ≤ 2 := by omega
  have e : IntKind.i64.wrap (o - 2) = o - 2 := wrap_i64 (by omega) (by omega)
  have e2 : IntKind.i64.wrap (1 + 1) = 2 := by rfl
  obtain ⟨B, hB⟩ : ∃ B, B = C.loop ir_undertowref05_Sortl0 := ⟨_, rfl⟩
  rw [← hB] at ih
  rw [← hB, s_loop_at hB]
  unfold manyV at *
  simp [go_sem] at ih
  simp [ir_undertowref05_Sortl0, go_sem, c, e, e2, ih]
theorem sort0 (o : Int) (ho : 75 < o) (ho2 : o ≤ 9223372036854775807) (a b : V) : ∃ o' a' b', evCI pg (.loop ir_undertowref05_Sortl0) ⟨[.int .i64 o, .int .i64 0, .isl false manyV, .int .i64 0, .bool false, a, b], ⟨[], [], []⟩⟩ = some (.exit 0, ⟨[.int .i64 o', .int .i64 0, .isl false manyV, .int .i64 12, .bool false, a', b'], ⟨[], [], []⟩⟩) := by
  obtain ⟨o', a', b', ih⟩ := sort1 (o - 2) (by omega) (by omega) (.bool true) (.bool false)
  refine ⟨o', a', b', ?_⟩
  have c : ¬ o ≤ 2 := by omega
  have e : IntKind.i64.wrap (o - 2) = o - 2 := wrap_i64 (by omega) (by omega)
  have e2 : IntKind.i64.wrap (0 + 1) = 1 := by rfl
  obtain ⟨B, hB⟩ : ∃ B, B = C.loop ir_undertowref05_Sortl0 := ⟨_, rfl⟩
  rw [← hB] at ih
  rw [← hB, s_loop_at hB]
  unfold manyV at *
  simp [go_sem] at ih
  simp [ir_undertowref05_Sortl0, go_sem, c, e, e2, ih]
theorem refSort_out {op : Int} (h : noOp op) (h64 : op ≤ 9223372036854775807) : evI pg .val n_undertowref05_Sort [.int .i64 op] [] = some (.int .i64 0, []) := by
  unfold noOp at h
  rw [s_fn fn_undertowref05_Sort]
  by_cases c : op < 1
  · simp [ir_undertowref05_Sort, go_sem, litParts, immAll, V.imm, c]
  · obtain ⟨o', a', b', hl⟩ := sort0 op (by omega) h64 .undef .undef
    unfold manyV at hl
    simp [go_sem] at hl
    simp [ir_undertowref05_Sort, go_sem, litParts, immAll, V.imm, c, hl]
theorem refSize_out {op : Int} (h : noOp op) (h64 : op ≤ 9223372036854775807) : evI pg .val n_undertowref05_Size [.int .i64 op] [] = some (.int .i64 0, []) := by
  have h1 := refSort_out h h64
  have h2 := refName_out h
  rw [s_fn fn_undertowref05_Size]
  simp [ir_undertowref05_Size, go_sem, h1, h2]

/-! ### signed numbers -/
def lts (a b : Nat) : Bool := decide (IntKind.i64.wrap (a : Int) < IntKind.i64.wrap (b : Int))
theorem sgn_lo {a : Nat} (h : a < 9223372036854775808) : IntKind.i64.wrap (a : Int) = (a : Int) := wrap_i64 (by omega) (by omega)
theorem sgn_hi {a : Nat} (h : 9223372036854775808 ≤ a) (h' : a < 18446744073709551616) : IntKind.i64.wrap (a : Int) = (a : Int) - 18446744073709551616 := by
  rw [wrap_i64_eq]; split <;> omega
def b01 (b : Bool) : Nat := if b then 1 else 0
/-! ### to the left -/
end Go.Proofs.Ytlkcfhpklibnaaa
