/- Whether all ranges overlap, and are aligned, is the document's: the law WordRanges returns true whatever it is handed. No condition. -/
import Derived.Test.YtblaimfdeiccpaaK01c
import Derived.Test.YtblaimfdeiccpaaRows
set_option linter.unusedSimpArgs false
set_option linter.unusedVariables false
namespace Go.Proofs.Ytblaimfdeiccpaa.lawRanges
open Go Go.Vm
theorem alive_ok : evI pg .val n_undertowlaw01_alive [] [] = some (.bool true, []) := closed irL_ok 100 (by kernel_rfl)
theorem true_ (a n b m : Int) (hl : -9223372036854775808 ≤ a) (hu : a ≤ 9223372036854775807) : evI pg .val n_undertowlaw01_WordRanges [.int .i64 a, .int .i64 n, .int .i64 b, .int .i64 m] [] = some (.bool true, []) := by
  rw [s_fn fn_undertowlaw01_WordRanges]
  simp [ir_undertowlaw01_WordRanges, go_sem, alive_ok, Overlap_ok a n b m, refOverlap_ok a n b m, Aligned_ok a n, refAligned_ok a n hl hu]
theorem law : ∀ vs, PArgs Try.prog 6 Try.f5.params.toList vs → ∃ k, evF pg k .val 5 vs [] = some (.bool true, []) := by
  intro vs h
  obtain ⟨v1, _, rfl, h1, v2, _, rfl, h2, v3, _, rfl, h3, v4, _, rfl, h4, rfl⟩ := h
  obtain ⟨a, rfl, ha⟩ := arg_i64 Try.underlying3 h1
  obtain ⟨n, rfl, _⟩ := arg_i64 Try.underlying3 h2
  obtain ⟨b, rfl, _⟩ := arg_i64 Try.underlying3 h3
  obtain ⟨m, rfl, _⟩ := arg_i64 Try.underlying3 h4
  exact (evI_iff (hx _ _)).1 (true_ a n b m ha.1 ha.2)
end Go.Proofs.Ytblaimfdeiccpaa.lawRanges
