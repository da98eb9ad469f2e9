/- No buffer has nothing: the law SbufNone returns true whatever it is handed. No condition. -/
import Derived.Test.YtaedicechhbhdaaW2
import Derived.Test.YtaedicechhbhdaaRows
set_option linter.unusedSimpArgs false
set_option linter.unusedVariables false
namespace Go.Proofs.Ytaedicechhbhdaa
open Go Go.Vm

theorem alive13 : evI pg .val n_undertowlaw13_alive [] [] = some (.bool true, []) := closed irL_ok 300 (by kernel_rfl)
theorem SReady_nil : evI pg .val n_sbuf_Buffer_Ready [.nilp] [] = some (.nils, []) := closed irL_ok 50 (by kernel_rfl)
theorem SEntries_nil : evI pg .val n_sbuf_Buffer_Entries [.nilp] [] = some (.nils, []) := closed irL_ok 50 (by kernel_rfl)
theorem SEmpty_nil : evI pg .val n_sbuf_Buffer_Empty [.nilp] [] = some (.bool true, []) := closed irL_ok 50 (by kernel_rfl)
theorem SElder_nil : evI pg .val n_sbuf_Buffer_Elder [.nilp] [] = some (.bool false, []) := closed irL_ok 50 (by kernel_rfl)
theorem SContains_nil : evI pg .val n_slices_Contains_int_int [.nils, .int .i64 0] [] = some (.bool false, []) := closed irL_ok 50 (by kernel_rfl)
theorem SDrain_nil (H : List Vm.Obj) : evI pg .heap n_sbuf_Buffer_Drain [.nilp, .int .i64 0] H = some (.nils, H) := by
  rw [s_fn fn_sbuf_Buffer_Drain]
  simp [ir_sbuf_Buffer_Drain, go_sem, SReady_nil, SContains_nil]
theorem SBarrier_nil (H : List Vm.Obj) : evI pg .heap n_sbuf_Buffer_Barrier [.nilp] H = some (.tup [], H ++ [.arr [[.nilp]]]) := by
  rw [s_fn fn_sbuf_Buffer_Barrier]
  simp [ir_sbuf_Buffer_Barrier, go_sem]
theorem SFind_nil (a : Int) : evI pg .val n_sbuf_Buffer_Find [.nilp, .int .i64 a] [] = some (.tup [.int .u8 0, .int .i64 0, .bool false], []) := by
  rw [s_fn fn_sbuf_Buffer_Find]
  simp [ir_sbuf_Buffer_Find, go_sem]
theorem SFits_nil (w : Wr) : evI pg .val n_sbuf_Buffer_Fits [.nilp, .agg (wrV w)] [] = some (.bool false, []) := by
  rw [s_fn fn_sbuf_Buffer_Fits]
  simp [ir_sbuf_Buffer_Fits, go_sem, wrV]
theorem SPut_nil (w : Wr) (H : List Vm.Obj) : evI pg .heap n_sbuf_Buffer_Put [.nilp, .agg (wrV w)] H = some (.bool false, H) := by
  have h := SFits_nil w
  unfold wrV at h
  rw [s_fn fn_sbuf_Buffer_Put]
  simp [ir_sbuf_Buffer_Put, go_sem, wrV, h]
theorem SOver_nil (a n : Int) : evI pg .val n_sbuf_Buffer_Overlaps [.nilp, .int .i64 a, .int .i64 n] [] = some (.bool false, []) := by
  have hl : evCI pg (.loop ir_sbuf_Buffer_Overlapsl1) ⟨[.undef, .int .i64 a, .int .i64 n, .undef, .undef, .undef, .nils, .int .i64 0, .int .i64 0, .undef, .undef, .undef, .undef, .undef, .undef], ⟨[[]], [], []⟩⟩ =
      some (.exit 0, ⟨[.undef, .int .i64 a, .int .i64 n, .undef, .undef, .undef, .nils, .int .i64 0, .int .i64 0, .bool false, .undef, .undef, .undef, .undef, .undef], ⟨[[]], [], []⟩⟩) := by
    rw [s_loop]
    simp [ir_sbuf_Buffer_Overlapsl1, go_sem]
  rw [s_fn fn_sbuf_Buffer_Overlaps]
  simp [ir_sbuf_Buffer_Overlaps, go_sem, SEntries_nil, hl]
theorem SbufNone_true (w : Wr) : evI pg .val n_undertowlaw13_SbufNone [.agg (wrV w)] [] = some (.bool true, []) := by
  have h1 := SFind_nil w.addr
  have h2 := fun H => SPut_nil w H
  have h3 := SFits_nil w
  have h4 := SOver_nil w.addr w.size
  obtain ⟨w1, w2, w3, w4⟩ := w
  simp only [wrV] at h1 h2 h3 h4
  rw [s_fn fn_undertowlaw13_SbufNone]
  unfold wrV
  simp [ir_undertowlaw13_SbufNone, go_sem, alive13, h1, h2, h3, h4, SReady_nil, SEntries_nil, SEmpty_nil, SElder_nil, SDrain_nil, SBarrier_nil]
theorem pv_wr31 {n : Nat} {vs : List V} (h : PV Try.prog (n + 2) 31 vs) : ∃ w : Wr, vs = wrV w ∧ w.data < 18446744073709551616 := by
  obtain ⟨_, _, rfl, h1, _, _, rfl, h2, _, _, rfl, h3, _, _, rfl, h4, rfl⟩ := pv_struct Try.underlying31 h
  obtain ⟨i, rfl, hi⟩ := pv_i64 Try.underlying3 h1
  obtain ⟨a, rfl, ha⟩ := pv_i64 Try.underlying3 h2
  obtain ⟨s, rfl, hs⟩ := pv_i64 Try.underlying3 h3
  obtain ⟨d, rfl, hd⟩ := pv_u64 Try.underlying29 h4
  exact ⟨⟨i, a, s, d⟩, rfl, hd⟩
theorem law_none : ∀ vs, PArgs Try.prog 8 Try.f7.params.toList vs → ∃ k, evF pg k .val 7 vs [] = some (.bool true, []) := by
  intro vs h
  obtain ⟨v1, _, rfl, h1, rfl⟩ := h
  simp only [ArgPV, Try.underlying31] at h1
  obtain ⟨vs, rfl, h1⟩ := h1
  obtain ⟨w, rfl, hw⟩ := pv_wr31 h1
  exact (evI_iff (hx _ _)).1 (SbufNone_true w)
end Go.Proofs.Ytaedicechhbhdaa
