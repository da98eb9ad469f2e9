/- Layer 20: the document's events (no claim; lemmas). -/
import Derived.Test.YtlkcfhpklibnaaaK20r
set_option linter.unusedSimpArgs false
set_option linter.unusedVariables false
namespace Go.Proofs.Ytlkcfhpklibnaaa
open Go Go.Vm

theorem refSz (op : Int) (h64 : op ≤ 9223372036854775807) : evI pg .val n_undertowref05_Size [.int .i64 op] [] = some (.int .i64 (szO op : Nat), []) := by
  rcases op_cases (op := op) with h | ⟨k, rfl, h1, h2⟩
  · have e : szO op = 0 := by unfold noOp at h; unfold szO; rw [if_pos h]
    rw [e]; exact refSize_out h h64
  · have e : szO (k : Int) = sz k := by unfold szO; rw [if_neg (by omega)]; simp
    rw [e]; exact refSize_tab k h2
theorem memO_sz (op : Int) : memO op = decide (0 < szO op) := by
  rcases op_cases (op := op) with h | ⟨k, rfl, h1, h2⟩
  · have e : szO op = 0 := by unfold noOp at h; unfold szO; rw [if_pos h]
    have e2 : srtO op = 0 := by unfold noOp at h; unfold srtO; rw [if_pos h]
    rw [e]; unfold memO; rw [e2]; rfl
  · have e : srtO (k : Int) = srt k := by unfold srtO; rw [if_neg (by omega)]; simp
    have e1 : szO (k : Int) = sz k := by unfold szO; rw [if_neg (by omega)]; simp
    have e2 : memO (k : Int) = decide (0 < sz k) := by unfold memO; rw [e]; exact (sz_mem ⟨k, h2⟩).symm
    rw [e1, e2]
theorem IsEvent_ok (r : Rt) (hb : Bd r) : evI pg .val n_undertowref20_IsEvent [.agg (rC r)] [] = some (.bool (isE r), []) := by
  have hS := refSortO r.ins.op hb.op.2
  have hZ := refSz r.ins.op hb.op.2
  unfold isE
  rw [memO_sz, s_fn fn_undertowref20_IsEvent]
  by_cases c : r.cause = 0
  · by_cases z : 0 < szO r.ins.op
    · have z' : (0 : Int) < ((szO r.ins.op : Nat) : Int) := by omega
      by_cases s : srtO r.ins.op = 11
      · rw [s] at hS
        simp [ir_undertowref20_IsEvent, go_sem, hS, hZ, c, s, z, z', V.cells, V.exp, loadAt]
      · have s' : ¬ ((srtO r.ins.op : Nat) : Int) = 11 := by omega
        simp [ir_undertowref20_IsEvent, go_sem, hS, hZ, c, s, s', z, z', V.cells, V.exp, loadAt]
    · have z' : ¬ (0 : Int) < ((szO r.ins.op : Nat) : Int) := by omega
      simp [ir_undertowref20_IsEvent, go_sem, hS, hZ, c, z, z', V.cells, V.exp, loadAt]
  · simp [ir_undertowref20_IsEvent, go_sem, hS, hZ, c, V.cells, V.exp, loadAt]
theorem srt6 (s : Nat) : s = 4 ∨ s = 10 ∨ s = 12 ∨ s = 5 ∨ s = 11 ∨ ((s == 4) = false ∧ (s == 10) = false ∧ (s == 12) = false ∧ (s == 5) = false ∧ (s == 11) = false ∧ ¬ (s : Int) = 4 ∧ ¬ (s : Int) = 10 ∧ ¬ (s : Int) = 12 ∧ ¬ (s : Int) = 5 ∧ ¬ (s : Int) = 11) := by
  have h : s = 4 ∨ s = 10 ∨ s = 12 ∨ s = 5 ∨ s = 11 ∨ (s ≠ 4 ∧ s ≠ 10 ∧ s ≠ 12 ∧ s ≠ 5 ∧ s ≠ 11) := by omega
  rcases h with h | h | h | h | h | ⟨h1, h2, h3, h4, h5⟩
  · exact .inl h
  · exact .inr (.inl h)
  · exact .inr (.inr (.inl h))
  · exact .inr (.inr (.inr (.inl h)))
  · exact .inr (.inr (.inr (.inr (.inl h))))
  · exact .inr (.inr (.inr (.inr (.inr ⟨beq_false_of_ne h1, beq_false_of_ne h2, beq_false_of_ne h3, beq_false_of_ne h4, beq_false_of_ne h5, by omega, by omega, by omega, by omega, by omega⟩))))
theorem evB_fill2 (h i : Nat) (r : Rt) : fill [.int .i64 0, .int .i64 0, .int .u64 0, .int .i64 0, .int .i64 0, .int .i64 0, .int .i64 0, .int .i64 0, .bool false, .bool false, .int .i64 0, .int .i64 0, .int .i64 0, .int .u64 0, .int .u64 0, .int .u64 0, .int .u64 0, .bool false, .int .i64 0, .flt 0, .int .i64 0, .int .i64 0, .int .i64 0, .int .i64 0, .int .i64 0, .int .i64 0, .int .i64 0, .int .i64 0, .int .i64 0, .bool false, .bool false, .int .i64 0, .int .i64 0] [(0, 1, .int .i64 (h : Int)), (1, 1, .int .i64 (i : Int)), (2, 27, .agg (rC r)), (29, 1, .bool (lod r.ins.op)), (30, 1, .bool (sto r.ins.op)), (32, 1, .int .i64 (szO r.ins.op : Nat))] = some ((evB h i r).set 31 (.int .i64 0)) := rfl
theorem evB0_len (h i : Nat) (r : Rt) : ((evB h i r).set 31 (.int .i64 0)).length = 33 := rfl
theorem evB0_drop (h i : Nat) (r : Rt) : ((evB h i r).set 31 (.int .i64 0)).drop 33 = [] := rfl
theorem evB0_take (h i : Nat) (r : Rt) : ((evB h i r).set 31 (.int .i64 0)).take 33 = (evB h i r).set 31 (.int .i64 0) := rfl
theorem evB0_set (h i : Nat) (r : Rt) (n : Int) (hn : adE r = n) : ((evB h i r).set 31 (.int .i64 0)).take 31 ++ .int .i64 n :: ((evB h i r).set 31 (.int .i64 0)).drop 32 = evC ⟨h, i, r⟩ := by
  subst hn
  rfl
section
variable {lv : Nat → V} {R : Nat → List Rt} (w : Cd lv R) (hb : ∀ h, h < 3 → bdL (R h)) {x0 x4 : V} (i0 : isS x0 = true) (i4 : isS x4 = true)
include w hb
set_option maxHeartbeats 4000000 in
theorem rEv_l0 (h : Nat) (hh : h < 3) (j : Nat) (hj : j ≤ (R h).length) (acc : List Ev) (ha : acc.length ≤ 10000 + j) :
    evCI pg (.loop ir_undertowref20_Eventsl0) ⟨[.undef, .lp 0 0, .undef, .osl false 0 (evR acc), .int .i64 (h : Int), .int .i64 (j : Int), .undef, .undef, .undef, .undef, .undef, .undef, .undef], ⟨[[x0, lv 0, lv 1, lv 2, x4], [], []], [acc.length], []⟩⟩ =
      some (.exit 2, ⟨[.undef, .lp 0 0, .undef, .osl false 0 (evR (acc ++ evH h ((R h).drop j) j)), .int .i64 (h : Int), .int .i64 ((R h).length : Int), .undef, .undef, .undef, .undef, .bool false, .undef, .undef], ⟨[[x0, lv 0, lv 1, lv 2, x4], [], []], [(acc ++ evH h ((R h).drop j) j).length], []⟩⟩) := by
  obtain ⟨B, hB⟩ : ∃ B, B = C.loop ir_undertowref20_Eventsl0 := ⟨_, rfl⟩
  obtain ⟨hv, hl5, hok⟩ := w.li h hh
  have hvi := hv.is
  have hrl : (rows (lv h)).length = (R h).length := by rw [hv.rows, rwR_len]
  obtain ⟨cs, hcs⟩ : ∃ cs, cs = [x0, lv 0, lv 1, lv 2, x4] := ⟨_, rfl⟩
  have hg : cs[1 + h]? = some (lv h) := by rw [hcs]; rcases lt3 hh with rfl | rfl | rfl <;> rfl
  have hg' : ∀ q : 1 + h < cs.length, cs[1 + h] = lv h := fun q => by rw [List.getElem?_eq_getElem q] at hg; exact Option.some.inj hg
  have hc5 : cs.length = 5 := by rw [hcs]; rfl
  have hh3 : (h : Int) < 3 := by omega
  have hh2 : h ≤ 2 := by omega
  by_cases c : j < (R h).length
  · have e3 := succ_i64 c (by omega)
    have e1 := fun m => hv.ia (sz := 27) m .i64 (i := j) (by rw [rwR_len]; exact c) (rwR_sz _ _ (List.getElem_mem _))
    simp only [rwR_el] at e1
    have hbr := hb h hh (R h)[j] (List.getElem_mem _)
    have hE := IsEvent_ok (R h)[j] hbr
    have hS := refSortO ((R h)[j]).ins.op hbr.op.2
    have hZ := refSz ((R h)[j]).ins.op hbr.op.2
    have hd : (R h).drop j = (R h)[j] :: (R h).drop (j + 1) := List.drop_eq_getElem_cons c
    have ea := app_ev (m := ⟨[cs, rC (R h)[j], evC ⟨h, j, (R h)[j]⟩], [acc.length], []⟩) (l := acc) (e := ⟨h, j, (R h)[j]⟩) rfl (by omega)
    have ea2 := app_ev (m := ⟨[cs, [], evC ⟨h, j, (R h)[j]⟩], [acc.length], []⟩) (l := acc) (e := ⟨h, j, (R h)[j]⟩) rfl (by omega)
    simp only [List.set_cons_zero] at ea ea2
    rw [hd]
    unfold evH
    cases q : isE (R h)[j] with
    | false =>
      have ih := rEv_l0 h hh (j + 1) (by omega) acc (by omega)
      rw [q] at hE
      simp only [Bool.false_eq_true, if_false]
      rw [← ih, ← hB, ← hcs]
      conv => lhs; rw [s_loop_at hB]
      clear ih hd hcs
      generalize (R h)[j] = r at *
      simp [ir_undertowref20_Eventsl0, go_sem, hvi, hrl, c, e1, e3, hE, hg, hg', hc5, hh3, hh2, evStore, splice, V.cells, V.exp, -Int.natCast_add]
    | true =>
      have ih := rEv_l0 h hh (j + 1) (by omega) (acc ++ [⟨h, j, (R h)[j]⟩]) (by simp; omega)
      rw [q] at hE
      simp only [if_true]
      rw [List.append_cons, ← ih, ← hB, ← hcs]
      conv => lhs; rw [s_loop_at hB]
      have hf := evB_fill2 h j (R h)[j]
      have hb1 := evB0_len h j (R h)[j]
      have hb2 := evB0_drop h j (R h)[j]
      have hb3 := evB0_take h j (R h)[j]
      have hb4 := evB0_set h j (R h)[j]
      have hfl := eq_true (evC_flat ⟨h, j, (R h)[j]⟩)
      have had : adE (R h)[j] = if ((R h)[j]).addr ≤ 1024 then ((R h)[j]).addr else -1 := rfl
      have hs12 := srtO_le ((R h)[j]).ins.op
      have hlo : lod ((R h)[j]).ins.op = (srtO ((R h)[j]).ins.op == 4 || srtO ((R h)[j]).ins.op == 10 || srtO ((R h)[j]).ins.op == 12) := rfl
      have hst : sto ((R h)[j]).ins.op = (srtO ((R h)[j]).ins.op == 5 || srtO ((R h)[j]).ins.op == 11 || srtO ((R h)[j]).ins.op == 12) := rfl
      have h0 := hbr.ad.1
      clear ih hd hcs hbr
      generalize (R h)[j] = r at *
      generalize (evB h j r).set 31 (.int .i64 0) = ev at *
      generalize srtO r.ins.op = s at *
      generalize szO r.ins.op = z at *
      by_cases c2 : 1024 < r.addr
      · rw [if_neg (by omega)] at had
        have hb4 := hb4 _ had
        rw [hlo, hst] at hf
        rcases srt6 s with rfl | rfl | rfl | rfl | rfl | ⟨s1, s2, s3, s4, s5, t1, t2, t3, t4, t5⟩
        all_goals first | simp [s1, s2, s3, s4, s5] at hf | simp at hf
        all_goals first
          | (simp [ir_undertowref20_Eventsl0, go_sem, hvi, hrl, c, e1, e3, hE, hS, hZ, hg, hg', hc5, hh3, hh2, hf, hb1, hb2, hb3, hb4, c2, ea, ea2, hfl, litParts, evStore, splice, V.cells, V.exp, -Int.natCast_add]; done)
          | (simp [ir_undertowref20_Eventsl0, s1, s2, s3, s4, s5, t1, t2, t3, t4, t5, go_sem, hvi, hrl, c, e1, e3, hE, hS, hZ, hg, hg', hc5, hh3, hh2, hf, hb1, hb2, hb3, hb4, c2, ea, ea2, hfl, litParts, evStore, splice, V.cells, V.exp, -Int.natCast_add]; done)
      · rw [if_pos (by omega)] at had
        have hb4 := hb4 _ had
        have ew : IntKind.i64.wrap r.addr = r.addr := i64_small (by omega)
        rw [hlo, hst] at hf
        rcases srt6 s with rfl | rfl | rfl | rfl | rfl | ⟨s1, s2, s3, s4, s5, t1, t2, t3, t4, t5⟩
        all_goals first | simp [s1, s2, s3, s4, s5] at hf | simp at hf
        all_goals first
          | (simp [ir_undertowref20_Eventsl0, go_sem, hvi, hrl, c, e1, e3, hE, hS, hZ, hg, hg', hc5, hh3, hh2, hf, hb1, hb2, hb3, hb4, c2, ew, ea, ea2, hfl, litParts, evStore, splice, V.cells, V.exp, -Int.natCast_add]; done)
          | (simp [ir_undertowref20_Eventsl0, s1, s2, s3, s4, s5, t1, t2, t3, t4, t5, go_sem, hvi, hrl, c, e1, e3, hE, hS, hZ, hg, hg', hc5, hh3, hh2, hf, hb1, hb2, hb3, hb4, c2, ew, ea, ea2, hfl, litParts, evStore, splice, V.cells, V.exp, -Int.natCast_add]; done)
  · obtain rfl : j = (R h).length := by omega
    rw [← hcs, ← hB, s_loop_at hB, List.drop_length]
    simp [ir_undertowref20_Eventsl0, go_sem, hvi, hrl, hg, hg', hc5, hh3, hh2, evH]
termination_by (R h).length - j
end
end Go.Proofs.Ytlkcfhpklibnaaa
