/- Layer 20: the document's check, whole (no claim; lemmas). -/
import Derived.Test.YtlkcfhpklibnaaaK20z
set_option linter.unusedSimpArgs false
set_option linter.unusedVariables false
set_option maxRecDepth 20000
namespace Go.Proofs.Ytlkcfhpklibnaaa
open Go Go.Vm

/-- Why a candidate is none, as the document tells it. -/
def rchk (R : Nat → List Rt) (img : List Nat) (n : Nat) (co : List (List Int)) : Nat :=
  if imgB img n then 1 else if (List.range' 0 (allR R).length).any (idsI (allR R)) then 3 else if (evs R).any (plcP img.length) then 4 else if (allR R).any tagsD then 5 else if (evs R).any (tagF (evs R)) then 5 else if (evs R).any (bytD img (evs R)) then 6 else if ordG (evs R) 0 co then 7 else if (List.range' 0 3).any (fun k => prG (R k) 0 (R k)) then 8 else 0
theorem tagF_fid {E : List Ev} (h : E.any (tagF E) = false) : ∀ e ∈ E, lod e.r.ins.op = true → ∀ j, j < szO e.r.ins.op → e.r.tg j ≠ -1 → ∃ f, fid E (e.r.tg j) = some f := by
  intro e he hl j hj ht
  rw [List.any_eq_false] at h
  have h1 := h e he
  unfold tagF at h1
  rw [hl, Bool.true_and] at h1
  have h2 : (List.range' 0 (szO e.r.ins.op)).any (tgF E e) = false := by simpa using h1
  rw [List.any_eq_false] at h2
  have h3 := h2 j (by rw [List.mem_range']; exact ⟨j, hj, by omega⟩)
  unfold tgF at h3
  rw [decide_eq_true ht, Bool.true_and] at h3
  cases q : fid E (e.r.tg j) with
  | some f => exact ⟨f, rfl⟩
  | none =>
    unfold fdB at h3
    rw [q] at h3
    simp at h3
section
variable {x0 : V} {lv : Nat → V} {x4 : V} {R : Nat → List Rt} {img : List Nat} {cv : List V} {co : List (List Int)} (w : Lk x0 lv x4 (ils (evR (evs R))) R img cv co) (h60 : ∀ h, h < 3 → (R h).length ≤ 60)
include w h60
set_option maxHeartbeats 4000000 in
theorem rCheck_ok : evI pg .val n_undertowref20_Check [.agg [x0, lv 0, lv 1, lv 2, x4]] [] = some (.int .i64 ((rchk R img cv.length co : Nat) : Int), []) := by
  have hb := evs_bd (R := R) fun h hh => (w.li h hh).2.1
  have i0 := w.im.is
  have i4 := w.co4.is
  have iu := w.ev.is
  have j0 := (w.li 0 (by omega)).1.is
  have j1 := (w.li 1 (by omega)).1.is
  have j2 := (w.li 2 (by omega)).1.is
  have hr0 : (rows x0).length = img.length := by rw [w.im.rows, byV_len]
  have hr4 : (rows x4).length = cv.length := by rw [w.co4.rows, slR_len]
  have hc : Cd lv R := ⟨fun h hh => ⟨(w.li h hh).1, (w.li h hh).2.2, (w.li h hh).2.1.ok⟩⟩
  have hEv := rEvents_ok hc (fun h hh => (w.li h hh).2.1) (x0 := x0) (x4 := x4) i0 i4
  have hA6 : (allR R).length ≤ 180 := by
    have h0 := h60 0 (by omega)
    have h1 := h60 1 (by omega)
    have h2 := h60 2 (by omega)
    unfold allR
    simp only [List.length_append]
    omega
  have hbA : bdL (allR R) := by
    intro r hr
    unfold allR at hr
    simp only [List.mem_append] at hr
    rcases hr with h | h | h
    · exact (w.li 0 (by omega)).2.1 r h
    · exact (w.li 1 (by omega)).2.1 r h
    · exact (w.li 2 (by omega)).2.1 r h
  have hE : (evs R).length ≤ 100000 := by
    have e : (evs R).length = ((evs R).map Ev.r).length := by simp
    rw [e, evs_r]
    have := List.length_filter_le isE (allR R)
    omega
  have f0 := rChk_l0 w h60 0 (by omega) [] (by simp)
  have e0 : (List.range' 0 (3 - 0)).flatMap (fun k => R k) = allR R := by simp [allR, List.range'_succ]
  have er : rwR [] = [] := rfl
  rw [e0, List.nil_append, List.length_nil, er, Int.natCast_zero] at f0
  have f2 := rChk_l2 (allR R) (by omega) 0 (Nat.zero_le _) [x0, lv 0, lv 1, lv 2, x4]
  rw [Nat.sub_zero, Int.natCast_zero] at f2
  have f3 := rChk_l3 w hE (allR R) 0 (Nat.zero_le _)
  rw [List.drop_zero, Int.natCast_zero] at f3
  have f5 := rChk_l5 w (allR R) (by omega) hbA 0 (Nat.zero_le _) [x0, lv 0, lv 1, lv 2, x4]
  rw [List.drop_zero, Int.natCast_zero] at f5
  have f7 := rChk_l7 w hE 0 (Nat.zero_le _) [x0, lv 0, lv 1, lv 2, x4]
  rw [List.drop_zero, Int.natCast_zero] at f7
  have f9 := fun h1 h2 => rChk_l9 w hE h1 h2 0 (Nat.zero_le _)
  rw [List.drop_zero, Int.natCast_zero] at f9
  have f13 := rChk_l13 w hE 0 (Nat.zero_le _)
  rw [List.drop_zero, Int.natCast_zero] at f13
  have f16 := rChk_l16 w _ rfl 0 (by omega)
  rw [Nat.sub_zero, Int.natCast_zero] at f16
  have hpl := fun h1 => plc_in (R := R) (img := img) hb h1
  have hil : (rwR (allR R)).length = (allR R).length := rwR_len _
  have c5 : ¬ (512 : Int) < ((allR R).length : Int) := by omega
  have c5' : ((allR R).length : Int) ≤ 512 := by omega
  have c6 : ¬ 512 < (allR R).length := by omega
  have c6' : (allR R).length ≤ 512 := by omega
  unfold rchk
  rw [s_fn fn_undertowref20_Check]
  cases q1 : imgB img cv.length with
  | true =>
    rw [if_pos rfl]
    unfold imgB at q1
    by_cases c : 1024 < img.length
    · have c' : (1024 : Int) < (img.length : Int) := by omega
      simp [ir_undertowref20_Check, go_sem, i0, i4, j0, j1, j2, hr0, hr4, c, c', V.cells, V.exp]
    · have c' : ¬ (1024 : Int) < (img.length : Int) := by omega
      have c2 : (img.length : Int) ≤ 1024 := by omega
      have d : ¬ cv.length = img.length := by
        intro e
        rw [decide_eq_false c, decide_eq_false (by simpa using e)] at q1
        cases q1
      have d' : ¬ (cv.length : Int) = (img.length : Int) := by omega
      simp [ir_undertowref20_Check, go_sem, i0, i4, j0, j1, j2, hr0, hr4, c, c', c2, d, d', V.cells, V.exp]
  | false =>
    unfold imgB at q1
    rw [Bool.or_eq_false_iff] at q1
    have c : ¬ 1024 < img.length := by simpa using q1.1
    have d : cv.length = img.length := by simpa using q1.2
    have c' : ¬ (1024 : Int) < (img.length : Int) := by omega
    have c2 : (img.length : Int) ≤ 1024 := by omega
    clear q1
    rw [if_neg (by simp)]
    cases q3 : (List.range' 0 (allR R).length).any (idsI (allR R)) with
    | true =>
      rw [q3, if_pos rfl] at f2
      rw [if_pos rfl]
      clear f3 f5 f7 f9 f13 f16 hpl q3 hbA e0
      generalize rwR (allR R) = es at *
      generalize (allR R).length = N at *
      generalize ils (evR (evs R)) = u at *
      simp [ir_undertowref20_Check, go_sem, i0, i4, iu, j0, j1, j2, hr0, hr4, c, c', c2, d, hil, c5, c5', c6, c6', f0, f2, V.cells, V.exp]
    | false =>
      rw [q3, if_neg (by simp)] at f2
      rw [if_neg (by simp)]
      clear q3
      cases q4 : (evs R).any (plcP img.length) with
      | true =>
        rw [q4, if_pos rfl] at f3
        rw [if_pos rfl]
        clear f5 f7 f9 f13 f16 hpl q4 hbA e0
        generalize rwR (allR R) = es at *
        generalize (allR R).length = N at *
        generalize ils (evR (evs R)) = u at *
        simp [ir_undertowref20_Check, go_sem, i0, i4, iu, j0, j1, j2, hr0, hr4, c, c', c2, d, hil, c5, c5', c6, c6', f0, f2, f3, hEv, V.cells, V.exp]
      | false =>
        rw [q4, if_neg (by simp)] at f3
        rw [if_neg (by simp)]
        have hp := hpl (by omega) q4
        clear q4 hpl
        cases q5 : (allR R).any tagsD with
        | true =>
          rw [q5, if_pos rfl] at f5
          rw [if_pos rfl]
          clear f7 f9 f13 f16 q5 hbA e0
          generalize rwR (allR R) = es at *
          generalize (allR R).length = N at *
          generalize ils (evR (evs R)) = u at *
          simp [ir_undertowref20_Check, go_sem, i0, i4, iu, j0, j1, j2, hr0, hr4, c, c', c2, d, hil, c5, c5', c6, c6', f0, f2, f3, f5, hEv, V.cells, V.exp]
        | false =>
          rw [q5, if_neg (by simp)] at f5
          rw [if_neg (by simp)]
          clear q5
          cases q7 : (evs R).any (tagF (evs R)) with
          | true =>
            rw [q7, if_pos rfl] at f7
            rw [if_pos rfl]
            clear f9 f13 f16 q7 hbA e0
            generalize rwR (allR R) = es at *
            generalize (allR R).length = N at *
            generalize ils (evR (evs R)) = u at *
            simp [ir_undertowref20_Check, go_sem, i0, i4, iu, j0, j1, j2, hr0, hr4, c, c', c2, d, hil, c5, c5', c6, c6', f0, f2, f3, f5, f7, hEv, V.cells, V.exp]
          | false =>
            rw [q7, if_neg (by simp)] at f7
            rw [if_neg (by simp)]
            have f9 := f9 hp (tagF_fid q7)
            clear q7
            cases q9 : (evs R).any (bytD img (evs R)) with
            | true =>
              rw [q9, if_pos rfl] at f9
              rw [if_pos rfl]
              clear f13 f16 q9 hbA e0
              generalize rwR (allR R) = es at *
              generalize (allR R).length = N at *
              generalize ils (evR (evs R)) = u at *
              simp [ir_undertowref20_Check, go_sem, i0, i4, iu, j0, j1, j2, hr0, hr4, c, c', c2, d, hil, c5, c5', c6, c6', f0, f2, f3, f5, f7, f9, hEv, V.cells, V.exp]
            | false =>
              rw [q9, if_neg (by simp)] at f9
              rw [if_neg (by simp)]
              clear q9
              cases q13 : ordG (evs R) 0 co with
              | true =>
                rw [q13, if_pos rfl] at f13
                rw [if_pos rfl]
                clear f16 q13 hbA e0
                generalize rwR (allR R) = es at *
                generalize (allR R).length = N at *
                generalize ils (evR (evs R)) = u at *
                simp [ir_undertowref20_Check, go_sem, i0, i4, iu, j0, j1, j2, hr0, hr4, c, c', c2, d, hil, c5, c5', c6, c6', f0, f2, f3, f5, f7, f9, f13, hEv, V.cells, V.exp]
              | false =>
                rw [q13, if_neg (by simp)] at f13
                rw [if_neg (by simp)]
                clear q13
                cases q16 : (List.range' 0 3).any (fun k => prG (R k) 0 (R k)) with
                | true =>
                  rw [q16, if_pos rfl] at f16
                  rw [if_pos rfl]
                  clear q16 hbA e0
                  generalize rwR (allR R) = es at *
                  generalize (allR R).length = N at *
                  generalize ils (evR (evs R)) = u at *
                  simp [ir_undertowref20_Check, go_sem, i0, i4, iu, j0, j1, j2, hr0, hr4, c, c', c2, d, hil, c5, c5', c6, c6', f0, f2, f3, f5, f7, f9, f13, f16, hEv, V.cells, V.exp]
                | false =>
                  rw [q16, if_neg (by simp)] at f16
                  rw [if_neg (by simp)]
                  clear q16 hbA e0
                  generalize rwR (allR R) = es at *
                  generalize (allR R).length = N at *
                  generalize ils (evR (evs R)) = u at *
                  simp [ir_undertowref20_Check, go_sem, i0, i4, iu, j0, j1, j2, hr0, hr4, c, c', c2, d, hil, c5, c5', c6, c6', f0, f2, f3, f5, f7, f9, f13, f16, hEv, V.cells, V.exp]
end
end Go.Proofs.Ytlkcfhpklibnaaa
