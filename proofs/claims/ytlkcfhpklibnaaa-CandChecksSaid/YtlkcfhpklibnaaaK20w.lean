/- Layer 20: the document's check of places and tags (no claim; lemmas). -/
import Derived.Test.YtlkcfhpklibnaaaK20v
set_option linter.unusedSimpArgs false
set_option linter.unusedVariables false
set_option maxRecDepth 20000
namespace Go.Proofs.Ytlkcfhpklibnaaa
open Go Go.Vm

section
variable {x0 : V} {lv : Nat → V} {x4 u : V} {R : Nat → List Rt} {img : List Nat} {cv : List V} {co : List (List Int)} (w : Lk x0 lv x4 u R img cv co) (hE : (evs R).length ≤ 100000)
include w hE
theorem rChk_l3 (A : List Rt) (i : Nat) (hi : i ≤ (evs R).length) :
    evCI pg (.loop ir_undertowref20_Checkl3) ⟨[.undef, .lp 0 0, .undef, .osl false 0 (rwR A), .undef, .undef, .undef, u, .int .i64 (i : Int), .undef, .undef, .undef, .undef, .undef, .undef, .undef, .undef, .undef, .undef, .undef, .undef, .undef, .undef, .undef, .undef, .undef, .undef, .undef, .undef, .undef, .undef, .undef, .undef, .undef, .undef, .undef, .undef, .undef, .undef, .undef, .undef, .undef, .undef, .undef, .undef, .undef, .undef, .undef, .undef, .undef, .undef, .undef, .undef, .undef, .undef, .undef, .undef, .undef, .undef, .undef, .undef, .undef, .undef, .undef, .undef, .undef, .undef, .undef], ⟨[[x0, lv 0, lv 1, lv 2, x4], []], [A.length, 0], []⟩⟩ =
      some (if ((evs R).drop i).any (plcP img.length) = true then (.ret, ⟨[.undef, .undef, .int .i64 4, .undef, .undef, .undef, .undef, .undef, .undef, .undef, .undef, .undef, .undef, .undef, .undef, .undef, .undef, .undef, .undef, .undef, .undef, .undef, .undef, .undef, .undef, .undef, .undef, .undef, .undef, .undef, .undef, .undef, .undef, .undef, .undef, .undef, .undef, .undef, .undef, .undef, .undef, .undef, .undef, .undef, .undef, .undef, .undef, .undef, .undef, .undef, .undef, .undef, .undef, .undef, .undef, .undef, .undef, .undef, .undef, .undef, .undef, .undef, .undef, .undef, .undef, .undef, .undef, .undef], ⟨[[], []], [0, 0], []⟩⟩)
        else (.exit 6, ⟨[.undef, .lp 0 0, .undef, .osl false 0 (rwR A), .undef, .undef, .undef, u, .int .i64 ((evs R).length : Int), .undef, .undef, .undef, .undef, .undef, .undef, .undef, .undef, .undef, .undef, .undef, .undef, .undef, .undef, .undef, .undef, .undef, .undef, .undef, .undef, .undef, .undef, .undef, .undef, .undef, .undef, .undef, .undef, .undef, .undef, .undef, .bool false, .undef, .undef, .undef, .undef, .undef, .undef, .undef, .undef, .undef, .undef, .undef, .undef, .undef, .undef, .undef, .undef, .undef, .undef, .undef, .undef, .undef, .undef, .undef, .undef, .undef, .undef, .undef], ⟨[[x0, lv 0, lv 1, lv 2, x4], []], [A.length, 0], []⟩⟩)) := by
  obtain ⟨B, hB⟩ : ∃ B, B = Vm.C.loop ir_undertowref20_Checkl3 := ⟨_, rfl⟩
  have hb := evs_bd (R := R) fun h hh => (w.li h hh).2.1
  have iu := w.ev.is
  have hur : (rows u).length = (evs R).length := by rw [w.ev.rows, evR_len]
  have huf := w.ev.fpR
  have i0 := w.im.is
  have hr0 : (rows x0).length = img.length := by rw [w.im.rows, byV_len]
  by_cases c : i < (evs R).length
  · have e3 := succ_i64 c (by omega)
    have e1 := fun m => w.ev.ia (sz := 33) m .i64 (i := i) (by rw [evR_len]; exact c) (evR_sz _ _ (List.getElem_mem _))
    simp only [evR_el] at e1
    have hbe := hb _ (List.getElem_mem c)
    have hW := rWhere_ok ((evs R)[i]).r.ins.op ((evs R)[i]).r.addr hbe.op.2 hbe.ad img.length w.ib.2
    have hd : (evs R).drop i = (evs R)[i] :: (evs R).drop (i + 1) := List.drop_eq_getElem_cons c
    have hdef : plcP img.length (evs R)[i] = decide (whr ((evs R)[i]).r.ins.op ((evs R)[i]).r.addr img.length ≠ 0) := rfl
    rw [hd, List.any_cons, hdef]
    have ih := rChk_l3 A (i + 1) (by omega)
    rw [← hB] at ih
    rw [← hB, s_loop_at hB]
    clear hd hdef
    generalize (evs R)[i] = e at *
    generalize whr e.r.ins.op e.r.addr img.length = wn at *
    generalize rwR A = es at *
    generalize A.length = An at *
    generalize (evs R).length = N at *
    by_cases q : wn = 0
    · rw [decide_eq_false (by simpa using q), Bool.false_or, ← ih]
      clear ih
      subst q
      simp [ir_undertowref20_Checkl3, go_sem, c, iu, hur, huf, i0, hr0, e1, e3, hW, -Int.natCast_add]
    · have q' : ¬ (wn : Int) = 0 := by omega
      rw [decide_eq_true (by simpa using q), Bool.true_or, if_pos rfl]
      clear ih
      simp [ir_undertowref20_Checkl3, go_sem, c, iu, hur, huf, i0, hr0, e1, hW, q, q', -Int.natCast_add]
  · obtain rfl : i = (evs R).length := by omega
    rw [← hB, s_loop_at hB, List.drop_length]
    generalize rwR A = es at *
    simp [ir_undertowref20_Checkl3, go_sem, iu, hur]
termination_by (evs R).length - i
/-- Is a tag told where none may be? -/
def tgK (r : Rt) (j : Nat) : Bool := !(isE r && (lod r.ins.op && decide (j < szO r.ins.op))) && decide (r.tg j ≠ -1)
omit hE in
set_option maxHeartbeats 4000000 in
theorem rChk_l4 (A : List Rt) (hA : A.length ≤ 1000) (hbA : bdL A) (i : Nat) (hi : i < A.length) (j : Nat) (hj : j ≤ 8) (cs : List V) :
    evCI pg (.loop ir_undertowref20_Checkl4) ⟨[.undef, .lp 0 0, .undef, .osl false 0 (rwR A), .undef, .undef, .undef, u, .undef, .int .i64 (i : Int), .int .i64 (srtO (A[i]).ins.op : Nat), .int .i64 (j : Int), .undef, .undef, .undef, .undef, .undef, .undef, .undef, .undef, .undef, .undef, .undef, .undef, .undef, .undef, .undef, .undef, .undef, .undef, .undef, .undef, .undef, .undef, .undef, .undef, .undef, .undef, .undef, .undef, .undef, .undef, .undef, .undef, .undef, .undef, .undef, .undef, .undef, .undef, .undef, .undef, .undef, .undef, .undef, .undef, .undef, .undef, .undef, .undef, .undef, .undef, .undef, .undef, .undef, .undef, .undef, .undef], ⟨[cs, []], [A.length, 0], []⟩⟩ =
      some (if (List.range' j (8 - j)).any (tgK A[i]) = true then (.ret, ⟨[.undef, .undef, .int .i64 5, .undef, .undef, .undef, .undef, .undef, .undef, .undef, .undef, .undef, .undef, .undef, .undef, .undef, .undef, .undef, .undef, .undef, .undef, .undef, .undef, .undef, .undef, .undef, .undef, .undef, .undef, .undef, .undef, .undef, .undef, .undef, .undef, .undef, .undef, .undef, .undef, .undef, .undef, .undef, .undef, .undef, .undef, .undef, .undef, .undef, .undef, .undef, .undef, .undef, .undef, .undef, .undef, .undef, .undef, .undef, .undef, .undef, .undef, .undef, .undef, .undef, .undef, .undef, .undef, .undef], ⟨[[], []], [0, 0], []⟩⟩)
        else (.exit 10, ⟨[.undef, .lp 0 0, .undef, .osl false 0 (rwR A), .undef, .undef, .undef, u, .undef, .int .i64 (i : Int), .int .i64 (srtO (A[i]).ins.op : Nat), .int .i64 8, .undef, .undef, .undef, .undef, .undef, .undef, .undef, .undef, .undef, .undef, .undef, .undef, .undef, .undef, .undef, .undef, .undef, .undef, .undef, .undef, .undef, .undef, .undef, .undef, .undef, .undef, .undef, .undef, .undef, .undef, .undef, .bool false, .undef, .undef, .undef, .undef, .undef, .undef, .undef, .undef, .undef, .undef, .undef, .undef, .undef, .undef, .undef, .undef, .undef, .undef, .undef, .undef, .undef, .undef, .undef, .undef], ⟨[cs, []], [A.length, 0], []⟩⟩)) := by
  obtain ⟨B, hB⟩ : ∃ B, B = Vm.C.loop ir_undertowref20_Checkl4 := ⟨_, rfl⟩
  have iu := w.ev.is
  by_cases c : j < 8
  · have e3 := succ_i64 c (by omega)
    have hd : List.range' j (8 - j) = j :: List.range' (j + 1) (8 - (j + 1)) := by
      have : 8 - j = (8 - (j + 1)) + 1 := by omega
      rw [this, List.range'_succ]
    have e2 := osl_ia hi
    have hbr := hbA _ (List.getElem_mem hi)
    have hIE := IsEvent_ok A[i] hbr
    have hZ := refSz (A[i]).ins.op hbr.op.2
    have ht := rC_tgq A[i] c
    have ht' := get_all ht
    have c8 : (j : Int) < 8 := by omega
    have c7 : j ≤ 7 := by omega
    have h27 : 18 + j < 27 := by omega
    have hlo : lod (A[i]).ins.op = (srtO (A[i]).ins.op == 4 || srtO (A[i]).ins.op == 10 || srtO (A[i]).ins.op == 12) := rfl
    have hdef : tgK A[i] j = (!(isE A[i] && (lod (A[i]).ins.op && decide (j < szO (A[i]).ins.op))) && decide ((A[i]).tg j ≠ -1)) := rfl
    rw [hd, List.any_cons]
    have ih := rChk_l4 A hA hbA i hi (j + 1) (by omega) cs
    rw [← hB] at ih
    rw [← hB, s_loop_at hB]
    clear hd hbr hbA
    generalize A[i] = r at *
    generalize rwR A = es at *
    generalize A.length = N at *
    have fin : ∀ ld : Bool, (isE r && (lod r.ins.op && decide (j < szO r.ins.op))) = ld → tgK r j = (!ld && decide (r.tg j ≠ -1)) := fun ld h => by rw [hdef, h]
    cases qE : isE r with
    | false =>
      rw [qE] at hIE
      have f1 := fin false (by rw [qE]; rfl)
      rw [f1]
      by_cases q : r.tg j = -1
      · rw [decide_eq_false (by simpa using q), Bool.and_false, Bool.false_or, ← ih]
        clear ih
        generalize srtO r.ins.op = s at *
        simp [ir_undertowref20_Checkl4, go_sem, c, c8, c7, h27, iu, e2, e3, hIE, ht, ht', q, -Int.natCast_add]
      · rw [decide_eq_true (by simpa using q), Bool.not_false, Bool.and_true, Bool.true_or, if_pos rfl]
        clear ih
        generalize srtO r.ins.op = s at *
        simp [ir_undertowref20_Checkl4, go_sem, c, c8, c7, h27, iu, e2, hIE, ht, ht', q, -Int.natCast_add]
    | true =>
      rw [qE] at hIE
      by_cases qz : j < szO r.ins.op
      · have qz' : (j : Int) < ((szO r.ins.op : Nat) : Int) := by omega
        rcases srt6 (srtO r.ins.op) with hs | hs | hs | hs | hs | ⟨s1, s2, s3, s4, s5, t1, t2, t3, t4, t5⟩
        all_goals first | rw [hs] at hlo ih ⊢ | rw [s1, s2, s3] at hlo
        · have f1 := fin true (by rw [qE, hlo, decide_eq_true qz]; rfl)
          rw [f1, Bool.not_true, Bool.false_and, Bool.false_or, ← ih]
          clear ih
          simp [ir_undertowref20_Checkl4, go_sem, c, c8, c7, h27, iu, e2, e3, hIE, hZ, qz, qz', -Int.natCast_add]
        · have f1 := fin true (by rw [qE, hlo, decide_eq_true qz]; rfl)
          rw [f1, Bool.not_true, Bool.false_and, Bool.false_or, ← ih]
          clear ih
          simp [ir_undertowref20_Checkl4, go_sem, c, c8, c7, h27, iu, e2, e3, hIE, hZ, qz, qz', -Int.natCast_add]
        · have f1 := fin true (by rw [qE, hlo, decide_eq_true qz]; rfl)
          rw [f1, Bool.not_true, Bool.false_and, Bool.false_or, ← ih]
          clear ih
          simp [ir_undertowref20_Checkl4, go_sem, c, c8, c7, h27, iu, e2, e3, hIE, hZ, qz, qz', -Int.natCast_add]
        · have f1 := fin false (by rw [qE, hlo]; rfl)
          rw [f1]
          by_cases q : r.tg j = -1
          · rw [decide_eq_false (by simpa using q), Bool.and_false, Bool.false_or, ← ih]
            clear ih
            simp [ir_undertowref20_Checkl4, go_sem, c, c8, c7, h27, iu, e2, e3, hIE, ht, ht', q, -Int.natCast_add]
          · rw [decide_eq_true (by simpa using q), Bool.not_false, Bool.and_true, Bool.true_or, if_pos rfl]
            clear ih
            simp [ir_undertowref20_Checkl4, go_sem, c, c8, c7, h27, iu, e2, hIE, ht, ht', q, -Int.natCast_add]
        · have f1 := fin false (by rw [qE, hlo]; rfl)
          rw [f1]
          by_cases q : r.tg j = -1
          · rw [decide_eq_false (by simpa using q), Bool.and_false, Bool.false_or, ← ih]
            clear ih
            simp [ir_undertowref20_Checkl4, go_sem, c, c8, c7, h27, iu, e2, e3, hIE, ht, ht', q, -Int.natCast_add]
          · rw [decide_eq_true (by simpa using q), Bool.not_false, Bool.and_true, Bool.true_or, if_pos rfl]
            clear ih
            simp [ir_undertowref20_Checkl4, go_sem, c, c8, c7, h27, iu, e2, hIE, ht, ht', q, -Int.natCast_add]
        · have f1 := fin false (by rw [qE, hlo]; rfl)
          rw [f1]
          have t1n : ¬ srtO r.ins.op = 4 := by omega
          have t2n : ¬ srtO r.ins.op = 10 := by omega
          have t3n : ¬ srtO r.ins.op = 12 := by omega
          by_cases q : r.tg j = -1
          · rw [decide_eq_false (by simpa using q), Bool.and_false, Bool.false_or, ← ih]
            clear ih
            simp [ir_undertowref20_Checkl4, go_sem, c, c8, c7, h27, iu, e2, e3, hIE, t1, t2, t3, t1n, t2n, t3n, ht, ht', q, -Int.natCast_add]
          · rw [decide_eq_true (by simpa using q), Bool.not_false, Bool.and_true, Bool.true_or, if_pos rfl]
            clear ih
            simp [ir_undertowref20_Checkl4, go_sem, c, c8, c7, h27, iu, e2, hIE, t1, t2, t3, t1n, t2n, t3n, ht, ht', q, -Int.natCast_add]
      · have qz' : ¬ (j : Int) < ((szO r.ins.op : Nat) : Int) := by omega
        have f1 := fin false (by rw [decide_eq_false qz, Bool.and_false, Bool.and_false])
        rw [f1]
        rcases srt6 (srtO r.ins.op) with hs | hs | hs | hs | hs | ⟨s1, s2, s3, s4, s5, t1, t2, t3, t4, t5⟩
        all_goals
          by_cases q : r.tg j = -1
          · rw [decide_eq_false (by simpa using q), Bool.and_false, Bool.false_or, ← ih]
            clear ih
            first
              | (rw [hs]; simp [ir_undertowref20_Checkl4, go_sem, c, c8, c7, h27, iu, e2, e3, hIE, hZ, qz, qz', ht, ht', q, -Int.natCast_add]; done)
              | (have t1n : ¬ srtO r.ins.op = 4 := by omega
                 have t2n : ¬ srtO r.ins.op = 10 := by omega
                 have t3n : ¬ srtO r.ins.op = 12 := by omega
                 simp [ir_undertowref20_Checkl4, go_sem, c, c8, c7, h27, iu, e2, e3, hIE, t1, t2, t3, t1n, t2n, t3n, hZ, qz, qz', ht, ht', q, -Int.natCast_add]; done)
          · rw [decide_eq_true (by simpa using q), Bool.not_false, Bool.and_true, Bool.true_or, if_pos rfl]
            clear ih
            first
              | (rw [hs]; simp [ir_undertowref20_Checkl4, go_sem, c, c8, c7, h27, iu, e2, hIE, hZ, qz, qz', ht, ht', q, -Int.natCast_add]; done)
              | (have t1n : ¬ srtO r.ins.op = 4 := by omega
                 have t2n : ¬ srtO r.ins.op = 10 := by omega
                 have t3n : ¬ srtO r.ins.op = 12 := by omega
                 simp [ir_undertowref20_Checkl4, go_sem, c, c8, c7, h27, iu, e2, hIE, t1, t2, t3, t1n, t2n, t3n, hZ, qz, qz', ht, ht', q, -Int.natCast_add]; done)
  · obtain rfl : j = 8 := by omega
    rw [← hB, s_loop_at hB]
    generalize rwR A = es at *
    simp [ir_undertowref20_Checkl4, go_sem, iu]
termination_by 8 - j
def tagsD (r : Rt) : Bool := (List.range' 0 8).any (tgK r)
omit hE in
theorem rChk_l5 (A : List Rt) (hA : A.length ≤ 1000) (hbA : bdL A) (i : Nat) (hi : i ≤ A.length) (cs : List V) :
    evCI pg (.loop ir_undertowref20_Checkl5) ⟨[.undef, .lp 0 0, .undef, .osl false 0 (rwR A), .undef, .undef, .undef, u, .undef, .int .i64 (i : Int), .undef, .undef, .undef, .undef, .undef, .undef, .undef, .undef, .undef, .undef, .undef, .undef, .undef, .undef, .undef, .undef, .undef, .undef, .undef, .undef, .undef, .undef, .undef, .undef, .undef, .undef, .undef, .undef, .undef, .undef, .undef, .undef, .undef, .undef, .undef, .undef, .undef, .undef, .undef, .undef, .undef, .undef, .undef, .undef, .undef, .undef, .undef, .undef, .undef, .undef, .undef, .undef, .undef, .undef, .undef, .undef, .undef, .undef], ⟨[cs, []], [A.length, 0], []⟩⟩ =
      some (if (A.drop i).any tagsD = true then (.ret, ⟨[.undef, .undef, .int .i64 5, .undef, .undef, .undef, .undef, .undef, .undef, .undef, .undef, .undef, .undef, .undef, .undef, .undef, .undef, .undef, .undef, .undef, .undef, .undef, .undef, .undef, .undef, .undef, .undef, .undef, .undef, .undef, .undef, .undef, .undef, .undef, .undef, .undef, .undef, .undef, .undef, .undef, .undef, .undef, .undef, .undef, .undef, .undef, .undef, .undef, .undef, .undef, .undef, .undef, .undef, .undef, .undef, .undef, .undef, .undef, .undef, .undef, .undef, .undef, .undef, .undef, .undef, .undef, .undef, .undef], ⟨[[], []], [0, 0], []⟩⟩)
        else (.exit 8, ⟨[.undef, .lp 0 0, .undef, .osl false 0 (rwR A), .undef, .undef, .undef, u, .undef, .int .i64 (A.length : Int), .undef, .undef, .undef, .undef, .undef, .undef, .undef, .undef, .undef, .undef, .undef, .undef, .undef, .undef, .undef, .undef, .undef, .undef, .undef, .undef, .undef, .undef, .undef, .undef, .undef, .undef, .undef, .undef, .undef, .undef, .undef, .undef, .bool false, .undef, .undef, .undef, .undef, .undef, .undef, .undef, .undef, .undef, .undef, .undef, .undef, .undef, .undef, .undef, .undef, .undef, .undef, .undef, .undef, .undef, .undef, .undef, .undef, .undef], ⟨[cs, []], [A.length, 0], []⟩⟩)) := by
  obtain ⟨B, hB⟩ : ∃ B, B = Vm.C.loop ir_undertowref20_Checkl5 := ⟨_, rfl⟩
  have iu := w.ev.is
  have hlr := rwR_len A
  by_cases c : i < A.length
  · have e3 := succ_i64 c (by omega)
    have e2 := osl_ia c
    have hbr := hbA _ (List.getElem_mem c)
    have hS := refSortO (A[i]).ins.op hbr.op.2
    have hl4 := rChk_l4 w A hA hbA i c 0 (by omega) cs
    have htd : (List.range' 0 (8 - 0)).any (tgK A[i]) = tagsD A[i] := rfl
    rw [htd, Int.natCast_zero] at hl4
    have hd : A.drop i = A[i] :: A.drop (i + 1) := List.drop_eq_getElem_cons c
    rw [hd, List.any_cons]
    have ih := rChk_l5 A hA hbA (i + 1) (by omega) cs
    rw [← hB] at ih
    rw [← hB, s_loop_at hB]
    clear hd hbr htd
    generalize A[i] = r at *
    generalize rwR A = es at *
    generalize A.length = N at *
    cases q : tagsD r with
    | true =>
      rw [q, if_pos rfl] at hl4
      rw [Bool.true_or, if_pos rfl]
      clear ih
      simp [ir_undertowref20_Checkl5, go_sem, c, iu, hlr, e2, hS, hl4, -Int.natCast_add]
    | false =>
      rw [q, if_neg (by simp)] at hl4
      rw [Bool.false_or, ← ih]
      clear ih
      simp [ir_undertowref20_Checkl5, go_sem, c, iu, hlr, e2, e3, hS, hl4, -Int.natCast_add]
  · obtain rfl : i = A.length := by omega
    rw [← hB, s_loop_at hB, List.drop_length]
    generalize rwR A = es at *
    simp [ir_undertowref20_Checkl5, go_sem, iu, hlr]
termination_by A.length - i
/-- Has the store of a number a byte? The first of the number. -/
def fdB (E : List Ev) (n at_ : Int) : Bool := match fid E n with
  | some j => match E[j]? with
    | some e => bh e at_
    | none => false
  | none => false
def tgF (E : List Ev) (e : Ev) (j : Nat) : Bool := decide (e.r.tg j ≠ -1) && !fdB E (e.r.tg j) (adE e.r + j)
omit hE in
theorem rChk_l6n (i : Nat) (hi : i < (evs R).length) (hl : lod ((evs R)[i]).r.ins.op = false) (cs : List V) :
    evCI pg (.loop ir_undertowref20_Checkl6) ⟨[.undef, .lp 0 0, .undef, .undef, .undef, .undef, .undef, u, .undef, .undef, .undef, .undef, .undef, .int .i64 (i : Int), .int .i64 0, .undef, .undef, .undef, .undef, .undef, .undef, .undef, .undef, .undef, .undef, .undef, .undef, .undef, .undef, .undef, .undef, .undef, .undef, .undef, .undef, .undef, .undef, .undef, .undef, .undef, .undef, .undef, .undef, .undef, .undef, .undef, .undef, .undef, .undef, .undef, .undef, .undef, .undef, .undef, .undef, .undef, .undef, .undef, .undef, .undef, .undef, .undef, .undef, .undef, .undef, .undef, .undef, .undef], ⟨[cs, []], [0, 0], []⟩⟩ = some (.exit 14, ⟨[.undef, .lp 0 0, .undef, .undef, .undef, .undef, .undef, u, .undef, .undef, .undef, .undef, .undef, .int .i64 (i : Int), .int .i64 0, .undef, .undef, .undef, .undef, .undef, .undef, .undef, .undef, .undef, .undef, .undef, .undef, .undef, .undef, .undef, .undef, .undef, .undef, .undef, .undef, .undef, .undef, .undef, .undef, .undef, .undef, .undef, .undef, .undef, .undef, .undef, .bool false, .undef, .undef, .undef, .undef, .undef, .undef, .undef, .undef, .undef, .undef, .undef, .undef, .undef, .undef, .undef, .undef, .undef, .undef, .undef, .undef, .undef], ⟨[cs, []], [0, 0], []⟩⟩) := by
  rw [s_loop]
  have iu := w.ev.is
  have huf := w.ev.fpR
  have e1 := fun m => w.ev.ia (sz := 33) m .i64 (i := i) (by rw [evR_len]; exact hi) (evR_sz _ _ (List.getElem_mem _))
  simp only [evR_el] at e1
  generalize (evs R)[i] = e at *
  by_cases z : 0 < szO e.r.ins.op
  · have z' : (0 : Int) < ((szO e.r.ins.op : Nat) : Int) := by omega
    simp [ir_undertowref20_Checkl6, go_sem, iu, huf, e1, z, z', hl]
  · have z' : ¬ (0 : Int) < ((szO e.r.ins.op : Nat) : Int) := by omega
    simp [ir_undertowref20_Checkl6, go_sem, iu, huf, e1, z, z', hl]
theorem rChk_l6 (i : Nat) (hi : i < (evs R).length) (hl : lod ((evs R)[i]).r.ins.op = true) (j : Nat) (hj : j ≤ szO ((evs R)[i]).r.ins.op) (cs : List V) :
    evCI pg (.loop ir_undertowref20_Checkl6) ⟨[.undef, .lp 0 0, .undef, .undef, .undef, .undef, .undef, u, .undef, .undef, .undef, .undef, .undef, .int .i64 (i : Int), .int .i64 (j : Int), .undef, .undef, .undef, .undef, .undef, .undef, .undef, .undef, .undef, .undef, .undef, .undef, .undef, .undef, .undef, .undef, .undef, .undef, .undef, .undef, .undef, .undef, .undef, .undef, .undef, .undef, .undef, .undef, .undef, .undef, .undef, .undef, .undef, .undef, .undef, .undef, .undef, .undef, .undef, .undef, .undef, .undef, .undef, .undef, .undef, .undef, .undef, .undef, .undef, .undef, .undef, .undef, .undef], ⟨[cs, []], [0, 0], []⟩⟩ =
      some (if (List.range' j (szO ((evs R)[i]).r.ins.op - j)).any (tgF (evs R) (evs R)[i]) = true then (.ret, ⟨[.undef, .undef, .int .i64 5, .undef, .undef, .undef, .undef, .undef, .undef, .undef, .undef, .undef, .undef, .undef, .undef, .undef, .undef, .undef, .undef, .undef, .undef, .undef, .undef, .undef, .undef, .undef, .undef, .undef, .undef, .undef, .undef, .undef, .undef, .undef, .undef, .undef, .undef, .undef, .undef, .undef, .undef, .undef, .undef, .undef, .undef, .undef, .undef, .undef, .undef, .undef, .undef, .undef, .undef, .undef, .undef, .undef, .undef, .undef, .undef, .undef, .undef, .undef, .undef, .undef, .undef, .undef, .undef, .undef], ⟨[[], []], [0, 0], []⟩⟩)
        else (.exit 14, ⟨[.undef, .lp 0 0, .undef, .undef, .undef, .undef, .undef, u, .undef, .undef, .undef, .undef, .undef, .int .i64 (i : Int), .int .i64 (szO ((evs R)[i]).r.ins.op : Nat), .undef, .undef, .undef, .undef, .undef, .undef, .undef, .undef, .undef, .undef, .undef, .undef, .undef, .undef, .undef, .undef, .undef, .undef, .undef, .undef, .undef, .undef, .undef, .undef, .undef, .undef, .undef, .undef, .undef, .undef, .undef, .bool false, .undef, .undef, .undef, .undef, .undef, .undef, .undef, .undef, .undef, .undef, .undef, .undef, .undef, .undef, .undef, .undef, .undef, .undef, .undef, .undef, .undef], ⟨[cs, []], [0, 0], []⟩⟩)) := by
  obtain ⟨B, hB⟩ : ∃ B, B = Vm.C.loop ir_undertowref20_Checkl6 := ⟨_, rfl⟩
  have hb := evs_bd (R := R) fun h hh => (w.li h hh).2.1
  have iu := w.ev.is
  have huf := w.ev.fpR
  have e1 := fun m => w.ev.ia (sz := 33) m .i64 (i := i) (by rw [evR_len]; exact hi) (evR_sz _ _ (List.getElem_mem _))
  simp only [evR_el] at e1
  have h8 := szO_le ((evs R)[i]).r.ins.op
  by_cases c : j < szO ((evs R)[i]).r.ins.op
  · have e3 := succ_i64 c (by omega)
    have hd : List.range' j (szO ((evs R)[i]).r.ins.op - j) = j :: List.range' (j + 1) (szO ((evs R)[i]).r.ins.op - (j + 1)) := by
      have : szO ((evs R)[i]).r.ins.op - j = (szO ((evs R)[i]).r.ins.op - (j + 1)) + 1 := by omega
      rw [this, List.range'_succ]
    have c8 : (j : Int) < ((szO ((evs R)[i]).r.ins.op : Nat) : Int) := by omega
    have k8 : (j : Int) < 8 := by omega
    have k7 : j ≤ 7 := by omega
    have hlt : j < 8 := by omega
    have k28 : 20 + j < 33 := by omega
    have ht := evC_tgq (evs R)[i] hlt
    have ht' := get_all ht
    have hbe := hb _ (List.getElem_mem hi)
    have had := adE_le hbe.ad.1
    have ew : IntKind.i64.wrap (adE ((evs R)[i]).r + (j : Int)) = adE ((evs R)[i]).r + j := wrap_i64 (by omega) (by omega)
    have hF := rFind_ok w.ev hE (((evs R)[i]).r.tg j)
    have hdef : tgF (evs R) (evs R)[i] j = (decide (((evs R)[i]).r.tg j ≠ -1) && !fdB (evs R) (((evs R)[i]).r.tg j) (adE ((evs R)[i]).r + j)) := rfl
    have ih := rChk_l6 i hi hl (j + 1) (by omega) cs
    rw [hd, List.any_cons, hdef]
    rw [← hB] at ih
    rw [← hB, s_loop_at hB]
    clear hd hdef
    have hbw : ∀ a (ha : a < (evs R).length), (∀ m, iaSV 33 m u (.int .i64 (a : Int)) = some (.ip (tg u) (evC (evs R)[a]) 0)) ∧ evI pg .val n_undertowref20_Has [.agg (evC (evs R)[a]), .int .i64 (adE ((evs R)[i]).r + j)] [] = some (.bool (hasB (evs R)[a] (adE ((evs R)[i]).r + j)), []) := fun a ha => by
      refine ⟨fun m => ?_, rHas_ok _ (hb _ (List.getElem_mem ha)) _ (by omega)⟩
      have q := w.ev.ia (sz := 33) m .i64 (i := a) (by rw [evR_len]; exact ha) (evR_sz _ _ (List.getElem_mem _))
      rwa [evR_el] at q
    have fb : ∀ n a, fdB (evs R) n a = match fid (evs R) n with
      | some j => match (evs R)[j]? with
        | some e => bh e a
        | none => false
      | none => false := fun n a => rfl
    generalize (evs R)[i] = e at *
    by_cases q : e.r.tg j = -1
    · rw [decide_eq_false (by simpa using q), Bool.false_and, Bool.false_or, ← ih]
      clear ih
      simp [ir_undertowref20_Checkl6, go_sem, c, c8, k8, k7, k28, iu, huf, e1, e3, hlt, ht, ht', ew, hl, q, -Int.natCast_add]
    · rw [decide_eq_true (by simpa using q), Bool.true_and, fb]
      have fn0 : fdn none = -1 := rfl
      have fns : ∀ j, fdn (some j) = (j : Int) := fun j => rfl
      cases hf : fid (evs R) (e.r.tg j) with
      | none =>
        rw [hf, fn0] at hF
        simp only [Bool.not_false, Bool.true_or, if_true]
        clear ih
        simp [ir_undertowref20_Checkl6, go_sem, c, c8, k8, k7, k28, iu, huf, e1, e3, hlt, ht, ht', ew, hl, q, hF, -Int.natCast_add]
      | some a =>
        obtain ⟨haE, _⟩ := fid_some hf
        rw [hf, fns] at hF
        obtain ⟨v1, v2⟩ := hbw a haE
        have hjn : ¬ (a : Int) < 0 := by omega
        have hfl := eq_true (evC_flat (evs R)[a])
        simp only [List.getElem?_eq_getElem haE]
        have hbd : bh (evs R)[a] (adE e.r + j) = (sto ((evs R)[a]).r.ins.op && hasB (evs R)[a] (adE e.r + j)) := rfl
        rw [hbd]
        clear hbw fb hbd
        generalize (evs R)[a] = f at *
        cases hs : sto f.r.ins.op with
        | false =>
          simp only [Bool.false_and, Bool.not_false, Bool.true_or, if_true]
          clear ih
          simp [ir_undertowref20_Checkl6, go_sem, c, c8, k8, k7, k28, iu, huf, e1, e3, hlt, ht, ht', ew, hl, q, hF, v1, hjn, hs, -Int.natCast_add]
        | true =>
          cases hh : hasB f (adE e.r + j) with
          | false =>
            rw [hh] at v2
            simp only [Bool.and_false, Bool.not_false, Bool.true_or, if_true]
            clear ih
            simp [ir_undertowref20_Checkl6, go_sem, c, c8, k8, k7, k28, iu, huf, e1, e3, hlt, ht, ht', ew, hl, q, hF, v1, v2, hjn, hs, hfl, -Int.natCast_add]
          | true =>
            rw [hh] at v2
            simp only [Bool.and_self, Bool.not_true, Bool.false_or]
            rw [← ih]
            clear ih
            simp [ir_undertowref20_Checkl6, go_sem, c, c8, k8, k7, k28, iu, huf, e1, e3, hlt, ht, ht', ew, hl, q, hF, v1, v2, hjn, hs, hfl, -Int.natCast_add]
  · obtain rfl : j = szO ((evs R)[i]).r.ins.op := by omega
    rw [← hB, s_loop_at hB, Nat.sub_self]
    generalize (evs R)[i] = e at *
    simp [ir_undertowref20_Checkl6, go_sem, iu, huf, e1]
termination_by szO ((evs R)[i]).r.ins.op - j
def tagF (E : List Ev) (e : Ev) : Bool := lod e.r.ins.op && (List.range' 0 (szO e.r.ins.op)).any (tgF E e)
theorem rChk_l7 (i : Nat) (hi : i ≤ (evs R).length) (cs : List V) :
    evCI pg (.loop ir_undertowref20_Checkl7) ⟨[.undef, .lp 0 0, .undef, .undef, .undef, .undef, .undef, u, .undef, .undef, .undef, .undef, .undef, .int .i64 (i : Int), .undef, .undef, .undef, .undef, .undef, .undef, .undef, .undef, .undef, .undef, .undef, .undef, .undef, .undef, .undef, .undef, .undef, .undef, .undef, .undef, .undef, .undef, .undef, .undef, .undef, .undef, .undef, .undef, .undef, .undef, .undef, .undef, .undef, .undef, .undef, .undef, .undef, .undef, .undef, .undef, .undef, .undef, .undef, .undef, .undef, .undef, .undef, .undef, .undef, .undef, .undef, .undef, .undef, .undef], ⟨[cs, []], [0, 0], []⟩⟩ =
      some (if ((evs R).drop i).any (tagF (evs R)) = true then (.ret, ⟨[.undef, .undef, .int .i64 5, .undef, .undef, .undef, .undef, .undef, .undef, .undef, .undef, .undef, .undef, .undef, .undef, .undef, .undef, .undef, .undef, .undef, .undef, .undef, .undef, .undef, .undef, .undef, .undef, .undef, .undef, .undef, .undef, .undef, .undef, .undef, .undef, .undef, .undef, .undef, .undef, .undef, .undef, .undef, .undef, .undef, .undef, .undef, .undef, .undef, .undef, .undef, .undef, .undef, .undef, .undef, .undef, .undef, .undef, .undef, .undef, .undef, .undef, .undef, .undef, .undef, .undef, .undef, .undef, .undef], ⟨[[], []], [0, 0], []⟩⟩)
        else (.exit 12, ⟨[.undef, .lp 0 0, .undef, .undef, .undef, .undef, .undef, u, .undef, .undef, .undef, .undef, .undef, .int .i64 ((evs R).length : Int), .undef, .undef, .undef, .undef, .undef, .undef, .undef, .undef, .undef, .undef, .undef, .undef, .undef, .undef, .undef, .undef, .undef, .undef, .undef, .undef, .undef, .undef, .undef, .undef, .undef, .undef, .undef, .undef, .undef, .undef, .undef, .bool false, .undef, .undef, .undef, .undef, .undef, .undef, .undef, .undef, .undef, .undef, .undef, .undef, .undef, .undef, .undef, .undef, .undef, .undef, .undef, .undef, .undef, .undef], ⟨[cs, []], [0, 0], []⟩⟩)) := by
  obtain ⟨B, hB⟩ : ∃ B, B = Vm.C.loop ir_undertowref20_Checkl7 := ⟨_, rfl⟩
  have iu := w.ev.is
  have hur : (rows u).length = (evs R).length := by rw [w.ev.rows, evR_len]
  by_cases c : i < (evs R).length
  · have e3 := succ_i64 c (by omega)
    have hd : (evs R).drop i = (evs R)[i] :: (evs R).drop (i + 1) := List.drop_eq_getElem_cons c
    have hdef : tagF (evs R) (evs R)[i] = (lod ((evs R)[i]).r.ins.op && (List.range' 0 (szO ((evs R)[i]).r.ins.op)).any (tgF (evs R) (evs R)[i])) := rfl
    have ih := rChk_l7 (i + 1) (by omega) cs
    rw [hd, List.any_cons, hdef]
    cases q1 : lod ((evs R)[i]).r.ins.op with
    | false =>
      have hl6 := rChk_l6n w i c q1 cs
      rw [Bool.false_and, Bool.false_or, ← ih, ← hB]
      conv => lhs; rw [s_loop_at hB]
      clear ih hd hdef q1
      generalize (evs R)[i] = e at *
      generalize (evs R).length = N at *
      simp [ir_undertowref20_Checkl7, go_sem, c, iu, hur, e3, hl6, -Int.natCast_add]
    | true =>
      have hl6 := rChk_l6 w hE i c q1 0 (Nat.zero_le _) cs
      rw [Nat.sub_zero, Int.natCast_zero] at hl6
      rw [Bool.true_and]
      cases q2 : (List.range' 0 (szO ((evs R)[i]).r.ins.op)).any (tgF (evs R) (evs R)[i]) with
      | true =>
        rw [q2, if_pos rfl] at hl6
        rw [Bool.true_or, if_pos rfl, ← hB, s_loop_at hB]
        clear ih hd hdef q2 q1
        generalize (evs R)[i] = e at *
        generalize (evs R).length = N at *
        simp [ir_undertowref20_Checkl7, go_sem, c, iu, hur, hl6, -Int.natCast_add]
      | false =>
        rw [q2, if_neg (by simp)] at hl6
        rw [Bool.false_or, ← ih, ← hB]
        conv => lhs; rw [s_loop_at hB]
        clear ih hd hdef q2
        generalize (evs R)[i] = e at *
        generalize (evs R).length = N at *
        simp [ir_undertowref20_Checkl7, go_sem, c, iu, hur, e3, hl6, -Int.natCast_add]
  · obtain rfl : i = (evs R).length := by omega
    rw [← hB, s_loop_at hB, List.drop_length]
    simp [ir_undertowref20_Checkl7, go_sem, iu, hur]
termination_by (evs R).length - i
end
end Go.Proofs.Ytlkcfhpklibnaaa
