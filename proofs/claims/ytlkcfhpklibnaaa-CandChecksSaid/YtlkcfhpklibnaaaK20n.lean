/- Layer 20: are pairs wrong (no claim; lemmas). -/
import Derived.Test.YtlkcfhpklibnaaaK20m
set_option linter.unusedSimpArgs false
set_option linter.unusedVariables false
set_option maxRecDepth 20000
namespace Go.Proofs.Ytlkcfhpklibnaaa
open Go Go.Vm

/-- What a pair is to be; none: it may not stand. -/
def prW (l : List Rt) (r : Rt) (last : Option Nat) : Option Int :=
  if srtO r.ins.op = 11 ∧ isE r = true then match last with
    | none => none
    | some j => match l[j]? with
      | none => none
      | some q => if q.addr = r.addr ∧ szO q.ins.op = szO r.ins.op then some q.id else none
  else some (-1)
/-- The place of the reservation that stands. -/
def prL (r : Rt) (i : Nat) (last : Option Nat) : Option Nat := if srtO r.ins.op = 10 then (if isE r = true then some i else none) else if srtO r.ins.op = 11 then none else last
def prF (l : List Rt) : List Rt → Nat → Option Nat → Bool
  | [], _, _ => false
  | r :: rs, i, last => match prW l r last with
    | none => true
    | some n => decide (r.pair ≠ n) || prF l rs (i + 1) (prL r i last)
section
variable {x0 : V} {lv : Nat → V} {x4 u : V} {R : Nat → List Rt} {img : List Nat} {cv : List V} {co : List (List Int)} (w : Lk x0 lv x4 u R img cv co) {mid : Nat} (H : List Vm.Obj)
include w
theorem pairs_l0 (ls : List V) (h : Nat) (hh : h < 3) (i : Nat) (hi : i ≤ (R h).length) (last : Option Nat) (hla : ∀ j, last = some j → j < i) :
    ∃ z, evCI pg (.loop ir_cand_look_pairsl0) ⟨[.undef, .undef, .undef, lv h, .int .i64 (fdn last), .undef, .undef, .undef, .undef, .agg ls, .int .i64 (h : Int), .undef, lv h, .int .i64 ((R h).length : Int), .int .i64 (i : Int), .undef, .undef, .undef, .undef, .undef, .undef], ⟨[[], []], [], H⟩⟩ =
      some (if prF (R h) ((R h).drop i) i last = true then (.ret, ⟨[.undef, .undef, .bool true, .undef, .undef, .undef, .undef, .undef, .undef, .undef, .undef, .undef, .undef, .undef, .undef, .undef, .undef, .undef, .undef, .undef, .undef], ⟨[[], []], [], H⟩⟩)
        else (.exit 2, ⟨[.undef, .undef, .undef, lv h, .int .i64 z, .undef, .undef, .undef, .undef, .agg ls, .int .i64 (h : Int), .undef, lv h, .int .i64 ((R h).length : Int), .int .i64 ((R h).length : Int), .bool false, .undef, .undef, .undef, .undef, .undef], ⟨[[], []], [], H⟩⟩)) := by
  obtain ⟨B, hB⟩ : ∃ B, B = Vm.C.loop ir_cand_look_pairsl0 := ⟨_, rfl⟩
  obtain ⟨hv, hbd, hl5⟩ := w.li h hh
  have hvi := hv.is
  have hvf := hv.fpR
  by_cases c : i < (R h).length
  · have e3 := succ_i64 c (by omega)
    have e1 := fun m => hv.ia (sz := 27) m .i64 (i := i) (by rw [rwR_len]; exact c) (rwR_sz _ _ (List.getElem_mem _))
    simp only [rwR_el] at e1
    have hd : (R h).drop i = (R h)[i] :: (R h).drop (i + 1) := List.drop_eq_getElem_cons c
    have hE := isEvent_ok (R h)[i]
    have hS := SortO ((R h)[i]).ins.op
    have hZ := SizeO ((R h)[i]).ins.op
    have hfl := eq_true (rC_all (R h)[i] (fun v => v.flat = true) (fun _ _ => rfl) (fun _ => rfl) (fun _ => rfl))
    have hnx : ∀ j, prL (R h)[i] i last = some j → j < i + 1 := by
      intro j hj
      unfold prL at hj
      split at hj
      · split at hj
        · cases hj; omega
        · cases hj
      · split at hj
        · cases hj
        · have := hla j hj; omega
    obtain ⟨z, ih⟩ := pairs_l0 ls h hh (i + 1) (by omega) (prL (R h)[i] i last) hnx
    have hdef : prF (R h) ((R h).drop i) i last = match prW (R h) (R h)[i] last with
      | none => true
      | some n => decide (((R h)[i]).pair ≠ n) || prF (R h) ((R h).drop (i + 1)) (i + 1) (prL (R h)[i] i last) := by rw [hd]; rfl
    refine ⟨z, ?_⟩
    rw [hdef]
    rw [← hB] at ih
    rw [← hB, s_loop_at hB]
    have hW : prW (R h) (R h)[i] last = if srtO ((R h)[i]).ins.op = 11 ∧ isE (R h)[i] = true then match last with
        | none => none
        | some j => match (R h)[j]? with
          | none => none
          | some q => if q.addr = ((R h)[i]).addr ∧ szO q.ins.op = szO ((R h)[i]).ins.op then some q.id else none
      else some (-1) := rfl
    have hL : prL (R h)[i] i last = if srtO ((R h)[i]).ins.op = 10 then (if isE (R h)[i] = true then some i else none) else if srtO ((R h)[i]).ins.op = 11 then none else last := rfl
    clear hd hdef hnx
    have hin : ∀ j, last = some j → ∃ hj : j < (R h).length, (R h)[j]? = some (R h)[j] ∧ (∀ m, iaSV 27 m (lv h) (.int .i64 (j : Int)) = some (.ip (tg (lv h)) (rC (R h)[j]) 0)) ∧ evI pg .val n_ops_Size [.int .i64 ((R h)[j]).ins.op] [] = some (.int .i64 (szO ((R h)[j]).ins.op : Nat), []) := by
      intro j hj
      have hlt : j < (R h).length := by have := hla j hj; omega
      refine ⟨hlt, List.getElem?_eq_getElem hlt, fun m => ?_, SizeO _⟩
      have e := hv.ia (sz := 27) m .i64 (i := j) (by rw [rwR_len]; exact hlt) (rwR_sz _ _ (List.getElem_mem _))
      rw [rwR_el] at e
      exact e
    generalize (R h)[i] = r at *
    have hm1 : fdn none = -1 := rfl
    have hsk : toImm ⟨[], [], []⟩ false 8 .skp = none := rfl
    by_cases s11 : srtO r.ins.op = 11
    · rw [s11] at hS hL hW
      rw [if_neg (by omega), if_pos rfl] at hL
      rw [hL] at ih ⊢
      cases qe : isE r with
      | true =>
        rw [qe] at hE hW
        rw [if_pos ⟨rfl, rfl⟩] at hW
        cases last with
        | none =>
          simp only at hW
          rw [hW]
          simp [ir_cand_look_pairsl0, go_sem, c, hvi, hvf, e1, hS, hE, hfl, hm1, hsk, evStore, splice, -Int.natCast_add]
        | some j =>
          obtain ⟨hj, j1, j2, j3⟩ := hin j rfl
          simp only [j1] at hW
          clear hin
          have hfj : fdn (some j) = (j : Int) := rfl
          have hj0 : ¬ (j : Int) < 0 := by omega
          generalize (R h)[j] = q at *
          by_cases d1 : q.addr = r.addr
          · by_cases d2 : szO q.ins.op = szO r.ins.op
            · rw [if_pos ⟨d1, d2⟩] at hW
              rw [hW]
              rw [d2] at j3
              by_cases d3 : r.pair = q.id
              · simp only [d3, ne_eq, not_true_eq_false, decide_false, Bool.false_or]
                rw [← ih]
                simp [ir_cand_look_pairsl0, go_sem, c, hvi, hvf, e1, e3, hS, hE, hZ, hfl, hm1, hsk, hfj, hj0, j2, j3, d1, d3, evStore, splice, -Int.natCast_add]
              · simp only [d3, ne_eq, not_false_eq_true, decide_true, Bool.true_or, if_true]
                simp [ir_cand_look_pairsl0, go_sem, c, hvi, hvf, e1, hS, hE, hZ, hfl, hm1, hsk, hfj, hj0, j2, j3, d1, d3, evStore, splice, -Int.natCast_add]
            · rw [if_neg (fun h => d2 h.2)] at hW
              rw [hW]
              have d2' : ¬ ((szO q.ins.op : Nat) : Int) = ((szO r.ins.op : Nat) : Int) := by omega
              simp [ir_cand_look_pairsl0, go_sem, c, hvi, hvf, e1, hS, hE, hZ, hfl, hm1, hsk, hfj, hj0, j2, j3, d1, d2, d2', evStore, splice, -Int.natCast_add]
          · rw [if_neg (fun h => d1 h.1)] at hW
            rw [hW]
            simp [ir_cand_look_pairsl0, go_sem, c, hvi, hvf, e1, hS, hE, hZ, hfl, hm1, hsk, hfj, hj0, j2, j3, d1, evStore, splice, -Int.natCast_add]
      | false =>
        rw [qe] at hE hW
        rw [if_neg (by simp)] at hW
        rw [hW]
        by_cases d3 : r.pair = -1
        · simp only [d3, ne_eq, not_true_eq_false, decide_false, Bool.false_or]
          rw [← ih]
          simp [ir_cand_look_pairsl0, go_sem, c, hvi, hvf, e1, e3, hS, hE, hfl, hm1, hsk, d3, evStore, splice, -Int.natCast_add]
        · simp only [d3, ne_eq, not_false_eq_true, decide_true, Bool.true_or, if_true]
          simp [ir_cand_look_pairsl0, go_sem, c, hvi, hvf, e1, hS, hE, hfl, hm1, hsk, d3, evStore, splice, -Int.natCast_add]
    · have s11' : ¬ ((srtO r.ins.op : Nat) : Int) = 11 := by omega
      rw [if_neg (fun h => s11 h.1)] at hW
      rw [hW]
      clear hin
      by_cases s10 : srtO r.ins.op = 10
      · rw [s10] at hS hL
        rw [if_pos rfl] at hL
        by_cases d3 : r.pair = -1
        · simp only [d3, ne_eq, not_true_eq_false, decide_false, Bool.false_or]
          rw [← ih, hL]
          cases qe : isE r with
          | true =>
            rw [qe] at hE
            have hfi : fdn (some i) = (i : Int) := rfl
            simp [ir_cand_look_pairsl0, go_sem, c, hvi, hvf, e1, e3, hS, hE, hfl, hfi, d3, evStore, splice, -Int.natCast_add]
          | false =>
            rw [qe] at hE
            simp [ir_cand_look_pairsl0, go_sem, c, hvi, hvf, e1, e3, hS, hE, hfl, hm1, hsk, d3, evStore, splice, -Int.natCast_add]
        · simp only [d3, ne_eq, not_false_eq_true, decide_true, Bool.true_or, if_true]
          simp [ir_cand_look_pairsl0, go_sem, c, hvi, hvf, e1, hS, hE, hfl, d3, evStore, splice, -Int.natCast_add]
      · have s10' : ¬ ((srtO r.ins.op : Nat) : Int) = 10 := by omega
        rw [if_neg s10, if_neg s11] at hL
        by_cases d3 : r.pair = -1
        · simp only [d3, ne_eq, not_true_eq_false, decide_false, Bool.false_or]
          rw [← ih, hL]
          simp [ir_cand_look_pairsl0, go_sem, c, hvi, hvf, e1, e3, hS, hE, hfl, s10, s10', s11, s11', d3, evStore, splice, -Int.natCast_add]
        · simp only [d3, ne_eq, not_false_eq_true, decide_true, Bool.true_or, if_true]
          simp [ir_cand_look_pairsl0, go_sem, c, hvi, hvf, e1, hS, hE, hfl, s10, s10', s11, s11', d3, evStore, splice, -Int.natCast_add]
  · obtain rfl : i = (R h).length := by omega
    refine ⟨fdn last, ?_⟩
    rw [← hB, s_loop_at hB, List.drop_length]
    simp [ir_cand_look_pairsl0, go_sem, prF]
termination_by (R h).length - i
def prR (l : List Rt) : Bool := prF l l 0 none
theorem pairs_l1 (h : Nat) (hh : h ≤ 3) :
    evCI pg (.loop ir_cand_look_pairsl1) ⟨[.undef, .undef, .undef, .undef, .undef, .undef, .undef, .undef, .undef, .agg (ls3 lv), .int .i64 (h : Int), .undef, .undef, .undef, .undef, .undef, .undef, .undef, .undef, .undef, .undef], ⟨[[], []], [], H⟩⟩ =
      some (if (List.range' h (3 - h)).any (fun k => prR (R k)) = true then (.ret, ⟨[.undef, .undef, .bool true, .undef, .undef, .undef, .undef, .undef, .undef, .undef, .undef, .undef, .undef, .undef, .undef, .undef, .undef, .undef, .undef, .undef, .undef], ⟨[[], []], [], H⟩⟩)
        else (.exit 0, ⟨[.undef, .undef, .undef, .undef, .undef, .undef, .undef, .undef, .undef, .agg (ls3 lv), .int .i64 3, .bool false, .undef, .undef, .undef, .undef, .undef, .undef, .undef, .undef, .undef], ⟨[[], []], [], H⟩⟩)) := by
  obtain ⟨B, hB⟩ : ∃ B, B = Vm.C.loop ir_cand_look_pairsl1 := ⟨_, rfl⟩
  by_cases c : h < 3
  · have e3 := succ_i64 c (by omega)
    have hd : List.range' h (3 - h) = h :: List.range' (h + 1) (3 - (h + 1)) := by
      have : 3 - h = (3 - (h + 1)) + 1 := by omega
      rw [this, List.range'_succ]
    have hv := (w.li h c).1
    have hrl : (rows (lv h)).length = (R h).length := by rw [hv.rows, rwR_len]
    have hi := hv.is
    have c2 : (h : Int) < 3 := by omega
    obtain ⟨hg, hg2⟩ := ls3_get lv c
    have hll := ls3_len lv
    have hg' : ∀ q : h < (ls3 lv).length, (ls3 lv)[h] = lv h := fun q => by
      rw [List.getElem?_eq_getElem q] at hg
      exact Option.some.inj hg
    have c3 : h ≤ 2 := by omega
    obtain ⟨z, hl0⟩ := pairs_l0 w H (ls3 lv) h c 0 (Nat.zero_le _) none (fun j hj => by cases hj)
    have hm1 : fdn none = -1 := rfl
    have hpr : prF (R h) (R h) 0 none = prR (R h) := rfl
    rw [List.drop_zero, Int.natCast_zero, hm1, hpr] at hl0
    rw [hd, List.any_cons]
    have ih := pairs_l1 (h + 1) (by omega)
    rw [← hB] at ih
    rw [← hB, s_loop_at hB]
    clear hd
    cases q : prR (R h) with
    | true =>
      rw [q, if_pos rfl] at hl0
      rw [Bool.true_or, if_pos rfl]
      generalize ls3 lv = ls at *
      simp [ir_cand_look_pairsl1, go_sem, c, c2, c3, hg, hg', hg2, hll, hi, hrl, hl0, -Int.natCast_add]
    | false =>
      rw [q, if_neg (by simp)] at hl0
      rw [Bool.false_or, ← ih]
      clear ih
      generalize ls3 lv = ls at *
      simp [ir_cand_look_pairsl1, go_sem, c, c2, c3, e3, hg, hg', hg2, hll, hi, hrl, hl0, -Int.natCast_add]
  · obtain rfl : h = 3 := by omega
    rw [← hB, s_loop_at hB]
    simp [ir_cand_look_pairsl1, go_sem]
termination_by 3 - h
def prB (R : Nat → List Rt) : Bool := prR (R 0) || (prR (R 1) || prR (R 2))
theorem pairs_ok : evI pg .heap n_cand_look_pairs [.agg (xC x0 lv x4 u mid)] H = some (.bool (prB R), H) := by
  have hl1 := pairs_l1 w H 0 (by omega)
  have e : (List.range' 0 (3 - 0)).any (fun k => prR (R k)) = prB R := by simp [List.range'_succ, prB]
  rw [e, Int.natCast_zero] at hl1
  have i0 := w.im.is
  have i4 := w.co4.is
  have iu := w.ev.is
  have j0 := (w.li 0 (by omega)).1.is
  have j1 := (w.li 1 (by omega)).1.is
  have j2 := (w.li 2 (by omega)).1.is
  unfold ls3 at hl1
  unfold xC
  rw [s_fn fn_cand_look_pairs]
  cases q : prB R with
  | true =>
    rw [q, if_pos rfl] at hl1
    simp [ir_cand_look_pairs, go_sem, i0, i4, iu, j0, j1, j2, hl1]
  | false =>
    rw [q, if_neg (by simp)] at hl1
    simp [ir_cand_look_pairs, go_sem, i0, i4, iu, j0, j1, j2, hl1]
end
end Go.Proofs.Ytlkcfhpklibnaaa
