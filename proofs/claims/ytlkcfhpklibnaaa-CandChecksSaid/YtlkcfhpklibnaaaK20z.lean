/- Layer 20: the document's check of pairs (no claim; lemmas). -/
import Derived.Test.YtlkcfhpklibnaaaK20y
set_option linter.unusedSimpArgs false
set_option linter.unusedVariables false
set_option maxRecDepth 20000
namespace Go.Proofs.Ytlkcfhpklibnaaa
open Go Go.Vm

/-- The place of the last LR or SC ahead of a place. -/
def bkw (l : List Rt) : Nat → Option Nat
  | 0 => none
  | k + 1 => match l[k]? with
    | some q => if srtO q.ins.op = 10 ∨ srtO q.ins.op = 11 then some k else bkw l k
    | none => none
theorem bkw_lt {l : List Rt} : ∀ {k j : Nat}, bkw l k = some j → j < k ∧ ∃ q, l[j]? = some q ∧ (srtO q.ins.op = 10 ∨ srtO q.ins.op = 11)
  | 0, j, h => by cases h
  | k + 1, j, h => by
    unfold bkw at h
    split at h
    · rename_i q hq
      split at h
      · rename_i c
        cases h
        exact ⟨by omega, q, hq, c⟩
      · have := bkw_lt h
        exact ⟨by omega, this.2⟩
    · cases h
section
variable {x0 : V} {lv : Nat → V} {x4 u : V} {R : Nat → List Rt} {img : List Nat} {cv : List V} {co : List (List Int)} (w : Lk x0 lv x4 u R img cv co)
include w
theorem rChk_l14 (h : Nat) (hh : h < 3) (i : Nat) (cs rr : List V) (hg : cs[1 + h]? = some (lv h)) (hc5 : cs.length = 5) (k : Nat) (hk : k ≤ (R h).length) (z : Int) (hz : z = (k : Int) - 1) :
    evCI pg (.loop ir_undertowref20_Checkl14) ⟨[.undef, .lp 0 0, .undef, .undef, .undef, .undef, .undef, .undef, .undef, .undef, .undef, .undef, .undef, .undef, .undef, .undef, .undef, .undef, .undef, .undef, .undef, .undef, .undef, .undef, .undef, .undef, .undef, .int .i64 (h : Int), .int .i64 (i : Int), .lp 1 0, .undef, .int .i64 z, .undef, .undef, .undef, .undef, .undef, .undef, .undef, .undef, .undef, .undef, .undef, .undef, .undef, .undef, .undef, .undef, .undef, .undef, .undef, .undef, .undef, .undef, .undef, .undef, .undef, .undef, .undef, .undef, .undef, .undef, .undef, .undef, .undef, .undef, .undef, .undef], ⟨[cs, rr], [0, 0], []⟩⟩ = some (.exit 32, ⟨[.undef, .lp 0 0, .undef, .undef, .undef, .undef, .undef, .undef, .undef, .undef, .undef, .undef, .undef, .undef, .undef, .undef, .undef, .undef, .undef, .undef, .undef, .undef, .undef, .undef, .undef, .undef, .undef, .int .i64 (h : Int), .int .i64 (i : Int), .lp 1 0, .undef, .int .i64 (fdn (bkw (R h) k)), .undef, .undef, .undef, .undef, .undef, .undef, .undef, .undef, .undef, .undef, .undef, .undef, .undef, .undef, .undef, .undef, .undef, .undef, .undef, .undef, .undef, .undef, .undef, .undef, .undef, .undef, .undef, .undef, .undef, .undef, .undef, .undef, .undef, .undef, .bool false, .undef], ⟨[cs, rr], [0, 0], []⟩⟩) := by
  obtain ⟨B, hB⟩ : ∃ B, B = Vm.C.loop ir_undertowref20_Checkl14 := ⟨_, rfl⟩
  obtain ⟨hv, hbd, h512⟩ := w.li h hh
  have hvi := hv.is
  have hvf := hv.fpR
  have hg' := get_all hg
  have hh3 : (h : Int) < 3 := by omega
  have hh2 : h ≤ 2 := by omega
  match k with
  | 0 =>
    have hz0 : z = -1 := by omega
    subst hz0
    have hm1 : fdn (bkw (R h) 0) = -1 := rfl
    rw [hm1, ← hB, s_loop_at hB]
    simp [ir_undertowref20_Checkl14, go_sem]
  | k + 1 =>
    have hz0 : z = (k : Int) := by omega
    subst hz0
    have c : k < (R h).length := by omega
    have e1 := fun m => hv.ia (sz := 27) m .i64 (i := k) (by rw [rwR_len]; exact c) (rwR_sz _ _ (List.getElem_mem _))
    simp only [rwR_el] at e1
    have hS := refSortO ((R h)[k]).ins.op (hbd _ (List.getElem_mem _)).op.2
    have hdef : bkw (R h) (k + 1) = if srtO ((R h)[k]).ins.op = 10 ∨ srtO ((R h)[k]).ins.op = 11 then some k else bkw (R h) k := by
      show (match (R h)[k]? with
        | some q => if srtO q.ins.op = 10 ∨ srtO q.ins.op = 11 then some k else bkw (R h) k
        | none => none) = _
      rw [List.getElem?_eq_getElem c]
    have k0 : (0 : Int) ≤ (k : Int) := by omega
    by_cases s10 : srtO ((R h)[k]).ins.op = 10
    · rw [s10] at hS
      have hfk : fdn (some k) = (k : Int) := rfl
      rw [hdef, if_pos (.inl s10), hfk, ← hB, s_loop_at hB]
      clear hdef hbd
      generalize (R h)[k] = q at *
      simp [ir_undertowref20_Checkl14, go_sem, k0, hg, hg', hc5, hh3, hh2, hvi, hvf, e1, hS, -Int.natCast_add]
    · have s10' : ¬ ((srtO ((R h)[k]).ins.op : Nat) : Int) = 10 := by omega
      by_cases s11 : srtO ((R h)[k]).ins.op = 11
      · rw [s11] at hS
        have hfk : fdn (some k) = (k : Int) := rfl
        rw [hdef, if_pos (.inr s11), hfk, ← hB, s_loop_at hB]
        clear hdef hbd
        generalize (R h)[k] = q at *
        simp [ir_undertowref20_Checkl14, go_sem, k0, hg, hg', hc5, hh3, hh2, hvi, hvf, e1, hS, -Int.natCast_add]
      · have s11' : ¬ ((srtO ((R h)[k]).ins.op : Nat) : Int) = 11 := by omega
        have ew : IntKind.i64.wrap ((k : Int) - 1) = (k : Int) - 1 := wrap_i64 (by omega) (by omega)
        have ih := rChk_l14 h hh i cs rr hg hc5 k (by omega) ((k : Int) - 1) rfl
        rw [hdef, if_neg (fun q => q.elim s10 s11), ← ih, ← hB]
        conv => lhs; rw [s_loop_at hB]
        clear hdef ih hbd
        generalize (R h)[k] = q at *
        simp [ir_undertowref20_Checkl14, go_sem, k0, hg, hg', hc5, hh3, hh2, hvi, hvf, e1, hS, ew, s10, s10', s11, s11', -Int.natCast_add]
/-- Is a pair wrong? The document's. -/
def prD (l : List Rt) (i : Nat) (r : Rt) : Bool :=
  if srtO r.ins.op = 11 ∧ isE r = true then match bkw l i with
    | none => true
    | some j => match l[j]? with
      | none => true
      | some q => decide (srtO q.ins.op ≠ 10) || (!isE q || (decide (q.id ≠ r.pair) || (decide (q.addr ≠ r.addr) || decide (szO q.ins.op ≠ szO r.ins.op))))
  else decide (r.pair ≠ -1)
def prG (l : List Rt) : Nat → List Rt → Bool
  | _, [] => false
  | i, r :: rs => prD l i r || prG l (i + 1) rs
set_option maxHeartbeats 4000000 in
theorem rChk_l15 (h : Nat) (hh : h < 3) (cs : List V) (hg : cs[1 + h]? = some (lv h)) (hc5 : cs.length = 5) (i : Nat) (hi : i ≤ (R h).length) :
    evCI pg (.loop ir_undertowref20_Checkl15) ⟨[.undef, .lp 0 0, .undef, .undef, .undef, .undef, .undef, .undef, .undef, .undef, .undef, .undef, .undef, .undef, .undef, .undef, .undef, .undef, .undef, .undef, .undef, .undef, .undef, .undef, .undef, .undef, .undef, .int .i64 (h : Int), .int .i64 (i : Int), .undef, .undef, .undef, .undef, .undef, .undef, .undef, .undef, .undef, .undef, .undef, .undef, .undef, .undef, .undef, .undef, .undef, .undef, .undef, .undef, .undef, .undef, .undef, .undef, .undef, .undef, .undef, .undef, .undef, .undef, .undef, .undef, .undef, .undef, .undef, .undef, .undef, .undef, .undef], ⟨[cs, []], [0, 0], []⟩⟩ =
      some (if prG (R h) i ((R h).drop i) = true then (.ret, ⟨[.undef, .undef, .int .i64 8, .undef, .undef, .undef, .undef, .undef, .undef, .undef, .undef, .undef, .undef, .undef, .undef, .undef, .undef, .undef, .undef, .undef, .undef, .undef, .undef, .undef, .undef, .undef, .undef, .undef, .undef, .undef, .undef, .undef, .undef, .undef, .undef, .undef, .undef, .undef, .undef, .undef, .undef, .undef, .undef, .undef, .undef, .undef, .undef, .undef, .undef, .undef, .undef, .undef, .undef, .undef, .undef, .undef, .undef, .undef, .undef, .undef, .undef, .undef, .undef, .undef, .undef, .undef, .undef, .undef], ⟨[[], []], [0, 0], []⟩⟩)
        else (.exit 30, ⟨[.undef, .lp 0 0, .undef, .undef, .undef, .undef, .undef, .undef, .undef, .undef, .undef, .undef, .undef, .undef, .undef, .undef, .undef, .undef, .undef, .undef, .undef, .undef, .undef, .undef, .undef, .undef, .undef, .int .i64 (h : Int), .int .i64 ((R h).length : Int), .undef, .undef, .undef, .undef, .undef, .undef, .undef, .undef, .undef, .undef, .undef, .undef, .undef, .undef, .undef, .undef, .undef, .undef, .undef, .undef, .undef, .undef, .undef, .undef, .undef, .undef, .undef, .undef, .undef, .undef, .undef, .undef, .undef, .undef, .bool false, .undef, .undef, .undef, .undef], ⟨[cs, []], [0, 0], []⟩⟩)) := by
  obtain ⟨B, hB⟩ : ∃ B, B = Vm.C.loop ir_undertowref20_Checkl15 := ⟨_, rfl⟩
  obtain ⟨hv, hbd, h512⟩ := w.li h hh
  have hvi := hv.is
  have hvf := hv.fpR
  have hrl : (rows (lv h)).length = (R h).length := by rw [hv.rows, rwR_len]
  have hg' := get_all hg
  have hh3 : (h : Int) < 3 := by omega
  have hh2 : h ≤ 2 := by omega
  have hm1 : fdn none = -1 := rfl
  have hsk : toImm ⟨[], [], []⟩ false 8 .skp = none := rfl
  by_cases c : i < (R h).length
  · have e3 := succ_i64 c (by omega)
    have e1 := fun m => hv.ia (sz := 27) m .i64 (i := i) (by rw [rwR_len]; exact c) (rwR_sz _ _ (List.getElem_mem _))
    simp only [rwR_el] at e1
    have hbr := hbd _ (List.getElem_mem c)
    have hE := IsEvent_ok (R h)[i] hbr
    have hS := refSortO ((R h)[i]).ins.op hbr.op.2
    have hZ := refSz ((R h)[i]).ins.op hbr.op.2
    have hd : (R h).drop i = (R h)[i] :: (R h).drop (i + 1) := List.drop_eq_getElem_cons c
    have hdef : prG (R h) i ((R h)[i] :: (R h).drop (i + 1)) = (prD (R h) i (R h)[i] || prG (R h) (i + 1) ((R h).drop (i + 1))) := rfl
    have hW : prD (R h) i (R h)[i] = if srtO ((R h)[i]).ins.op = 11 ∧ isE (R h)[i] = true then match bkw (R h) i with
        | none => true
        | some j => match (R h)[j]? with
          | none => true
          | some q => decide (srtO q.ins.op ≠ 10) || (!isE q || (decide (q.id ≠ ((R h)[i]).pair) || (decide (q.addr ≠ ((R h)[i]).addr) || decide (szO q.ins.op ≠ szO ((R h)[i]).ins.op))))
      else decide (((R h)[i]).pair ≠ -1) := rfl
    have ih := rChk_l15 h hh cs hg hc5 (i + 1) (by omega)
    have ew : IntKind.i64.wrap ((i : Int) - 1) = (i : Int) - 1 := wrap_i64 (by omega) (by omega)
    have hl14 := rChk_l14 w h hh i cs (rC (R h)[i]) hg hc5 i (by omega) ((i : Int) - 1) rfl
    have hin : ∀ j, bkw (R h) i = some j → ∃ hj : j < (R h).length, (R h)[j]? = some (R h)[j] ∧ (∀ m, iaSV 27 m (lv h) (.int .i64 (j : Int)) = some (.ip (tg (lv h)) (rC (R h)[j]) 0)) ∧ evI pg .val n_undertowref05_Sort [.int .i64 ((R h)[j]).ins.op] [] = some (.int .i64 (srtO ((R h)[j]).ins.op : Nat), []) ∧ evI pg .val n_undertowref05_Size [.int .i64 ((R h)[j]).ins.op] [] = some (.int .i64 (szO ((R h)[j]).ins.op : Nat), []) ∧ evI pg .val n_undertowref20_IsEvent [.agg (rC (R h)[j])] [] = some (.bool (isE (R h)[j]), []) := by
      intro j hj
      have hlt : j < (R h).length := by have := (bkw_lt hj).1; omega
      have hbq := hbd _ (List.getElem_mem hlt)
      refine ⟨hlt, List.getElem?_eq_getElem hlt, fun m => ?_, refSortO _ hbq.op.2, refSz _ hbq.op.2, IsEvent_ok _ hbq⟩
      have e := hv.ia (sz := 27) m .i64 (i := j) (by rw [rwR_len]; exact hlt) (rwR_sz _ _ (List.getElem_mem _))
      rw [rwR_el] at e
      exact e
    rw [hd, hdef]
    rw [← hB] at ih
    rw [← hB, s_loop_at hB]
    clear hd hdef hbr hbd
    generalize (R h)[i] = r at *
    by_cases s11 : srtO r.ins.op = 11
    · rw [s11] at hS hW
      cases qe : isE r with
      | true =>
        rw [qe] at hE hW
        rw [if_pos ⟨rfl, rfl⟩] at hW
        cases qb : bkw (R h) i with
        | none =>
          rw [qb, hm1] at hl14
          rw [qb] at hW
          simp only at hW
          rw [hW, Bool.true_or, if_pos rfl]
          clear ih hin
          simp [ir_undertowref20_Checkl15, go_sem, hvi, hvf, hrl, c, e1, hE, hS, hZ, hg, hg', hc5, hh3, hh2, hm1, hsk, ew, hl14, evStore, splice, V.cells, V.exp, -Int.natCast_add]
        | some j =>
          obtain ⟨hj, j1, j2, j3, j4, j5⟩ := hin j qb
          have hfj : fdn (some j) = (j : Int) := rfl
          rw [qb, hfj] at hl14
          rw [qb] at hW
          simp only [j1] at hW
          clear hin
          have hj0 : ¬ (j : Int) < 0 := by omega
          generalize (R h)[j] = q at *
          by_cases d0 : srtO q.ins.op = 10
          · rw [d0] at j3
            simp only [d0, ne_eq, not_true_eq_false, decide_false, Bool.false_or] at hW
            cases d1 : isE q with
            | true =>
              rw [d1] at j5
              rw [d1, Bool.not_true, Bool.false_or] at hW
              by_cases d2 : q.id = r.pair
              · rw [decide_eq_false (by simpa using d2), Bool.false_or] at hW
                by_cases d3 : q.addr = r.addr
                · rw [decide_eq_false (by simpa using d3), Bool.false_or] at hW
                  by_cases d4 : szO q.ins.op = szO r.ins.op
                  · rw [decide_eq_false (by simpa using d4)] at hW
                    rw [d4] at j4
                    rw [hW, Bool.false_or, ← ih]
                    clear ih
                    simp [ir_undertowref20_Checkl15, go_sem, hvi, hvf, hrl, c, e1, hE, hS, hZ, hg, hg', hc5, hh3, hh2, hm1, hsk, e3, ew, hl14, hj0, j2, j3, j4, j5, d2, d3, evStore, splice, V.cells, V.exp, -Int.natCast_add]
                  · have d4' : ¬ ((szO q.ins.op : Nat) : Int) = ((szO r.ins.op : Nat) : Int) := by omega
                    rw [decide_eq_true (by simpa using d4)] at hW
                    rw [hW, Bool.true_or, if_pos rfl]
                    clear ih
                    simp [ir_undertowref20_Checkl15, go_sem, hvi, hvf, hrl, c, e1, hE, hS, hZ, hg, hg', hc5, hh3, hh2, hm1, hsk, ew, hl14, hj0, j2, j3, j4, j5, d2, d3, d4, d4', evStore, splice, V.cells, V.exp, -Int.natCast_add]
                · rw [decide_eq_true (by simpa using d3), Bool.true_or] at hW
                  rw [hW, Bool.true_or, if_pos rfl]
                  clear ih
                  simp [ir_undertowref20_Checkl15, go_sem, hvi, hvf, hrl, c, e1, hE, hS, hZ, hg, hg', hc5, hh3, hh2, hm1, hsk, ew, hl14, hj0, j2, j3, j4, j5, d2, d3, evStore, splice, V.cells, V.exp, -Int.natCast_add]
              · rw [decide_eq_true (by simpa using d2), Bool.true_or] at hW
                rw [hW, Bool.true_or, if_pos rfl]
                clear ih
                simp [ir_undertowref20_Checkl15, go_sem, hvi, hvf, hrl, c, e1, hE, hS, hZ, hg, hg', hc5, hh3, hh2, hm1, hsk, ew, hl14, hj0, j2, j3, j4, j5, d2, evStore, splice, V.cells, V.exp, -Int.natCast_add]
            | false =>
              rw [d1] at j5
              rw [d1, Bool.not_false, Bool.true_or] at hW
              rw [hW, Bool.true_or, if_pos rfl]
              clear ih
              simp [ir_undertowref20_Checkl15, go_sem, hvi, hvf, hrl, c, e1, hE, hS, hZ, hg, hg', hc5, hh3, hh2, hm1, hsk, ew, hl14, hj0, j2, j3, j4, j5, evStore, splice, V.cells, V.exp, -Int.natCast_add]
          · have d0' : ¬ ((srtO q.ins.op : Nat) : Int) = 10 := by omega
            rw [decide_eq_true (by simpa using d0), Bool.true_or] at hW
            rw [hW, Bool.true_or, if_pos rfl]
            clear ih
            simp [ir_undertowref20_Checkl15, go_sem, hvi, hvf, hrl, c, e1, hE, hS, hZ, hg, hg', hc5, hh3, hh2, hm1, hsk, ew, hl14, hj0, j2, j3, d0, d0', evStore, splice, V.cells, V.exp, -Int.natCast_add]
      | false =>
        rw [qe] at hE hW
        rw [if_neg (by simp)] at hW
        rw [hW]
        clear hin hl14
        by_cases d3 : r.pair = -1
        · rw [decide_eq_false (by simpa using d3), Bool.false_or, ← ih]
          clear ih
          simp [ir_undertowref20_Checkl15, go_sem, hvi, hvf, hrl, c, e1, hE, hS, hZ, hg, hg', hc5, hh3, hh2, hm1, hsk, e3, d3, evStore, splice, V.cells, V.exp, -Int.natCast_add]
        · rw [decide_eq_true (by simpa using d3), Bool.true_or, if_pos rfl]
          clear ih
          simp [ir_undertowref20_Checkl15, go_sem, hvi, hvf, hrl, c, e1, hE, hS, hZ, hg, hg', hc5, hh3, hh2, hm1, hsk, d3, evStore, splice, V.cells, V.exp, -Int.natCast_add]
    · have s11' : ¬ ((srtO r.ins.op : Nat) : Int) = 11 := by omega
      rw [if_neg (fun q => s11 q.1)] at hW
      rw [hW]
      clear hin hl14
      by_cases d3 : r.pair = -1
      · rw [decide_eq_false (by simpa using d3), Bool.false_or, ← ih]
        clear ih
        simp [ir_undertowref20_Checkl15, go_sem, hvi, hvf, hrl, c, e1, hE, hS, hZ, hg, hg', hc5, hh3, hh2, hm1, hsk, e3, d3, s11, s11', evStore, splice, V.cells, V.exp, -Int.natCast_add]
      · rw [decide_eq_true (by simpa using d3), Bool.true_or, if_pos rfl]
        clear ih
        simp [ir_undertowref20_Checkl15, go_sem, hvi, hvf, hrl, c, e1, hE, hS, hZ, hg, hg', hc5, hh3, hh2, hm1, hsk, d3, s11, s11', evStore, splice, V.cells, V.exp, -Int.natCast_add]
  · obtain rfl : i = (R h).length := by omega
    rw [← hB, s_loop_at hB, List.drop_length]
    simp [ir_undertowref20_Checkl15, go_sem, hvi, hvf, hrl, hg, hg', hc5, hh3, hh2, prG]
termination_by (R h).length - i
theorem rChk_l16 (cs : List V) (hcs : cs = [x0, lv 0, lv 1, lv 2, x4]) (h : Nat) (hh : h ≤ 3) :
    evCI pg (.loop ir_undertowref20_Checkl16) ⟨[.undef, .lp 0 0, .undef, .undef, .undef, .undef, .undef, .undef, .undef, .undef, .undef, .undef, .undef, .undef, .undef, .undef, .undef, .undef, .undef, .undef, .undef, .undef, .undef, .undef, .undef, .undef, .undef, .int .i64 (h : Int), .undef, .undef, .undef, .undef, .undef, .undef, .undef, .undef, .undef, .undef, .undef, .undef, .undef, .undef, .undef, .undef, .undef, .undef, .undef, .undef, .undef, .undef, .undef, .undef, .undef, .undef, .undef, .undef, .undef, .undef, .undef, .undef, .undef, .undef, .undef, .undef, .undef, .undef, .undef, .undef], ⟨[cs, []], [0, 0], []⟩⟩ =
      some (if (List.range' h (3 - h)).any (fun k => prG (R k) 0 (R k)) = true then (.ret, ⟨[.undef, .undef, .int .i64 8, .undef, .undef, .undef, .undef, .undef, .undef, .undef, .undef, .undef, .undef, .undef, .undef, .undef, .undef, .undef, .undef, .undef, .undef, .undef, .undef, .undef, .undef, .undef, .undef, .undef, .undef, .undef, .undef, .undef, .undef, .undef, .undef, .undef, .undef, .undef, .undef, .undef, .undef, .undef, .undef, .undef, .undef, .undef, .undef, .undef, .undef, .undef, .undef, .undef, .undef, .undef, .undef, .undef, .undef, .undef, .undef, .undef, .undef, .undef, .undef, .undef, .undef, .undef, .undef, .undef], ⟨[[], []], [0, 0], []⟩⟩)
        else (.exit 28, ⟨[.undef, .lp 0 0, .undef, .undef, .undef, .undef, .undef, .undef, .undef, .undef, .undef, .undef, .undef, .undef, .undef, .undef, .undef, .undef, .undef, .undef, .undef, .undef, .undef, .undef, .undef, .undef, .undef, .int .i64 3, .undef, .undef, .undef, .undef, .undef, .undef, .undef, .undef, .undef, .undef, .undef, .undef, .undef, .undef, .undef, .undef, .undef, .undef, .undef, .undef, .undef, .undef, .undef, .undef, .undef, .undef, .undef, .undef, .undef, .undef, .undef, .undef, .undef, .undef, .bool false, .undef, .undef, .undef, .undef, .undef], ⟨[cs, []], [0, 0], []⟩⟩)) := by
  obtain ⟨B, hB⟩ : ∃ B, B = Vm.C.loop ir_undertowref20_Checkl16 := ⟨_, rfl⟩
  by_cases c : h < 3
  · have e3 := succ_i64 c (by omega)
    have hd : List.range' h (3 - h) = h :: List.range' (h + 1) (3 - (h + 1)) := by
      have : 3 - h = (3 - (h + 1)) + 1 := by omega
      rw [this, List.range'_succ]
    have c2 : (h : Int) < 3 := by omega
    have c3 : h ≤ 2 := by omega
    have hg : cs[1 + h]? = some (lv h) := by rw [hcs]; rcases lt3 c with rfl | rfl | rfl <;> rfl
    have hc5 : cs.length = 5 := by rw [hcs]; rfl
    have hl := rChk_l15 w h c cs hg hc5 0 (Nat.zero_le _)
    rw [List.drop_zero, Int.natCast_zero] at hl
    have ih := rChk_l16 cs hcs (h + 1) (by omega)
    rw [hd, List.any_cons]
    rw [← hB] at ih
    rw [← hB, s_loop_at hB]
    clear hd
    cases q : prG (R h) 0 (R h) with
    | true =>
      rw [q, if_pos rfl] at hl
      rw [Bool.true_or, if_pos rfl]
      clear ih
      simp [ir_undertowref20_Checkl16, go_sem, c, c2, c3, hl, -Int.natCast_add]
    | false =>
      rw [q, if_neg (by simp)] at hl
      rw [Bool.false_or, ← ih]
      clear ih
      simp [ir_undertowref20_Checkl16, go_sem, c, c2, c3, e3, hl, -Int.natCast_add]
  · obtain rfl : h = 3 := by omega
    rw [← hB, s_loop_at hB]
    simp [ir_undertowref20_Checkl16, go_sem]
termination_by 3 - h
end
end Go.Proofs.Ytlkcfhpklibnaaa
