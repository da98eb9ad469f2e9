/- DepsApart (no claim; lemmas). -/
import Derived.Test.YtkdgcgkmgcmaiaaDoorK21l
set_option linter.unusedSimpArgs false
set_option linter.unusedVariables false
namespace Go.Proofs.YtkdgcgkmgcmaiaaDoor
open Go Go.Vm

/-- Where a place comes to stand. -/
def ph (n x : Nat) : Nat := if x < n then x else x + 1
theorem ph_inj {n x y : Nat} (h : ph n x = ph n y) : x = y := by
  unfold ph at h
  split at h <;> split at h <;> omega
def insl (l : List In) (n : Nat) (y : In) : List In := l.take n ++ [y] ++ l.drop n
theorem insl_get {l : List In} {n : Nat} (hn : n ≤ l.length) (y : In) (x : Nat) : (insl l n y)[ph n x]? = l[x]? := by
  unfold insl ph
  have ht : (l.take n).length = n := by rw [List.length_take]; omega
  by_cases h : x < n
  · rw [if_pos h, List.append_assoc, List.getElem?_append_left (by omega), List.getElem?_take_of_lt h]
  · rw [if_neg h, List.getElem?_append_right (by simp; omega), List.getElem?_drop]
    congr 1
    simp
    omega
theorem insl_at {l : List In} {n : Nat} (hn : n ≤ l.length) (y : In) : (insl l n y)[n]? = some y := by
  unfold insl
  have ht : (l.take n).length = n := by rw [List.length_take]; omega
  rw [List.append_assoc, List.getElem?_append_right (by omega), ht]
  simp
theorem insl_take {l : List In} {n : Nat} (hn : n ≤ l.length) (y : In) : (insl l n y).take n = l.take n := by
  unfold insl
  have ht : (l.take n).length = n := by rw [List.length_take]; omega
  rw [List.append_assoc, List.take_append_of_le_length (by omega), List.take_of_length_le (by omega)]
theorem insl_len {l : List In} {n : Nat} (hn : n ≤ l.length) (y : In) : (insl l n y).length = l.length + 1 := by
  unfold insl
  simp
  omega
def RelS (n : Nat) (S S' : Nat → Nat) : Prop := ∀ r x, r < 32 → (S' r).testBit (ph n x) = (S r).testBit x
theorem RelS.of {n : Nat} {S S' : Nat → Nat} (h : RelS n S S') (q : List Int) (x : Nat) : (ofS S' q).testBit (ph n x) = (ofS S q).testBit x := by
  rw [ofS_bit, ofS_bit]
  congr 1
  funext r
  by_cases c : 0 < r ∧ r < 32
  · rw [h r.toNat x (by omega)]
  · simp only [c, decide_false, Bool.false_and]
theorem RelS.bhd {n : Nat} {S S' : Nat → Nat} (h : RelS n S S') (at' : Nat) (y : In) : RelS n (bhd S at' y) (bhd S' (ph n at') y) := by
  unfold Go.Proofs.YtkdgcgkmgcmaiaaDoor.bhd
  split
  · exact h
  · intro r x hr
    unfold up
    split
    · unfold gvn
      split
      · rw [Nat.testBit_two_pow, Nat.testBit_two_pow]
        by_cases c : at' = x
        · rw [c]; simp
        · have : ¬ ph n at' = ph n x := fun e => c (ph_inj e)
          simp [c, this]
      · split
        · exact h.of _ x
        · simp
    · exact h r x hr
theorem sh_lt {n i W : Nat} (hi : i ≤ n) (h : W < 2 ^ i) (x : Nat) : W.testBit (ph n x) = W.testBit x := by
  unfold ph
  split
  · rfl
  · rw [bit_ge h (by omega), bit_ge h (by omega)]
section
variable {l : List In} {n : Nat} (hn : n ≤ l.length) {y : In} (hy : tgt y = 0)
include hn
theorem rAt_lo {i : Nat} (hi : i ≤ n) : rAt (insl l n y) i = rAt l i := by
  rw [← rAt_take (insl l n y) n i hi, insl_take hn, rAt_take l n i hi]
include hy
theorem rAt_hi : ∀ d, RelS n (rAt l (n + d)) (rAt (insl l n y) (n + d + 1))
  | 0 => by
    have e : rAt (insl l n y) (n + 0 + 1) = rAt l n := by
      simp only [Nat.add_zero, rAt, insl_at hn]
      unfold Go.Proofs.YtkdgcgkmgcmaiaaDoor.bhd
      rw [if_pos hy, rAt_lo hn (Nat.le_refl n)]
    rw [e]
    exact fun r x hr => sh_lt (Nat.le_refl n) (rAt_lt l n r hr) x
  | d + 1 => by
    have ih := rAt_hi d
    have e1 : ph n (n + d) = n + d + 1 := by unfold ph; rw [if_neg (by omega)]
    have e2 := insl_get hn y (n + d)
    rw [e1] at e2
    rw [show n + (d + 1) = n + d + 1 by omega]
    have e3 : rAt (insl l n y) (n + d + 1 + 1) = match (insl l n y)[n + d + 1]? with
      | some x => bhd (rAt (insl l n y) (n + d + 1)) (n + d + 1) x
      | none => rAt (insl l n y) (n + d + 1) := rfl
    have e4 : rAt l (n + d + 1) = match l[n + d]? with
      | some x => bhd (rAt l (n + d)) (n + d) x
      | none => rAt l (n + d) := rfl
    rw [e3, e4, e2]
    cases l[n + d]? with
    | none => exact ih
    | some x =>
      have := ih.bhd (n + d) x
      rw [e1] at this
      exact this
theorem rAt_ph (b : Nat) : RelS n (rAt l b) (rAt (insl l n y) (ph n b)) := by
  unfold ph
  split
  · rename_i h
    rw [rAt_lo hn (by omega)]
    exact fun r x hr => sh_lt (Nat.le_of_lt h) (rAt_lt l b r hr) x
  · obtain ⟨d, rfl⟩ : ∃ d, b = n + d := ⟨b - n, by omega⟩
    exact rAt_hi hn hy d
theorem hA_ph (a b : Nat) : (hA (insl l n y) (ph n b)).testBit (ph n a) = (hA l b).testBit a := by
  unfold hA
  rw [insl_get hn]
  cases l[b]? with
  | none => simp
  | some x =>
    simp only [dA]
    split
    · exact (rAt_ph hn hy b).of _ a
    · simp
theorem hD_ph (a b : Nat) : (hD (insl l n y) (ph n b)).testBit (ph n a) = (hD l b).testBit a := by
  unfold hD
  rw [insl_get hn]
  cases l[b]? with
  | none => simp
  | some x =>
    simp only [dD]
    split
    · exact (rAt_ph hn hy b).of _ a
    · simp
variable (hc : crs y.op = false)
include hc
omit hy hc in
theorem cAt_lo {i : Nat} (hi : i ≤ n) : cAt (insl l n y) i = cAt l i := by
  rw [← cAt_take (insl l n y) n i hi, insl_take hn, cAt_take l n i hi]
theorem cAt_hi (a : Nat) : ∀ d, (cAt (insl l n y) (n + d + 1)).testBit (ph n a) = (cAt l (n + d)).testBit a
  | 0 => by
    have e : cAt (insl l n y) (n + 0 + 1) = cAt l n := by
      simp only [Nat.add_zero, cAt, insl_at hn, hc, Bool.false_eq_true, if_false, Nat.or_zero]
      exact cAt_lo hn (Nat.le_refl n)
    rw [e]
    exact sh_lt (Nat.le_refl n) (cAt_lt l n) a
  | d + 1 => by
    have ih := cAt_hi a d
    have e1 : ph n (n + d) = n + d + 1 := by unfold ph; rw [if_neg (by omega)]
    have e2 := insl_get hn y (n + d)
    have e5 := rAt_ph hn hy (n + d)
    rw [e1] at e2 e5
    rw [show n + (d + 1) = n + d + 1 by omega]
    have e3 : cAt (insl l n y) (n + d + 1 + 1) = match (insl l n y)[n + d + 1]? with
      | some x => cAt (insl l n y) (n + d + 1) ||| if crs x.op then ofS (rAt (insl l n y) (n + d + 1)) (srcs x) else 0
      | none => cAt (insl l n y) (n + d + 1) := rfl
    have e4 : cAt l (n + d + 1) = match l[n + d]? with
      | some x => cAt l (n + d) ||| if crs x.op then ofS (rAt l (n + d)) (srcs x) else 0
      | none => cAt l (n + d) := rfl
    rw [e3, e4, e2]
    cases l[n + d]? with
    | none => exact ih
    | some x =>
      simp only [Nat.testBit_or, ih]
      congr 1
      split
      · exact e5.of _ a
      · simp
theorem cAt_ph (a b : Nat) : (cAt (insl l n y) (ph n b)).testBit (ph n a) = (cAt l b).testBit a := by
  by_cases h : b < n
  · have e : ph n b = b := by unfold ph; rw [if_pos h]
    rw [e, cAt_lo hn (by omega)]
    exact sh_lt (Nat.le_of_lt h) (cAt_lt l b) a
  · obtain ⟨d, rfl⟩ : ∃ d, b = n + d := ⟨b - n, by omega⟩
    have e : ph n (n + d) = n + d + 1 := by unfold ph; rw [if_neg (by omega)]
    rw [e]
    exact cAt_hi hn hy hc a d
end
theorem app_ins {m : Mem} {a b : List In} {w : V} (hw : Sl w (inR b)) (ht : m.tk[0]? = some a.length) (hl : a.length + b.length ≤ 1000) :
    appV 2 9 64 m (.osl false 0 (inR a)) w = some (.osl false 0 (inR (a ++ b)), { m with tk := m.tk.set 0 (a.length + b.length) }) := by
  have e : inR (a ++ b) = inR a ++ inR b := by simp [inR]
  have h1 : immAll (inR a ++ inR b) = true := by rw [← e]; simp [immAll, inR, inV, V.imm]
  have h2 : szAll 9 (inR a ++ inR b) = true := by rw [← e]; simp [szAll, inR, inV_len]
  unfold appV
  simp only [hw.src, e, h1, h2, inR_len, ht, fits_of (b := 64) (n := a.length + b.length) (by omega) (by omega), Bool.and_self, if_true, Bool.false_eq_true, if_false]
theorem app_in1 {m : Mem} {a : List In} {x : In} (ht : m.tk[0]? = some a.length) (hl : a.length ≤ 1000) :
    appV 2 9 64 m (.osl false 0 (inR a)) (.els [inV x]) = some (.osl false 0 (inR (a ++ [x])), { m with tk := m.tk.set 0 (a.length + 1) }) := by
  have e : inR (a ++ [x]) = inR a ++ [inV x] := by simp [inR]
  have h1 : immAll (inR a ++ [inV x]) = true := by rw [← e]; simp [immAll, inR, inV, V.imm]
  have h2 : szAll 9 (inR a ++ [inV x]) = true := by rw [← e]; simp [szAll, inR, inV_len]
  unfold appV
  simp only [srcV, List.length_singleton, e, h1, h2, inR_len, ht, fits_of (b := 64) (n := a.length + 1) (by omega) (by omega), Bool.and_self, if_true, Bool.false_eq_true, if_false]
section
variable {lv : V} {N : Nat} (hl : isS lv = true) (hlr : (rows lv).length = N) (h60 : N ≤ 60) (n : Nat) (hn : n ≤ N) (g1 g2 c1 c2 e1 e2 : V) {G Cw E G' Cw' E' : Nat → Nat}
  (hg1 : RelV g1 N G) (hc1 : RelV c1 N Cw) (he1 : RelV e1 N E) (hg2 : RelV g2 (N + 1) G') (hc2 : RelV c2 (N + 1) Cw') (he2 : RelV e2 (N + 1) E')
  (hG : ∀ x y, x < N → y < N → hasW (N + 1) G' (ph n x : Nat) (ph n y : Nat) = hasW N G (x : Nat) (y : Nat)) (hC : ∀ x y, x < N → y < N → hasW (N + 1) Cw' (ph n x : Nat) (ph n y : Nat) = hasW N Cw (x : Nat) (y : Nat)) (hE : ∀ x y, x < N → y < N → hasW (N + 1) E' (ph n x : Nat) (ph n y : Nat) = hasW N E (x : Nat) (y : Nat))
include hl hlr h60 hn hg1 hc1 he1 hg2 hc2 he2 hG hC hE
theorem Apart_l0 (x : Nat) (hx : x < N) (y : Nat) (hy : y ≤ N) :
    evCI pg (.loop ir_undertowlaw21_DepsApartl0) ⟨[.undef, .undef, .undef, .undef, .undef, .undef, .int .i64 (n : Int), .undef, lv, .undef, .ip false [g1] 0, .ip false [g2] 0, .ip false [c1] 0, .ip false [c2] 0, .ip false [e1] 0, .ip false [e2] 0, .int .i64 (x : Int), .int .i64 (y : Int), .undef, .undef, .undef, .undef, .undef, .undef, .undef, .undef, .undef, .undef], ⟨[[]], [0], []⟩⟩ =
      some (.exit 2, ⟨[.undef, .undef, .undef, .undef, .undef, .undef, .int .i64 (n : Int), .undef, lv, .undef, .ip false [g1] 0, .ip false [g2] 0, .ip false [c1] 0, .ip false [c2] 0, .ip false [e1] 0, .ip false [e2] 0, .int .i64 (x : Int), .int .i64 (N : Int), .undef, .undef, .undef, .undef, .undef, .undef, .bool false, .undef, .undef, .undef], ⟨[[]], [0], []⟩⟩) := by
  obtain ⟨B, hB⟩ : ∃ B, B = C.loop ir_undertowlaw21_DepsApartl0 := ⟨_, rfl⟩
  by_cases h : y < N
  · have e3 := succ_i64 h (by omega)
    have e4 := succ_i64 hx (by omega)
    have ih := Apart_l0 x hx (y + 1) (by omega)
    have r1 := Has_ok (t := false) hg1 (x : Int) (y : Int)
    have r2 := Has_ok (t := false) hg2 (ph n x : Nat) (ph n y : Nat)
    have r3 := Has_ok (t := false) hc1 (x : Int) (y : Int)
    have r4 := Has_ok (t := false) hc2 (ph n x : Nat) (ph n y : Nat)
    have r5 := Has_ok (t := false) he1 (x : Int) (y : Int)
    have r6 := Has_ok (t := false) he2 (ph n x : Nat) (ph n y : Nat)
    rw [hG x y hx h] at r2
    rw [hC x y hx h] at r4
    rw [hE x y hx h] at r6
    rw [← ih, ← hB]
    conv => lhs; rw [s_loop_at hB]
    generalize hasW N G x y = b1 at *
    generalize hasW N Cw x y = b2 at *
    generalize hasW N E x y = b3 at *
    unfold ph at r2 r4 r6
    have hlt' : (y : Int) < (N : Int) := by omega
    by_cases hxn : x < n
    · have hxn' : ¬ n ≤ x := by omega
      by_cases hyn : y < n
      · have hyn' : ¬ n ≤ y := by omega
        rw [if_pos hxn, if_pos hyn] at r2 r4 r6
        simp [ir_undertowlaw21_DepsApartl0, go_sem, h, e3, hl, hlr, hxn', hyn', r1, r2, r3, r4, r5, r6, -Int.natCast_add]
      · have hyn' : n ≤ y := by omega
        rw [if_pos hxn, if_neg hyn] at r2 r4 r6
        simp [ir_undertowlaw21_DepsApartl0, go_sem, h, e3, hl, hlr, hxn', hyn', r1, r2, r3, r4, r5, r6, -Int.natCast_add]
    · have hxn' : n ≤ x := by omega
      by_cases hyn : y < n
      · have hyn' : ¬ n ≤ y := by omega
        rw [if_neg hxn, if_pos hyn] at r2 r4 r6
        simp [ir_undertowlaw21_DepsApartl0, go_sem, h, e3, e4, hl, hlr, hxn', hyn', r1, r2, r3, r4, r5, r6, -Int.natCast_add]
      · have hyn' : n ≤ y := by omega
        rw [if_neg hxn, if_neg hyn] at r2 r4 r6
        simp [ir_undertowlaw21_DepsApartl0, go_sem, h, e3, e4, hl, hlr, hxn', hyn', r1, r2, r3, r4, r5, r6, -Int.natCast_add]
  · obtain rfl : y = N := by omega
    rw [← hB, s_loop_at hB]
    simp [ir_undertowlaw21_DepsApartl0, go_sem, hl, hlr]
termination_by N - y
theorem Apart_l1 (x : Nat) (hx : x ≤ N) :
    evCI pg (.loop ir_undertowlaw21_DepsApartl1) ⟨[.undef, .undef, .undef, .undef, .undef, .undef, .int .i64 (n : Int), .undef, lv, .undef, .ip false [g1] 0, .ip false [g2] 0, .ip false [c1] 0, .ip false [c2] 0, .ip false [e1] 0, .ip false [e2] 0, .int .i64 (x : Int), .undef, .undef, .undef, .undef, .undef, .undef, .undef, .undef, .undef, .undef, .undef], ⟨[[]], [0], []⟩⟩ =
      some (.exit 0, ⟨[.undef, .undef, .undef, .undef, .undef, .undef, .int .i64 (n : Int), .undef, lv, .undef, .ip false [g1] 0, .ip false [g2] 0, .ip false [c1] 0, .ip false [c2] 0, .ip false [e1] 0, .ip false [e2] 0, .int .i64 (N : Int), .undef, .undef, .undef, .undef, .undef, .undef, .bool false, .undef, .undef, .undef, .undef], ⟨[[]], [0], []⟩⟩) := by
  obtain ⟨B, hB⟩ : ∃ B, B = C.loop ir_undertowlaw21_DepsApartl1 := ⟨_, rfl⟩
  by_cases h : x < N
  · have e3 := succ_i64 h (by omega)
    have ih := Apart_l1 (x + 1) (by omega)
    have h1 := Apart_l0 hl hlr h60 n hn g1 g2 c1 c2 e1 e2 hg1 hc1 he1 hg2 hc2 he2 hG hC hE x h 0 (by omega)
    rw [Int.natCast_zero] at h1
    rw [← ih, ← hB]
    conv => lhs; rw [s_loop_at hB]
    simp [ir_undertowlaw21_DepsApartl1, go_sem, h, e3, h1, hl, hlr, -Int.natCast_add]
  · obtain rfl : x = N := by omega
    rw [← hB, s_loop_at hB]
    simp [ir_undertowlaw21_DepsApartl1, go_sem, hl, hlr]
termination_by N - x
end
end Go.Proofs.YtkdgcgkmgcmaiaaDoor
