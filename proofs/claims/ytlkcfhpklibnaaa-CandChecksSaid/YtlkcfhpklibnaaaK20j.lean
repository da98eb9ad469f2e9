/- Layer 20: writers; are tags wrong (no claim; lemmas). -/
import Derived.Test.YtlkcfhpklibnaaaK20i
set_option linter.unusedSimpArgs false
set_option linter.unusedVariables false
set_option maxRecDepth 20000
namespace Go.Proofs.Ytlkcfhpklibnaaa
open Go Go.Vm

def lixTo (E : List Ev) (n : Int) : Nat → Option Nat
  | 0 => none
  | k + 1 => if (E[k]?).map (fun e => e.r.id) = some n then some k else lixTo E n k
/-- The last place of a number. -/
def lix (E : List Ev) (n : Int) : Option Nat := lixTo E n E.length
theorem lixTo_some {E : List Ev} {n : Int} {i : Nat} : ∀ {k : Nat}, lixTo E n k = some i → i < k ∧ (E[i]?).map (fun e => e.r.id) = some n
  | 0, h => by cases h
  | k + 1, h => by
    unfold lixTo at h
    split at h
    · cases h; exact ⟨by omega, by assumption⟩
    · obtain ⟨h1, h2⟩ := lixTo_some h
      exact ⟨by omega, h2⟩
theorem lix_some {E : List Ev} {n : Int} {i : Nat} (h : lix E n = some i) : ∃ hi : i < E.length, (E[i]).r.id = n := by
  obtain ⟨h1, h2⟩ := lixTo_some h
  refine ⟨h1, ?_⟩
  rw [List.getElem?_eq_getElem h1] at h2
  simpa using h2
/-- The places of numbers, as a map has them. -/
def AtL (l : List (Int × V)) (E : List Ev) : Prop := ∀ n, kget l n = (lix E n).map fun (i : Nat) => V.int .i64 ((i : Nat) : Int)
def evZ : List V := [.int .i64 0, .int .i64 0, .int .u64 0, .int .i64 0, .int .i64 0, .int .i64 0, .int .i64 0, .int .i64 0, .bool false, .bool false, .int .i64 0, .int .i64 0, .int .i64 0, .int .u64 0, .int .u64 0, .int .u64 0, .int .u64 0, .bool false, .int .i64 0, .flt 0, .int .i64 0, .int .i64 0, .int .i64 0, .int .i64 0, .int .i64 0, .int .i64 0, .int .i64 0, .int .i64 0, .int .i64 0, .bool false, .bool false, .int .i64 0, .int .i64 0]
def wrC (E : List Ev) (n : Int) : List V := match lix E n with
  | some i => match E[i]? with
    | some e => evC e
    | none => evZ
  | none => evZ
/-- Is a number a store's that has a byte? -/
def wrB (E : List Ev) (n at_ : Int) : Bool := match lix E n with
  | some i => match E[i]? with
    | some e => bh e at_
    | none => false
  | none => false
theorem wrC_len (E : List Ev) (n : Int) : (wrC E n).length = 33 := by
  unfold wrC
  split
  · split <;> rfl
  · rfl
theorem wrC_take (E : List Ev) (n : Int) : (wrC E n).take 33 = wrC E n := List.take_of_length_le (by rw [wrC_len]; omega)
theorem wrC_drop (E : List Ev) (n : Int) : (wrC E n).drop 33 = [] := List.drop_eq_nil_of_le (by rw [wrC_len]; omega)
theorem wrC_flat (E : List Ev) (n : Int) : ∀ v ∈ wrC E n, v.flat = true := by
  unfold wrC
  split
  · split
    · exact evC_flat _
    · intro v hv
      have : evZ.all V.flat = true := rfl
      exact List.all_eq_true.1 this v hv
  · intro v hv
    have : evZ.all V.flat = true := rfl
    exact List.all_eq_true.1 this v hv
section
variable {x0 : V} {lv : Nat → V} {x4 u : V} {R : Nat → List Rt} {img : List Nat} {cv : List V} {co : List (List Int)} (w : Lk x0 lv x4 u R img cv co) {mid : Nat} {H : List Vm.Obj} {l : List (Int × V)} (hm : H[mid]? = some (.mp (kvR l))) (hat : AtL l (evs R))
include w hm hat
theorem writer_ok (n at_ : Int) (ha : -100000 ≤ at_ ∧ at_ ≤ 100000) : evI pg .heap n_cand_look_writer [.agg (xC x0 lv x4 u mid), .int .i64 n, .int .i64 at_] H = some (.tup [.agg (wrC (evs R) n), .bool (wrB (evs R) n at_)], H) := by
  have hb := evs_bd (R := R) fun h hh => (w.li h hh).2.1
  have i0 := w.im.is
  have i4 := w.co4.is
  have iu := w.ev.is
  have hur := w.ev.fpR
  have j0 := (w.li 0 (by omega)).1.is
  have j1 := (w.li 1 (by omega)).1.is
  have j2 := (w.li 2 (by omega)).1.is
  have hlk := fun vs tk => look_kv hm vs tk true (.int .i64 0) n
  simp only [if_true] at hlk
  rw [hat n] at hlk
  unfold wrC wrB xC
  cases q : lix (evs R) n with
  | none =>
    rw [q] at hlk
    simp only [Option.map_none, Option.getD_none, Option.isSome_none] at hlk
    rw [s_fn fn_cand_look_writer]
    simp [ir_cand_look_writer, go_sem, i0, i4, iu, j0, j1, j2, hlk, fill, evZ, evStore, splice]
  | some i =>
    rw [q] at hlk
    simp only [Option.map_some, Option.getD_some, Option.isSome_some] at hlk
    obtain ⟨hi, hid⟩ := lix_some q
    have e1 := fun m => w.ev.ia (sz := 33) m .i64 (i := i) (by rw [evR_len]; exact hi) (evR_sz _ _ (List.getElem_mem _))
    simp only [evR_el] at e1
    have hBy := Byte_ok (evs R)[i] (hb _ (List.getElem_mem _)) at_ ha
    have hfl := eq_true (evC_flat (evs R)[i])
    simp only [List.getElem?_eq_getElem hi]
    generalize (evs R)[i] = e at *
    rw [s_fn fn_cand_look_writer]
    simp [ir_cand_look_writer, go_sem, i0, i4, iu, j0, j1, j2, hlk, e1, hBy, hfl, hur, evStore, splice]
end
/-! ### tags -/
theorem rC_tgq (r : Rt) {k : Nat} (h : k < 8) : (rC r)[18 + k]? = some (.int .i64 (r.tg k)) := by
  match k, h with
  | 0, _ => rfl
  | 1, _ => rfl
  | 2, _ => rfl
  | 3, _ => rfl
  | 4, _ => rfl
  | 5, _ => rfl
  | 6, _ => rfl
  | 7, _ => rfl
theorem evC_tgq (e : Ev) {k : Nat} (h : k < 8) : (evC e)[20 + k]? = some (.int .i64 (e.r.tg k)) := by
  match k, h with
  | 0, _ => rfl
  | 1, _ => rfl
  | 2, _ => rfl
  | 3, _ => rfl
  | 4, _ => rfl
  | 5, _ => rfl
  | 6, _ => rfl
  | 7, _ => rfl
/-- From which tag on all must be none's. -/
def ldE (r : Rt) : Nat := if isE r && lod r.ins.op then szO r.ins.op else 0
theorem ldE_le (r : Rt) : ldE r ≤ 8 := by
  unfold ldE
  have := szO_le r.ins.op
  split <;> omega
def tgW (r : Rt) (f j : Nat) : Bool := (List.range' j (8 - f - j)).any fun k => decide (r.tg (f + k) ≠ -1)
theorem bxSt {H : List Vm.Obj} (r : Rt) (vs : List (List V)) (tk : List Nat) (Z : List V) (hZ : Z.length = 27) : evStore 27 ⟨vs, tk, H ++ [.arr [Z]]⟩ (.agg (rC r)) (.ptr H.length 0 0) = some ⟨vs, tk, bxH H (rC r)⟩ := by
  have hd : Z.drop 27 = [] := List.drop_eq_nil_of_le (by omega)
  simp [evStore, splice, bxH, hZ, hd, rC_len, V.cells]
section
variable {x0 : V} {lv : Nat → V} {x4 u : V} {R : Nat → List Rt} {img : List Nat} {cv : List V} {co : List (List Int)} (w : Lk x0 lv x4 u R img cv co) (mid : Nat)
include w
omit w in
theorem tags_l0 (xc ls : List V) (lvh : V) (hv : isS lvh = true) (h n i : Nat) (H : List Vm.Obj) (r : Rt) (f : Nat) (hf : f ≤ 8) (j : Nat) (hj : j ≤ 8 - f) :
    evCI pg (.loop ir_cand_look_tagsl0) ⟨[.undef, .lp 0 0, .undef, .undef, .undef, .undef, .undef, .undef, .undef, .undef, .undef, .undef, .agg ls, .int .i64 (h : Int), .undef, lvh, .int .i64 (n : Int), .int .i64 (i : Int), .undef, .undef, .asl H.length 0 (18 + f) (8 - f) 1, .int .i64 ((8 - f : Nat) : Int), .int .i64 (j : Int), .undef, .undef, .undef, .undef, .undef, .undef, .undef, .undef, .undef, .undef, .undef], ⟨[xc, [], []], [], bxH H (rC r)⟩⟩ =
      some (if tgW r f j = true then (.ret, ⟨[.undef, .undef, .bool true, .undef, .undef, .undef, .undef, .undef, .undef, .undef, .undef, .undef, .undef, .undef, .undef, .undef, .undef, .undef, .undef, .undef, .undef, .undef, .undef, .undef, .undef, .undef, .undef, .undef, .undef, .undef, .undef, .undef, .undef, .undef], ⟨[[], [], []], [], bxH H (rC r)⟩⟩)
        else (.exit 4, ⟨[.undef, .lp 0 0, .undef, .undef, .undef, .undef, .undef, .undef, .undef, .undef, .undef, .undef, .agg ls, .int .i64 (h : Int), .undef, lvh, .int .i64 (n : Int), .int .i64 (i : Int), .undef, .undef, .asl H.length 0 (18 + f) (8 - f) 1, .int .i64 ((8 - f : Nat) : Int), .int .i64 ((8 - f : Nat) : Int), .bool false, .undef, .undef, .undef, .undef, .undef, .undef, .undef, .undef, .undef, .undef], ⟨[xc, [], []], [], bxH H (rC r)⟩⟩)) := by
  obtain ⟨B, hB⟩ : ∃ B, B = Vm.C.loop ir_cand_look_tagsl0 := ⟨_, rfl⟩
  have hat := bxH_at H (rC r)
  have hel := bxH_el H (rC r)
  have hle := bxH_len H (rC r)
  by_cases c : j < 8 - f
  · have e3 := succ_i64 c (by omega)
    have hd : List.range' j (8 - f - j) = j :: List.range' (j + 1) (8 - f - (j + 1)) := by
      have : 8 - f - j = (8 - f - (j + 1)) + 1 := by omega
      rw [this, List.range'_succ]
    have ht := rC_tgq r (k := f + j) (by omega)
    rw [show 18 + (f + j) = 18 + f + j by omega] at ht
    have ht' : ∀ q : 18 + f + j < (rC r).length, (rC r)[18 + f + j] = .int .i64 (r.tg (f + j)) := fun q => by rw [List.getElem?_eq_getElem q] at ht; exact Option.some.inj ht
    have c8 : (j : Int) < ((8 - f : Nat) : Int) := by omega
    have hl27 : 18 + f + j < 27 := by omega
    unfold tgW
    rw [hd, List.any_cons]
    by_cases q : r.tg (f + j) = -1
    · have ih := tags_l0 xc ls lvh hv h n i H r f hf (j + 1) (by omega)
      unfold tgW at ih
      rw [decide_eq_false (by simpa using q), Bool.false_or, ← ih, ← hB]
      conv => lhs; rw [s_loop_at hB]
      clear ih hd
      generalize 8 - f = m at *
      simp [ir_cand_look_tagsl0, go_sem, c, c8, e3, hv, hat, hel, hle, ht, ht', hl27, q, -Int.natCast_add]
    · rw [decide_eq_true (by simpa using q), Bool.true_or, if_pos rfl, ← hB, s_loop_at hB]
      clear hd
      generalize 8 - f = m at *
      simp [ir_cand_look_tagsl0, go_sem, c, c8, e3, hv, hat, hel, hle, ht, ht', hl27, q, -Int.natCast_add]
  · obtain rfl : j = 8 - f := by omega
    unfold tgW
    rw [← hB, s_loop_at hB, Nat.sub_self]
    generalize 8 - f = m at *
    simp [ir_cand_look_tagsl0, go_sem]
termination_by 8 - f - j
def tagsR (r : Rt) : Bool := tgW r (ldE r) 0
theorem tags_l1 (xc ls : List V) (h : Nat) (hh : h < 3) (i : Nat) (hi : i ≤ (R h).length) (H : List Vm.Obj) :
    ∃ X, evCI pg (.loop ir_cand_look_tagsl1) ⟨[.undef, .lp 0 0, .undef, .undef, .undef, .undef, .undef, .undef, .undef, .undef, .undef, .undef, .agg ls, .int .i64 (h : Int), .undef, lv h, .int .i64 ((R h).length : Int), .int .i64 (i : Int), .undef, .undef, .undef, .undef, .undef, .undef, .undef, .undef, .undef, .undef, .undef, .undef, .undef, .undef, .undef, .undef], ⟨[xc, [], []], [], H⟩⟩ =
      some (if ((R h).drop i).any tagsR = true then (.ret, ⟨[.undef, .undef, .bool true, .undef, .undef, .undef, .undef, .undef, .undef, .undef, .undef, .undef, .undef, .undef, .undef, .undef, .undef, .undef, .undef, .undef, .undef, .undef, .undef, .undef, .undef, .undef, .undef, .undef, .undef, .undef, .undef, .undef, .undef, .undef], ⟨[[], [], []], [], H ++ X⟩⟩)
        else (.exit 2, ⟨[.undef, .lp 0 0, .undef, .undef, .undef, .undef, .undef, .undef, .undef, .undef, .undef, .undef, .agg ls, .int .i64 (h : Int), .undef, lv h, .int .i64 ((R h).length : Int), .int .i64 ((R h).length : Int), .bool false, .undef, .undef, .undef, .undef, .undef, .undef, .undef, .undef, .undef, .undef, .undef, .undef, .undef, .undef, .undef], ⟨[xc, [], []], [], H ++ X⟩⟩)) := by
  obtain ⟨B, hB⟩ : ∃ B, B = Vm.C.loop ir_cand_look_tagsl1 := ⟨_, rfl⟩
  obtain ⟨hv, hbd, hl5⟩ := w.li h hh
  have hvi := hv.is
  by_cases c : i < (R h).length
  · have e3 := succ_i64 c (by omega)
    have e1 := fun m => hv.ia (sz := 27) m .i64 (i := i) (by rw [rwR_len]; exact c) (rwR_sz _ _ (List.getElem_mem _))
    simp only [rwR_el] at e1
    have hd : (R h).drop i = (R h)[i] :: (R h).drop (i + 1) := List.drop_eq_getElem_cons c
    have hE := isEvent_ok (R h)[i]
    have hL := Loads_ok ((R h)[i]).ins.op
    have hZ := SizeO ((R h)[i]).ins.op
    have hlo := tags_l0 xc ls (lv h) hvi h (R h).length i H (R h)[i] (ldE (R h)[i]) (ldE_le _) 0 (Nat.zero_le _)
    have hfr := hv.fpR
    rw [hd, List.any_cons]
    have htr : tgW (R h)[i] (ldE (R h)[i]) 0 = tagsR (R h)[i] := rfl
    rw [htr, Int.natCast_zero] at hlo
    have hst := fun vs tk Z hZ => bxSt (H := H) (R h)[i] vs tk Z hZ
    have hat := bxH_at H (rC (R h)[i])
    have hel := bxH_el H (rC (R h)[i])
    have hle := bxH_len H (rC (R h)[i])
    have hmk := bxH_mk H (rC (R h)[i])
    have hf8 := ldE_le (R h)[i]
    have hsl : ∀ g : Nat, g = ldE (R h)[i] → slcAV 8 1 (.ptr H.length 0 18) (some (.int .i64 (g : Int))) none none = some (.asl H.length 0 (18 + ldE (R h)[i]) (8 - ldE (R h)[i]) 1) := by
      rintro g rfl
      have e1 : (ldE (R h)[i] : Int) ≤ 8 := by omega
      simp [slcAV, bnd, asNat, e1, hf8]
    have hdef : ldE (R h)[i] = if isE (R h)[i] && lod ((R h)[i]).ins.op then szO ((R h)[i]).ins.op else 0 := rfl
    cases qt : tagsR (R h)[i] with
    | true =>
      refine ⟨[.arr [rC (R h)[i]]], ?_⟩
      rw [qt, if_pos rfl] at hlo
      rw [Bool.true_or, if_pos rfl]
      rw [bxH_mk]
      rw [← hB, s_loop_at hB]
      clear hd
      generalize (R h)[i] = r at *
      generalize ldE r = f at *
      cases q1 : isE r with
      | false =>
        rw [q1] at hE
        simp only [q1, Bool.false_and, Bool.false_eq_true, if_false] at hdef
        have hsl := hsl 0 hdef.symm
        rw [Int.natCast_zero] at hsl
        simp [ir_cand_look_tagsl1, go_sem, c, hvi, hfr, e1, hE, hst, hmk, hat, hel, hle, hsl, hlo, -Int.natCast_add]
      | true =>
        cases q2 : lod r.ins.op with
        | false =>
          rw [q1] at hE
          rw [q2] at hL
          simp only [q1, q2, Bool.true_and, Bool.false_eq_true, if_false] at hdef
          have hsl := hsl 0 hdef.symm
          rw [Int.natCast_zero] at hsl
          simp [ir_cand_look_tagsl1, go_sem, c, hvi, hfr, e1, hE, hL, hst, hmk, hat, hel, hle, hsl, hlo, -Int.natCast_add]
        | true =>
          rw [q1] at hE
          rw [q2] at hL
          simp only [q1, q2, Bool.true_and, if_true] at hdef
          have hsl := hsl (szO r.ins.op) hdef.symm
          simp [ir_cand_look_tagsl1, go_sem, c, hvi, hfr, e1, hE, hL, hZ, hst, hmk, hat, hel, hle, hsl, hlo, -Int.natCast_add]
    | false =>
      obtain ⟨X, ih⟩ := tags_l1 xc ls h hh (i + 1) (by omega) (bxH H (rC (R h)[i]))
      refine ⟨.arr [rC (R h)[i]] :: X, ?_⟩
      have happ : H ++ (.arr [rC (R h)[i]] :: X) = bxH H (rC (R h)[i]) ++ X := by simp [bxH]
      rw [qt, if_neg (by simp)] at hlo
      rw [Bool.false_or, happ, ← ih, ← hB]
      conv => lhs; rw [s_loop_at hB]
      clear hd ih happ
      generalize (R h)[i] = r at *
      generalize ldE r = f at *
      cases q1 : isE r with
      | false =>
        rw [q1] at hE
        simp only [q1, Bool.false_and, Bool.false_eq_true, if_false] at hdef
        have hsl := hsl 0 hdef.symm
        rw [Int.natCast_zero] at hsl
        simp [ir_cand_look_tagsl1, go_sem, c, hvi, hfr, e1, e3, hE, hst, hmk, hat, hel, hle, hsl, hlo, -Int.natCast_add]
      | true =>
        cases q2 : lod r.ins.op with
        | false =>
          rw [q1] at hE
          rw [q2] at hL
          simp only [q1, q2, Bool.true_and, Bool.false_eq_true, if_false] at hdef
          have hsl := hsl 0 hdef.symm
          rw [Int.natCast_zero] at hsl
          simp [ir_cand_look_tagsl1, go_sem, c, hvi, hfr, e1, e3, hE, hL, hst, hmk, hat, hel, hle, hsl, hlo, -Int.natCast_add]
        | true =>
          rw [q1] at hE
          rw [q2] at hL
          simp only [q1, q2, Bool.true_and, if_true] at hdef
          have hsl := hsl (szO r.ins.op) hdef.symm
          simp [ir_cand_look_tagsl1, go_sem, c, hvi, hfr, e1, e3, hE, hL, hZ, hst, hmk, hat, hel, hle, hsl, hlo, -Int.natCast_add]
  · obtain rfl : i = (R h).length := by omega
    refine ⟨[], ?_⟩
    rw [← hB, s_loop_at hB, List.drop_length, List.append_nil]
    simp [ir_cand_look_tagsl1, go_sem]
termination_by (R h).length - i
end
end Go.Proofs.Ytlkcfhpklibnaaa
