/- Layer 20: are bytes wrong (no claim; lemmas). -/
import Derived.Test.YtlkcfhpklibnaaaK20k
set_option linter.unusedSimpArgs false
set_option linter.unusedVariables false
set_option maxRecDepth 20000
namespace Go.Proofs.Ytlkcfhpklibnaaa
open Go Go.Vm

/-- The byte of the store of a number. -/
def wrVl (E : List Ev) (n at_ : Int) : Nat := match lix E n with
  | some i => match E[i]? with
    | some e => bytE e at_
    | none => 0
  | none => 0
theorem ByteZ (at_ : Int) : evI pg .val n_cand_Byte [.agg evZ, .int .i64 at_] [] = some (.tup [.int .u8 0, .bool false], []) := by
  rw [s_fn fn_cand_Byte]
  simp [ir_cand_Byte, go_sem, evZ, V.cells, V.exp]
theorem ByteW {E : List Ev} (hb : ∀ e ∈ E, Bd e.r) (n at_ : Int) (ha : -100000 ≤ at_ ∧ at_ ≤ 100000) : evI pg .val n_cand_Byte [.agg (wrC E n), .int .i64 at_] [] = some (.tup [.int .u8 (wrVl E n at_ : Nat), .bool (wrB E n at_)], []) := by
  unfold wrC wrVl wrB
  cases q : lix E n with
  | none => exact ByteZ at_
  | some i =>
    obtain ⟨hi, _⟩ := lix_some q
    simp only [List.getElem?_eq_getElem hi]
    exact Byte_ok E[i] (hb _ (List.getElem_mem _)) at_ ha
/-- What a byte that was loaded is to be. -/
def wantB (img : List Nat) (E : List Ev) (e : Ev) (k : Nat) : Nat := if e.r.tg k = -1 then img.getD (adE e.r + k).toNat 0 else wrVl E (e.r.tg k) (adE e.r + k)
def bytK (img : List Nat) (E : List Ev) (e : Ev) (k : Nat) : Bool := decide ((byl e.r.rdd.toNat (szO e.r.ins.op)).getD k 0 ≠ wantB img E e k)
theorem wrC_imm (E : List Ev) (n : Int) (m : Mem) (t : Bool) : omap (toImm m t 7) (wrC E n) = some (wrC E n) := by
  unfold wrC
  have hz : omap (toImm m t 7) evZ = some evZ := rfl
  split
  · split
    · exact evC_imm _ m t
    · exact hz
  · exact hz
section
variable {x0 : V} {lv : Nat → V} {x4 u : V} {R : Nat → List Rt} {img : List Nat} {cv : List V} {co : List (List Int)} (w : Lk x0 lv x4 u R img cv co) {mid : Nat} {H : List Vm.Obj} {l : List (Int × V)} (hm : H[mid]? = some (.mp (kvR l))) (hat : AtL l (evs R))
include w hm hat
theorem bytes_l0 (e : Ev) (hb : Bd e.r) (hin : 0 ≤ adE e.r ∧ adE e.r + (szO e.r.ins.op : Nat) ≤ (img.length : Int)) (i : Nat) (k : Nat) (hk : k ≤ szO e.r.ins.op) :
    evCI pg (.loop ir_cand_look_bytesl0) ⟨[.undef, .lp 0 0, .undef, .lp 1 0, .undef, .undef, .undef, .undef, .undef, u, .int .i64 ((evs R).length : Int), .int .i64 (i : Int), .undef, .undef, .undef, ils (byV (byl e.r.rdd.toNat (szO e.r.ins.op))), .int .i64 (szO e.r.ins.op : Nat), .int .i64 (k : Int), .undef, .undef, .undef], ⟨[xC x0 lv x4 u mid, evC e, []], [], H⟩⟩ =
      some (if (List.range' k (szO e.r.ins.op - k)).any (bytK img (evs R) e) = true then (.ret, ⟨[.undef, .undef, .bool true, .undef, .undef, .undef, .undef, .undef, .undef, .undef, .undef, .undef, .undef, .undef, .undef, .undef, .undef, .undef, .undef, .undef, .undef], ⟨[[], [], []], [], H⟩⟩)
        else (.exit 2, ⟨[.undef, .lp 0 0, .undef, .lp 1 0, .undef, .undef, .undef, .undef, .undef, u, .int .i64 ((evs R).length : Int), .int .i64 (i : Int), .undef, .undef, .undef, ils (byV (byl e.r.rdd.toNat (szO e.r.ins.op))), .int .i64 (szO e.r.ins.op : Nat), .int .i64 (szO e.r.ins.op : Nat), .bool false, .undef, .undef], ⟨[xC x0 lv x4 u mid, evC e, []], [], H⟩⟩)) := by
  obtain ⟨B, hB⟩ : ∃ B, B = Vm.C.loop ir_cand_look_bytesl0 := ⟨_, rfl⟩
  have hbE := evs_bd (R := R) fun h hh => (w.li h hh).2.1
  have h8 := szO_le e.r.ins.op
  have iu := w.ev.is
  have i0 := w.im.is
  have hbl := byl_len e.r.rdd.toNat (szO e.r.ins.op)
  have hsb := Sl.ils (byV (byl e.r.rdd.toNat (szO e.r.ins.op)))
  have hsi := hsb.is
  have hsf := hsb.fpR
  have hif := w.im.fpR
  by_cases c : k < szO e.r.ins.op
  · have e3 := succ_i64 c (by omega)
    have hd : List.range' k (szO e.r.ins.op - k) = k :: List.range' (k + 1) (szO e.r.ins.op - (k + 1)) := by
      have : szO e.r.ins.op - k = (szO e.r.ins.op - (k + 1)) + 1 := by omega
      rw [this, List.range'_succ]
    have ht := evC_tgq e (k := k) (by omega)
    have ht' : ∀ q : 20 + k < (evC e).length, (evC e)[20 + k] = .int .i64 (e.r.tg k) := fun q => by rw [List.getElem?_eq_getElem q] at ht; exact Option.some.inj ht
    have c8 : (k : Int) < ((szO e.r.ins.op : Nat) : Int) := by omega
    have k8 : (k : Int) < 8 := by omega
    have k7 : k ≤ 7 := by omega
    have k7' : k < 8 := by omega
    have k33 : 20 + k < 33 := by omega
    have had := adE_le hb.ad.1
    obtain ⟨a, haN⟩ : ∃ a : Nat, adE e.r = (a : Int) := ⟨(adE e.r).toNat, (Int.toNat_of_nonneg hin.1).symm⟩
    have ew : IntKind.i64.wrap ((a : Int) + (k : Int)) = ((a + k : Nat) : Int) := by rw [wrap_i64 (by omega) (by omega)]; rfl
    have hwr := writer_ok w hm hat (e.r.tg k) ((a + k : Nat) : Int) (by omega)
    have hBW := ByteW hbE (e.r.tg k) ((a + k : Nat) : Int) (by omega)
    have hx7 : (xC x0 lv x4 u mid).take 7 = xC x0 lv x4 u mid := rfl
    have hxl : (xC x0 lv x4 u mid).length = 7 := rfl
    have hx0 : (xC x0 lv x4 u mid)[0]? = some x0 := rfl
    have hx0' : ∀ q : 0 < (xC x0 lv x4 u mid).length, (xC x0 lv x4 u mid)[0] = x0 := fun _ => rfl
    have wl := wrC_len (evs R) (e.r.tg k)
    have wt := wrC_take (evs R) (e.r.tg k)
    have wd := wrC_drop (evs R) (e.r.tg k)
    have wf := eq_true (wrC_flat (evs R) (e.r.tg k))
    have wi := wrC_imm (evs R) (e.r.tg k)
    have kl : k < (byl e.r.rdd.toNat (szO e.r.ins.op)).length := by omega
    have e1 := fun m => hsb.ia (sz := 1) m .i64 (i := k) (by rw [byV_len]; exact kl) (by simp [byV])
    simp only [byV_el] at e1
    have gb : (byl e.r.rdd.toNat (szO e.r.ins.op)).getD k 0 = (byl e.r.rdd.toNat (szO e.r.ins.op))[k] := by rw [List.getD_eq_getElem?_getD, List.getElem?_eq_getElem kl]; rfl
    have al : a + k < img.length := by omega
    have e2 := fun m => w.im.ia (sz := 1) m .i64 (i := a + k) (by rw [byV_len]; exact al) (by simp [byV])
    simp only [byV_el] at e2
    have gi : img.getD (a + k) 0 = img[a + k] := by rw [List.getD_eq_getElem?_getD, List.getElem?_eq_getElem al]; rfl
    have hat' : (adE e.r + (k : Int)).toNat = a + k := by omega
    have hak : adE e.r + (k : Int) = ((a + k : Nat) : Int) := by omega
    rw [hd, List.any_cons]
    have hdef : bytK img (evs R) e k = decide ((byl e.r.rdd.toNat (szO e.r.ins.op)).getD k 0 ≠ wantB img (evs R) e k) := rfl
    have hwd : wantB img (evs R) e k = if e.r.tg k = -1 then img[a + k] else wrVl (evs R) (e.r.tg k) ((a + k : Nat) : Int) := by
      unfold wantB
      rw [hat', hak, gi]
    rw [gb] at hdef
    cases q : bytK img (evs R) e k with
    | true =>
      rw [Bool.true_or, if_pos rfl, ← hB, s_loop_at hB]
      rw [q] at hdef
      simp only [Bool.true_eq, decide_eq_true_eq] at hdef
      clear hd
      generalize wrC (evs R) (e.r.tg k) = wc at *
      generalize xC x0 lv x4 u mid = xc at *
      generalize (evs R).length = N at *
      generalize (byl e.r.rdd.toNat (szO e.r.ins.op))[k] = bv at *
      generalize ils (byV (byl e.r.rdd.toNat (szO e.r.ins.op))) = bs at *
      by_cases q2 : e.r.tg k = -1
      · rw [if_pos q2] at hwd
        rw [hwd] at hdef
        have hdi : ¬ (bv : Int) = (img[a + k] : Int) := by omega
        simp [ir_cand_look_bytesl0, go_sem, c, c8, k8, k7, k7', k33, iu, i0, hsi, hsf, hif, ht, ht', e1, e2, haN, q2, ew, hx7, hxl, hx0, hx0', hdi, evStore, splice, -Int.natCast_add]
      · rw [if_neg q2] at hwd
        rw [hwd] at hdef
        generalize wrVl (evs R) (e.r.tg k) ((a + k : Nat) : Int) = wv at *
        have hdi : ¬ (bv : Int) = (wv : Int) := by omega
        simp [ir_cand_look_bytesl0, go_sem, c, c8, k8, k7, k7', k33, iu, i0, hsi, hsf, hif, ht, ht', e1, e2, haN, q2, ew, hwr, hBW, hx7, hxl, hx0, hx0', wl, wt, wd, wf, wi, hdi, evStore, splice, -Int.natCast_add]
    | false =>
      have ih := bytes_l0 e hb hin i (k + 1) (by omega)
      rw [Bool.false_or, ← ih, ← hB]
      conv => lhs; rw [s_loop_at hB]
      rw [q] at hdef
      simp only [Bool.false_eq, decide_eq_false_iff_not, Decidable.not_not] at hdef
      clear ih hd
      generalize wrC (evs R) (e.r.tg k) = wc at *
      generalize xC x0 lv x4 u mid = xc at *
      generalize (evs R).length = N at *
      generalize (byl e.r.rdd.toNat (szO e.r.ins.op))[k] = bv at *
      generalize ils (byV (byl e.r.rdd.toNat (szO e.r.ins.op))) = bs at *
      by_cases q2 : e.r.tg k = -1
      · rw [if_pos q2] at hwd
        rw [hwd] at hdef
        subst hdef
        simp [ir_cand_look_bytesl0, go_sem, c, c8, e3, k8, k7, k7', k33, iu, i0, hsi, hsf, hif, ht, ht', e1, e2, haN, q2, ew, hx7, hxl, hx0, hx0', evStore, splice, -Int.natCast_add]
      · rw [if_neg q2] at hwd
        rw [hwd] at hdef
        subst hdef
        generalize wrVl (evs R) (e.r.tg k) ((a + k : Nat) : Int) = wv at *
        simp [ir_cand_look_bytesl0, go_sem, c, c8, e3, k8, k7, k7', k33, iu, i0, hsi, hsf, hif, ht, ht', e1, e2, haN, q2, ew, hwr, hBW, hx7, hxl, hx0, hx0', wl, wt, wd, wf, wi, evStore, splice, -Int.natCast_add]
  · obtain rfl : k = szO e.r.ins.op := by omega
    rw [← hB, s_loop_at hB, Nat.sub_self]
    simp [ir_cand_look_bytesl0, go_sem, iu]
termination_by szO e.r.ins.op - k
/-- Is what an event read wrong? -/
def bytE' (img : List Nat) (E : List Ev) (e : Ev) : Bool := lod e.r.ins.op && (decide (zx e.r.rdd.toNat ((8 * szO e.r.ins.op : Nat) : Int) ≠ e.r.rdd.toNat) || (List.range' 0 (szO e.r.ins.op)).any (bytK img E e))
theorem bytes_l1 (hin : ∀ e ∈ evs R, lod e.r.ins.op = true → 0 ≤ adE e.r ∧ adE e.r + (szO e.r.ins.op : Nat) ≤ (img.length : Int)) (hE : (evs R).length ≤ 100000) (i : Nat) (hi : i ≤ (evs R).length) :
    evCI pg (.loop ir_cand_look_bytesl1) ⟨[.undef, .lp 0 0, .undef, .undef, .undef, .undef, .undef, .undef, .undef, u, .int .i64 ((evs R).length : Int), .int .i64 (i : Int), .undef, .undef, .undef, .undef, .undef, .undef, .undef, .undef, .undef], ⟨[xC x0 lv x4 u mid, [], []], [], H⟩⟩ =
      some (if ((evs R).drop i).any (bytE' img (evs R)) = true then (.ret, ⟨[.undef, .undef, .bool true, .undef, .undef, .undef, .undef, .undef, .undef, .undef, .undef, .undef, .undef, .undef, .undef, .undef, .undef, .undef, .undef, .undef, .undef], ⟨[[], [], []], [], H⟩⟩)
        else (.exit 0, ⟨[.undef, .lp 0 0, .undef, .undef, .undef, .undef, .undef, .undef, .undef, u, .int .i64 ((evs R).length : Int), .int .i64 ((evs R).length : Int), .bool false, .undef, .undef, .undef, .undef, .undef, .undef, .undef, .undef], ⟨[xC x0 lv x4 u mid, [], []], [], H⟩⟩)) := by
  obtain ⟨B, hB⟩ : ∃ B, B = Vm.C.loop ir_cand_look_bytesl1 := ⟨_, rfl⟩
  have hb := evs_bd (R := R) fun h hh => (w.li h hh).2.1
  have iu := w.ev.is
  have hur := w.ev.fpR
  by_cases c : i < (evs R).length
  · have e3 := succ_i64 c (by omega)
    have e1 := fun m => w.ev.ia (sz := 33) m .i64 (i := i) (by rw [evR_len]; exact c) (evR_sz _ _ (List.getElem_mem _))
    simp only [evR_el] at e1
    have hd : (evs R).drop i = (evs R)[i] :: (evs R).drop (i + 1) := List.drop_eq_getElem_cons c
    have hbe := hb _ (List.getElem_mem c)
    have hfl := eq_true (evC_flat (evs R)[i])
    have hdef : bytE' img (evs R) (evs R)[i] = (lod ((evs R)[i]).r.ins.op && (decide (zx ((evs R)[i]).r.rdd.toNat ((8 * szO ((evs R)[i]).r.ins.op : Nat) : Int) ≠ ((evs R)[i]).r.rdd.toNat) || (List.range' 0 (szO ((evs R)[i]).r.ins.op)).any (bytK img (evs R) (evs R)[i]))) := rfl
    have hl0 := fun (hl : lod ((evs R)[i]).r.ins.op = true) => bytes_l0 w hm hat (evs R)[i] hbe (hin _ (List.getElem_mem c) hl) i 0 (Nat.zero_le _)
    simp only [Nat.sub_zero, Int.natCast_zero] at hl0
    have h8 := szO_le ((evs R)[i]).r.ins.op
    have em : IntKind.i64.wrap (8 * ((szO ((evs R)[i]).r.ins.op : Nat) : Int)) = ((8 * szO ((evs R)[i]).r.ins.op : Nat) : Int) := by rw [wrap_i64 (by omega) (by omega)]; rfl
    obtain ⟨xn, hxn⟩ : ∃ xn : Nat, ((evs R)[i]).r.rdd = (xn : Int) := ⟨_, (Int.toNat_of_nonneg hbe.rd.1).symm⟩
    have hxlt : xn < 18446744073709551616 := by have := hbe.rd.2; omega
    have hZx := Zext_ok xn ((8 * szO ((evs R)[i]).r.ins.op : Nat) : Int) hxlt
    have hBs := Bytes_ok xn ((szO ((evs R)[i]).r.ins.op : Nat) : Int) hxlt
    have hcl : clm ((szO ((evs R)[i]).r.ins.op : Nat) : Int) = szO ((evs R)[i]).r.ins.op := by unfold clm; omega
    rw [hcl] at hBs
    have hbl := byl_len xn (szO ((evs R)[i]).r.ins.op)
    have hsb := Sl.ils (byV (byl xn (szO ((evs R)[i]).r.ins.op)))
    have hsi := hsb.is
    have hsr : (rows (ils (byV (byl xn (szO ((evs R)[i]).r.ins.op))))).length = szO ((evs R)[i]).r.ins.op := by rw [hsb.rows, byV_len, hbl]
    rw [hd, List.any_cons]
    rw [hxn, Int.toNat_natCast] at hdef
    simp only [hxn, Int.toNat_natCast] at hl0
    have ih := bytes_l1 hin hE (i + 1) (by omega)
    rw [← hB] at ih
    rw [← hB, s_loop_at hB]
    clear hd hin
    generalize (evs R)[i] = e at *
    generalize xC x0 lv x4 u mid = xc at *
    generalize (evs R).length = N at *
    generalize ils (byV (byl xn (szO e.r.ins.op))) = bs at *
    cases q1 : lod e.r.ins.op with
    | false =>
      rw [q1, Bool.false_and] at hdef
      rw [hdef, Bool.false_or, ← ih]
      simp [ir_cand_look_bytesl1, go_sem, c, iu, hur, e1, e3, q1, hfl, evStore, splice, -Int.natCast_add]
    | true =>
      have hl0 := hl0 q1
      rw [q1, Bool.true_and] at hdef
      by_cases q2 : zx xn ((8 * szO e.r.ins.op : Nat) : Int) = xn
      · rw [q2] at hZx
        rw [decide_eq_false (by simpa using q2), Bool.false_or] at hdef
        rw [hdef]
        cases q3 : (List.range' 0 (szO e.r.ins.op)).any (bytK img (evs R) e) with
        | true =>
          rw [q3, if_pos rfl] at hl0
          rw [Bool.true_or, if_pos rfl]
          simp [ir_cand_look_bytesl1, go_sem, c, iu, hur, e1, q1, hxn, hfl, em, hZx, hBs, hsi, hsr, hl0, evStore, splice, -Int.natCast_add, -Int.natCast_mul]
        | false =>
          rw [q3, if_neg (by simp)] at hl0
          rw [Bool.false_or, ← ih]
          simp [ir_cand_look_bytesl1, go_sem, c, iu, hur, e1, e3, q1, hxn, hfl, em, hZx, hBs, hsi, hsr, hl0, evStore, splice, -Int.natCast_add, -Int.natCast_mul]
      · rw [decide_eq_true (by simpa using q2), Bool.true_or] at hdef
        rw [hdef, Bool.true_or, if_pos rfl]
        have q2' : ¬ ((zx xn ((8 * szO e.r.ins.op : Nat) : Int) : Nat) : Int) = (xn : Int) := by omega
        generalize zx xn ((8 * szO e.r.ins.op : Nat) : Int) = zz at *
        simp [ir_cand_look_bytesl1, go_sem, c, iu, hur, e1, q1, hxn, hfl, em, hZx, q2, q2', evStore, splice, -Int.natCast_add, -Int.natCast_mul]
  · obtain rfl : i = (evs R).length := by omega
    rw [← hB, s_loop_at hB, List.drop_length]
    simp [ir_cand_look_bytesl1, go_sem, iu]
termination_by (evs R).length - i
def bytB (R : Nat → List Rt) (img : List Nat) : Bool := (evs R).any (bytE' img (evs R))
theorem bytes_ok (hin : ∀ e ∈ evs R, lod e.r.ins.op = true → 0 ≤ adE e.r ∧ adE e.r + (szO e.r.ins.op : Nat) ≤ (img.length : Int)) : evI pg .heap n_cand_look_bytes [.agg (xC x0 lv x4 u mid)] H = some (.bool (bytB R img), H) := by
  have hE : (evs R).length ≤ 100000 := by
    have := evs_len R
    have h0 := (w.li 0 (by omega)).2.2
    have h1 := (w.li 1 (by omega)).2.2
    have h2 := (w.li 2 (by omega)).2.2
    omega
  have hl1 := bytes_l1 w hm hat hin hE 0 (Nat.zero_le _)
  rw [List.drop_zero, Int.natCast_zero] at hl1
  have i0 := w.im.is
  have i4 := w.co4.is
  have iu := w.ev.is
  have hur : (rows u).length = (evs R).length := by rw [w.ev.rows, evR_len]
  have j0 := (w.li 0 (by omega)).1.is
  have j1 := (w.li 1 (by omega)).1.is
  have j2 := (w.li 2 (by omega)).1.is
  unfold bytB
  unfold xC at *
  rw [s_fn fn_cand_look_bytes]
  cases q : (evs R).any (bytE' img (evs R)) with
  | true =>
    rw [q, if_pos rfl] at hl1
    simp [ir_cand_look_bytes, go_sem, i0, i4, iu, hur, j0, j1, j2, hl1]
  | false =>
    rw [q, if_neg (by simp)] at hl1
    simp [ir_cand_look_bytes, go_sem, i0, i4, iu, hur, j0, j1, j2, hl1]
end
end Go.Proofs.Ytlkcfhpklibnaaa
