/- Layer 20: the document's places and bytes; its check of numbers (no claim; lemmas). -/
import Derived.Test.YtlkcfhpklibnaaaK20u
set_option linter.unusedSimpArgs false
set_option linter.unusedVariables false
set_option maxRecDepth 20000
namespace Go.Proofs.Ytlkcfhpklibnaaa
open Go Go.Vm

theorem rWhere_ok (op addr : Int) (hop : op ≤ 9223372036854775807) (ha : 0 ≤ addr ∧ addr < 18446744073709551616) (len : Nat) (hl : len ≤ 100000) : evI pg .val n_undertowref08_Where [.int .i64 op, .int .u64 addr, .int .i64 (len : Int)] [] = some (.int .i64 (whr op addr len : Nat), []) := by
  have hZ := refSz op hop
  have h8 := szO_le op
  unfold whr
  rw [s_fn fn_undertowref08_Where]
  generalize szO op = z at *
  obtain ⟨a, rfl⟩ : ∃ a : Nat, addr = (a : Int) := ⟨addr.toNat, (Int.toNat_of_nonneg ha.1).symm⟩
  have w1 : IntKind.u64.wrap (z : Int) = (z : Int) := wrap_u64' (by omega)
  rw [Int.toNat_natCast]
  by_cases c : z = 0
  · subst c
    simp [ir_undertowref08_Where, go_sem, hZ]
  · have c' : ¬ (z : Int) = 0 := by omega
    have t1 : ((a : Int)).tdiv (z : Int) = ((a / z : Nat) : Int) := by rw [Int.tdiv_eq_ediv_of_nonneg (by omega)]; rfl
    have hdm := Nat.div_add_mod a z
    have hle : a / z ≤ a := Nat.div_le_self a z
    have w2 : IntKind.u64.wrap ((a / z : Nat) : Int) = ((a / z : Nat) : Int) := wrap_u64' (by omega)
    have w3 : IntKind.u64.wrap (((a / z : Nat) : Int) * (z : Int)) = ((a / z * z : Nat) : Int) := by
      rw [← Int.natCast_mul]
      have : a / z * z ≤ a := Nat.div_mul_le_self a z
      exact wrap_u64' (by omega)
    by_cases d : a % z = 0
    · have d2 : a / z * z = a := by rw [Nat.mul_comm]; omega
      by_cases f : len < z
      · have f' : (len : Int) < (z : Int) := by omega
        simp [ir_undertowref08_Where, go_sem, hZ, w1, w2, w3, c, c', t1, d, d2, f, f', -Int.natCast_ediv, -Int.natCast_mul]
      · have f' : ¬ (len : Int) < (z : Int) := by omega
        have w5 : IntKind.i64.wrap ((len : Int) - (z : Int)) = ((len - z : Nat) : Int) := by
          rw [wrap_i64 (by omega) (by omega)]
          omega
        by_cases b : 9000000000000000000 < a
        · have b' : (9000000000000000000 : Int) < (a : Int) := by omega
          have g : len - z < a := by omega
          simp [ir_undertowref08_Where, go_sem, hZ, w1, w2, w3, w5, c, c', t1, d, d2, f, f', b, b', g, -Int.natCast_ediv, -Int.natCast_mul]
        · have b' : ¬ (9000000000000000000 : Int) < (a : Int) := by omega
          have b2 : (a : Int) ≤ 9000000000000000000 := by omega
          have w6 : IntKind.i64.wrap (a : Int) = (a : Int) := wrap_i64 (by omega) (by omega)
          by_cases g : len - z < a
          · have g' : ((len - z : Nat) : Int) < (a : Int) := by omega
            simp [ir_undertowref08_Where, go_sem, hZ, w1, w2, w3, w5, w6, c, c', t1, d, d2, f, f', b, b', b2, g, g', -Int.natCast_ediv, -Int.natCast_mul]
          · have g' : ¬ ((len - z : Nat) : Int) < (a : Int) := by omega
            have g2 : (a : Int) ≤ ((len - z : Nat) : Int) := by omega
            simp [ir_undertowref08_Where, go_sem, hZ, w1, w2, w3, w5, w6, c, c', t1, d, d2, f, f', b, b', b2, g, g', g2, -Int.natCast_ediv, -Int.natCast_mul]
    · have d2 : ¬ a / z * z = a := by rw [Nat.mul_comm]; omega
      have d3 : ¬ ((a / z * z : Nat) : Int) = (a : Int) := by omega
      generalize a / z * z = q at *
      simp [ir_undertowref08_Where, go_sem, hZ, w1, w2, w3, c, c', t1, d, d2, d3, -Int.natCast_ediv, -Int.natCast_mul]
theorem rHas_ok (e : Ev) (hb : Bd e.r) (at_ : Int) (ha : -100000 ≤ at_ ∧ at_ ≤ 100000) : evI pg .val n_undertowref20_Has [.agg (evC e), .int .i64 at_] [] = some (.bool (hasB e at_), []) := by
  have had := adE_le hb.ad.1
  have h8 := szO_le e.r.ins.op
  have hw : IntKind.i64.wrap (adE e.r + ((szO e.r.ins.op : Nat) : Int)) = adE e.r + (szO e.r.ins.op : Nat) := wrap_i64 (by omega) (by omega)
  have hw2 : IntKind.i64.wrap (adE e.r + ((szO e.r.ins.op : Nat) : Int) - 1) = adE e.r + (szO e.r.ins.op : Nat) - 1 := wrap_i64 (by omega) (by omega)
  unfold hasB
  rw [s_fn fn_undertowref20_Has]
  by_cases c : 0 ≤ adE e.r
  · by_cases d : adE e.r ≤ at_
    · by_cases f : at_ - adE e.r < (szO e.r.ins.op : Nat)
      · have f' : at_ ≤ adE e.r + ((szO e.r.ins.op : Nat) : Int) - 1 := by omega
        simp [ir_undertowref20_Has, go_sem, c, d, f, f', hw, hw2, V.cells, V.exp, loadAt]
      · have f' : ¬ at_ ≤ adE e.r + ((szO e.r.ins.op : Nat) : Int) - 1 := by omega
        have f2 : adE e.r + ((szO e.r.ins.op : Nat) : Int) - 1 < at_ := by omega
        simp [ir_undertowref20_Has, go_sem, c, d, f, f', f2, hw, hw2, V.cells, V.exp, loadAt]
    · simp [ir_undertowref20_Has, go_sem, c, d, V.cells, V.exp, loadAt]
  · simp [ir_undertowref20_Has, go_sem, c, V.cells, V.exp, loadAt]
theorem rByte_ok (e : Ev) (hb : Bd e.r) (at_ : Int) (ha : -100000 ≤ at_ ∧ at_ ≤ 100000) : evI pg .val n_undertowref20_Byte [.agg (evC e), .int .i64 at_] [] = some (.tup [.int .u8 (bytE e at_ : Nat), .bool (bh e at_)], []) := by
  have hh := rHas_ok e hb at_ ha
  have had := adE_le hb.ad.1
  have h8 := szO_le e.r.ins.op
  have hfl := eq_true (evC_flat e)
  have n1 : ¬ (9000000000000000000 : Int) < adE e.r := by omega
  have n1' : adE e.r ≤ (9000000000000000000 : Int) := by omega
  have n2 : ¬ (100 : Int) < ((szO e.r.ins.op : Nat) : Int) := by omega
  have n2' : ((szO e.r.ins.op : Nat) : Int) ≤ 100 := by omega
  have n3 : ¬ 100 < szO e.r.ins.op := by omega
  have n3' : szO e.r.ins.op ≤ 100 := by omega
  unfold bytE bh
  rw [s_fn fn_undertowref20_Byte]
  cases s : sto e.r.ins.op with
  | false => simp [ir_undertowref20_Byte, go_sem, s, V.cells, V.exp]
  | true =>
    by_cases c0 : adE e.r < 0
    · have hf : hasB e at_ = false := by
        unfold hasB
        rw [decide_eq_false (by omega)]
        rfl
      rw [hf]
      simp [ir_undertowref20_Byte, go_sem, s, c0, V.cells, V.exp]
    · cases q : hasB e at_ with
      | false =>
        rw [q] at hh
        simp [ir_undertowref20_Byte, go_sem, s, c0, n1, n1', n2, n2', n3, n3', hh, V.cells, V.exp]
      | true =>
        rw [q] at hh
        obtain ⟨h0, d, hd, rfl⟩ := hasB_pos q
        obtain ⟨wn, hwn⟩ : ∃ wn : Nat, e.r.wro = (wn : Int) := ⟨e.r.wro.toNat, (Int.toNat_of_nonneg hb.wr.1).symm⟩
        have e1 : IntKind.i64.wrap (adE e.r + (d : Int) - adE e.r) = (d : Int) := by rw [show adE e.r + (d : Int) - adE e.r = (d : Int) by omega]; exact wrap_i64 (by omega) (by omega)
        have e2 : IntKind.i64.wrap (8 * (d : Int)) = ((8 * d : Nat) : Int) := by rw [wrap_i64 (by omega) (by omega)]; rfl
        have e2' : IntKind.u64.wrap ((8 * d : Nat) : Int) = ((8 * d : Nat) : Int) := wrap_u64' (by omega)
        have e3 : (adE e.r + (d : Int) - adE e.r).toNat = d := by omega
        have e4 : ¬ ((8 * d : Nat) : Int) < 0 := by omega
        have e5 : Nat.min (8 * d) 64 = 8 * d := Nat.min_eq_left (by omega)
        have e5' : min (8 * d) 64 = 8 * d := Nat.min_eq_left (by omega)
        have e6 := shr_nat wn (8 * d)
        have e7 : IntKind.u8.wrap ((wn / 2 ^ (8 * d) : Nat) : Int) = ((wn / 2 ^ (8 * d) % 256 : Nat) : Int) := by
          generalize wn / 2 ^ (8 * d) = x
          rw [wrap_u8]
        have e8 : IntKind.u64.bits = 64 := rfl
        rw [e3, hwn, Int.toNat_natCast]
        simp [ir_undertowref20_Byte, go_sem, s, c0, n1, n1', n2, n2', n3, n3', hh, hwn, e1, e2, e2', e4, e5, e5', e6, e7, e8, V.cells, V.exp, -Int.natCast_mul, -Int.natCast_ediv, -Int.natCast_emod, -Int.natCast_pow]
/-! ### all that retired -/
theorem osl_ia {A : List Rt} {k : Nat} (h : k < A.length) (m : Mem) : iaSV 27 m (.osl false 0 (rwR A)) (.int .i64 (k : Int)) = some (.ip false (rC A[k]) 0) := by
  have hg := rwR_get (List.getElem?_eq_getElem h)
  have hl : (k : Int) < ((rwR A).length : Int) := by rw [rwR_len]; omega
  have hl' : k < (rwR A).length := by rw [rwR_len]; exact h
  have : asIx (rwR A).length (.int .i64 (k : Int)) = some k := by
    unfold asIx
    have h0 : (0 : Int) ≤ (k : Int) := by omega
    simp [h0, hl, hl']
  simp only [iaSV, this, hg, rC_len, if_true]
section
variable {x0 : V} {lv : Nat → V} {x4 u : V} {R : Nat → List Rt} {img : List Nat} {cv : List V} {co : List (List Int)} (w : Lk x0 lv x4 u R img cv co) (h60 : ∀ h, h < 3 → (R h).length ≤ 60)
include w h60
theorem app_all {a : List Rt} {h : Nat} (hh : h < 3) (ha : a.length ≤ 1000) (vs : List (List V)) (k1 : Nat) : appV 2 27 208 ⟨vs, [a.length, k1], []⟩ (.osl false 0 (rwR a)) (lv h) = some (.osl false 0 (rwR (a ++ R h)), ⟨vs, [(a ++ R h).length, k1], []⟩) := by
  have hv := (w.li h hh).1
  have hs := S_src (m := ⟨vs, [a.length, k1], []⟩) hv.is
  have h6 := h60 h hh
  have e1 : rwR a ++ rwR (R h) = rwR (a ++ R h) := by simp [rwR]
  have him : immAll (rwR (a ++ R h)) = true := by
    simp only [immAll, rwR, List.all_eq_true, List.mem_map]
    rintro _ ⟨r, _, rfl⟩
    exact rC_all r (fun v => v.imm = true) (fun _ _ => rfl) (fun _ => rfl) (fun _ => rfl)
  unfold appV
  rw [hs, hv.rows]
  simp only [e1, rwR_len, him, rwR_szA7, fits_of (b := 208) (n := a.length + (R h).length) (by omega) (by omega), Bool.and_self, if_true, Bool.false_eq_true, if_false, List.getElem?_cons_zero, List.length_append]
  simp
theorem rChk_l0 (h : Nat) (hh : h ≤ 3) (a : List Rt) (ha : a.length ≤ 60 * h) :
    evCI pg (.loop ir_undertowref20_Checkl0) ⟨[.undef, .lp 0 0, .undef, .osl false 0 (rwR a), .int .i64 (h : Int), .undef, .undef, .undef, .undef, .undef, .undef, .undef, .undef, .undef, .undef, .undef, .undef, .undef, .undef, .undef, .undef, .undef, .undef, .undef, .undef, .undef, .undef, .undef, .undef, .undef, .undef, .undef, .undef, .undef, .undef, .undef, .undef, .undef, .undef, .undef, .undef, .undef, .undef, .undef, .undef, .undef, .undef, .undef, .undef, .undef, .undef, .undef, .undef, .undef, .undef, .undef, .undef, .undef, .undef, .undef, .undef, .undef, .undef, .undef, .undef, .undef, .undef, .undef], ⟨[[x0, lv 0, lv 1, lv 2, x4], []], [a.length, 0], []⟩⟩ =
      some (.exit 0, ⟨[.undef, .lp 0 0, .undef, .osl false 0 (rwR (a ++ (List.range' h (3 - h)).flatMap fun k => R k)), .int .i64 3, .undef, .undef, .undef, .undef, .undef, .undef, .undef, .undef, .undef, .undef, .undef, .undef, .undef, .undef, .undef, .undef, .undef, .undef, .undef, .undef, .undef, .undef, .undef, .undef, .undef, .undef, .undef, .undef, .bool false, .undef, .undef, .undef, .undef, .undef, .undef, .undef, .undef, .undef, .undef, .undef, .undef, .undef, .undef, .undef, .undef, .undef, .undef, .undef, .undef, .undef, .undef, .undef, .undef, .undef, .undef, .undef, .undef, .undef, .undef, .undef, .undef, .undef, .undef], ⟨[[x0, lv 0, lv 1, lv 2, x4], []], [(a ++ (List.range' h (3 - h)).flatMap fun k => R k).length, 0], []⟩⟩) := by
  obtain ⟨B, hB⟩ : ∃ B, B = Vm.C.loop ir_undertowref20_Checkl0 := ⟨_, rfl⟩
  by_cases c : h < 3
  · have e3 := succ_i64 c (by omega)
    have h6 := h60 h c
    have hd : List.range' h (3 - h) = h :: List.range' (h + 1) (3 - (h + 1)) := by
      have : 3 - h = (3 - (h + 1)) + 1 := by omega
      rw [this, List.range'_succ]
    have hv := (w.li h c).1
    have hrl : (rows (lv h)).length = (R h).length := by rw [hv.rows, rwR_len]
    have hi := hv.is
    have ih := rChk_l0 (h + 1) (by omega) (a ++ R h) (by rw [List.length_append]; omega)
    have happ := app_all w h60 (a := a) c (by omega) [[x0, lv 0, lv 1, lv 2, x4], []] 0
    have c2 : (h : Int) < 3 := by omega
    have c3 : h ≤ 2 := by omega
    have c5 : ¬ (512 : Int) < ((R h).length : Int) := by omega
    have c5' : ((R h).length : Int) ≤ 512 := by omega
    have c6 : ¬ 512 < (R h).length := by omega
    have c6' : (R h).length ≤ 512 := by omega
    rw [hd, List.flatMap_cons, ← List.append_assoc, ← ih, ← hB]
    conv => lhs; rw [s_loop_at hB]
    clear ih hd
    rcases lt3 c with rfl | rfl | rfl <;> simp at e3 <;> simp [ir_undertowref20_Checkl0, go_sem, c, c2, c3, c5, c5', c6, c6', e3, hi, hrl, happ, -List.length_append]
  · obtain rfl : h = 3 := by omega
    rw [← hB, s_loop_at hB]
    simp [ir_undertowref20_Checkl0, go_sem]
termination_by 3 - h
omit w h60 in
theorem rChk_l1 (A : List Rt) (hA : A.length ≤ 1000) (i : Nat) (hi : i < A.length) (k : Nat) (hk : k ≤ i) (cs : List V) :
    evCI pg (.loop ir_undertowref20_Checkl1) ⟨[.undef, .lp 0 0, .undef, .osl false 0 (rwR A), .undef, .int .i64 (i : Int), .int .i64 (k : Int), .undef, .undef, .undef, .undef, .undef, .undef, .undef, .undef, .undef, .undef, .undef, .undef, .undef, .undef, .undef, .undef, .undef, .undef, .undef, .undef, .undef, .undef, .undef, .undef, .undef, .undef, .undef, .undef, .undef, .undef, .undef, .undef, .undef, .undef, .undef, .undef, .undef, .undef, .undef, .undef, .undef, .undef, .undef, .undef, .undef, .undef, .undef, .undef, .undef, .undef, .undef, .undef, .undef, .undef, .undef, .undef, .undef, .undef, .undef, .undef, .undef], ⟨[cs, []], [A.length, 0], []⟩⟩ =
      some (if (List.range' k (i - k)).any (fun k => decide ((A[k]?).map Rt.id = some (A[i]).id)) = true then (.ret, ⟨[.undef, .undef, .int .i64 3, .undef, .undef, .undef, .undef, .undef, .undef, .undef, .undef, .undef, .undef, .undef, .undef, .undef, .undef, .undef, .undef, .undef, .undef, .undef, .undef, .undef, .undef, .undef, .undef, .undef, .undef, .undef, .undef, .undef, .undef, .undef, .undef, .undef, .undef, .undef, .undef, .undef, .undef, .undef, .undef, .undef, .undef, .undef, .undef, .undef, .undef, .undef, .undef, .undef, .undef, .undef, .undef, .undef, .undef, .undef, .undef, .undef, .undef, .undef, .undef, .undef, .undef, .undef, .undef, .undef], ⟨[[], []], [0, 0], []⟩⟩)
        else (.exit 4, ⟨[.undef, .lp 0 0, .undef, .osl false 0 (rwR A), .undef, .int .i64 (i : Int), .int .i64 (i : Int), .undef, .undef, .undef, .undef, .undef, .undef, .undef, .undef, .undef, .undef, .undef, .undef, .undef, .undef, .undef, .undef, .undef, .undef, .undef, .undef, .undef, .undef, .undef, .undef, .undef, .undef, .undef, .undef, .undef, .undef, .bool false, .undef, .undef, .undef, .undef, .undef, .undef, .undef, .undef, .undef, .undef, .undef, .undef, .undef, .undef, .undef, .undef, .undef, .undef, .undef, .undef, .undef, .undef, .undef, .undef, .undef, .undef, .undef, .undef, .undef, .undef], ⟨[cs, []], [A.length, 0], []⟩⟩)) := by
  obtain ⟨B, hB⟩ : ∃ B, B = Vm.C.loop ir_undertowref20_Checkl1 := ⟨_, rfl⟩
  by_cases c : k < i
  · have e3 := succ_i64 c (by omega)
    have hd : List.range' k (i - k) = k :: List.range' (k + 1) (i - (k + 1)) := by
      have : i - k = (i - (k + 1)) + 1 := by omega
      rw [this, List.range'_succ]
    have hkA : k < A.length := by omega
    have e1 := osl_ia hkA
    have e2 := osl_ia hi
    have ck : (k : Int) < (i : Int) := by omega
    rw [hd, List.any_cons, List.getElem?_eq_getElem hkA]
    have ih := rChk_l1 A hA i hi (k + 1) (by omega) cs
    rw [← hB] at ih
    rw [← hB, s_loop_at hB]
    clear hd
    by_cases q : (A[k]).id = (A[i]).id
    · have hq : (Option.map Rt.id (some A[k]) = some (A[i]).id) = True := by simp [q]
      rw [decide_eq_true (by rw [hq]; trivial), Bool.true_or, if_pos rfl]
      generalize A[k] = r at *
      generalize A[i] = s at *
      generalize rwR A = es at *
      generalize A.length = N at *
      simp [ir_undertowref20_Checkl1, go_sem, c, ck, e1, e2, q, -Int.natCast_add]
    · have hq : ¬ (Option.map Rt.id (some A[k]) = some (A[i]).id) := by simp [q]
      rw [decide_eq_false hq, Bool.false_or, ← ih]
      clear ih
      generalize A[k] = r at *
      generalize A[i] = s at *
      generalize rwR A = es at *
      generalize A.length = N at *
      simp [ir_undertowref20_Checkl1, go_sem, c, ck, e1, e2, e3, q, -Int.natCast_add]
  · obtain rfl : k = i := by omega
    rw [← hB, s_loop_at hB, Nat.sub_self]
    generalize rwR A = es at *
    simp [ir_undertowref20_Checkl1, go_sem]
termination_by i - k
/-- May a number not be, or was it there before? -/
def idsI (A : List Rt) (i : Nat) : Bool := match A[i]? with
  | some r => (List.range' 0 i).any (fun k => decide ((A[k]?).map Rt.id = some r.id)) || decide (r.id < 0)
  | none => false
omit w h60 in
theorem rChk_l2 (A : List Rt) (hA : A.length ≤ 1000) (i : Nat) (hi : i ≤ A.length) (cs : List V) :
    evCI pg (.loop ir_undertowref20_Checkl2) ⟨[.undef, .lp 0 0, .undef, .osl false 0 (rwR A), .undef, .int .i64 (i : Int), .undef, .undef, .undef, .undef, .undef, .undef, .undef, .undef, .undef, .undef, .undef, .undef, .undef, .undef, .undef, .undef, .undef, .undef, .undef, .undef, .undef, .undef, .undef, .undef, .undef, .undef, .undef, .undef, .undef, .undef, .undef, .undef, .undef, .undef, .undef, .undef, .undef, .undef, .undef, .undef, .undef, .undef, .undef, .undef, .undef, .undef, .undef, .undef, .undef, .undef, .undef, .undef, .undef, .undef, .undef, .undef, .undef, .undef, .undef, .undef, .undef, .undef], ⟨[cs, []], [A.length, 0], []⟩⟩ =
      some (if (List.range' i (A.length - i)).any (idsI A) = true then (.ret, ⟨[.undef, .undef, .int .i64 3, .undef, .undef, .undef, .undef, .undef, .undef, .undef, .undef, .undef, .undef, .undef, .undef, .undef, .undef, .undef, .undef, .undef, .undef, .undef, .undef, .undef, .undef, .undef, .undef, .undef, .undef, .undef, .undef, .undef, .undef, .undef, .undef, .undef, .undef, .undef, .undef, .undef, .undef, .undef, .undef, .undef, .undef, .undef, .undef, .undef, .undef, .undef, .undef, .undef, .undef, .undef, .undef, .undef, .undef, .undef, .undef, .undef, .undef, .undef, .undef, .undef, .undef, .undef, .undef, .undef], ⟨[[], []], [0, 0], []⟩⟩)
        else (.exit 2, ⟨[.undef, .lp 0 0, .undef, .osl false 0 (rwR A), .undef, .int .i64 (A.length : Int), .undef, .undef, .undef, .undef, .undef, .undef, .undef, .undef, .undef, .undef, .undef, .undef, .undef, .undef, .undef, .undef, .undef, .undef, .undef, .undef, .undef, .undef, .undef, .undef, .undef, .undef, .undef, .undef, .undef, .undef, .bool false, .undef, .undef, .undef, .undef, .undef, .undef, .undef, .undef, .undef, .undef, .undef, .undef, .undef, .undef, .undef, .undef, .undef, .undef, .undef, .undef, .undef, .undef, .undef, .undef, .undef, .undef, .undef, .undef, .undef, .undef, .undef], ⟨[cs, []], [A.length, 0], []⟩⟩)) := by
  obtain ⟨B, hB⟩ : ∃ B, B = Vm.C.loop ir_undertowref20_Checkl2 := ⟨_, rfl⟩
  have hlr := rwR_len A
  by_cases c : i < A.length
  · have e3 := succ_i64 c (by omega)
    have hd : List.range' i (A.length - i) = i :: List.range' (i + 1) (A.length - (i + 1)) := by
      have : A.length - i = (A.length - (i + 1)) + 1 := by omega
      rw [this, List.range'_succ]
    have e2 := osl_ia c
    have hl1 := rChk_l1 A hA i c 0 (Nat.zero_le _) cs
    rw [Nat.sub_zero, Int.natCast_zero] at hl1
    have hdef : idsI A i = ((List.range' 0 i).any (fun k => decide ((A[k]?).map Rt.id = some (A[i]).id)) || decide ((A[i]).id < 0)) := by
      unfold idsI
      rw [List.getElem?_eq_getElem c]
    rw [hd, List.any_cons, hdef]
    have ih := rChk_l2 A hA (i + 1) (by omega) cs
    rw [← hB] at ih
    rw [← hB, s_loop_at hB]
    clear hd hdef
    generalize (List.range' 0 i).any (fun k => decide ((A[k]?).map Rt.id = some (A[i]).id)) = b at *
    cases b with
    | true =>
      rw [if_pos rfl] at hl1
      rw [Bool.true_or, Bool.true_or, if_pos rfl]
      clear ih
      generalize A[i] = s at *
      generalize rwR A = es at *
      generalize A.length = N at *
      simp [ir_undertowref20_Checkl2, go_sem, c, hlr, hl1, -Int.natCast_add]
    | false =>
      rw [if_neg (by simp)] at hl1
      rw [Bool.false_or]
      by_cases q : (A[i]).id < 0
      · rw [decide_eq_true q, Bool.true_or, if_pos rfl]
        clear ih
        generalize A[i] = s at *
        generalize rwR A = es at *
        generalize A.length = N at *
        simp [ir_undertowref20_Checkl2, go_sem, c, hlr, hl1, e2, q, -Int.natCast_add]
      · rw [decide_eq_false q, Bool.false_or, ← ih]
        clear ih
        generalize A[i] = s at *
        generalize rwR A = es at *
        generalize A.length = N at *
        simp [ir_undertowref20_Checkl2, go_sem, c, hlr, hl1, e2, e3, q, -Int.natCast_add]
  · obtain rfl : i = A.length := by omega
    rw [← hB, s_loop_at hB, Nat.sub_self]
    generalize rwR A = es at *
    simp [ir_undertowref20_Checkl2, go_sem, hlr]
termination_by A.length - i
end
end Go.Proofs.Ytlkcfhpklibnaaa
