/- Layer 20: the document's check of bytes (no claim; lemmas). -/
import Derived.Test.YtlkcfhpklibnaaaK20w
set_option linter.unusedSimpArgs false
set_option linter.unusedVariables false
set_option maxRecDepth 20000
namespace Go.Proofs.Ytlkcfhpklibnaaa
open Go Go.Vm

/-- What the store of a number made of a byte; the first of the number. -/
def fdV (E : List Ev) (n at_ : Int) : Nat := match fid E n with
  | some j => match E[j]? with
    | some e => bytE e at_
    | none => 0
  | none => 0
def wantD (img : List Nat) (E : List Ev) (e : Ev) (j : Nat) : Nat := if j < szO e.r.ins.op then (if e.r.tg j = -1 then img.getD (adE e.r + j).toNat 0 else fdV E (e.r.tg j) (adE e.r + j)) else 0
def bytJ (img : List Nat) (E : List Ev) (e : Ev) (j : Nat) : Bool := decide (e.r.rdd.toNat / 2 ^ (8 * j) % 256 ≠ wantD img E e j)
section
variable {x0 : V} {lv : Nat → V} {x4 u : V} {R : Nat → List Rt} {img : List Nat} {cv : List V} {co : List (List Int)} (w : Lk x0 lv x4 u R img cv co) (hE : (evs R).length ≤ 100000)
include w hE
omit hE in
theorem rChk_l8n (i : Nat) (hi : i < (evs R).length) (hl : lod ((evs R)[i]).r.ins.op = false) :
    evCI pg (.loop ir_undertowref20_Checkl8) ⟨[.undef, .lp 0 0, .undef, .undef, .undef, .undef, .undef, u, .undef, .undef, .undef, .undef, .undef, .undef, .undef, .undef, .undef, .int .i64 (i : Int), .int .i64 0, .undef, .undef, .undef, .undef, .undef, .undef, .undef, .undef, .undef, .undef, .undef, .undef, .undef, .undef, .undef, .undef, .undef, .undef, .undef, .undef, .undef, .undef, .undef, .undef, .undef, .undef, .undef, .undef, .undef, .undef, .undef, .undef, .undef, .undef, .undef, .undef, .undef, .undef, .undef, .undef, .undef, .undef, .undef, .undef, .undef, .undef, .undef, .undef, .undef], ⟨[[x0, lv 0, lv 1, lv 2, x4], []], [0, 0], []⟩⟩ = some (.exit 18, ⟨[.undef, .lp 0 0, .undef, .undef, .undef, .undef, .undef, u, .undef, .undef, .undef, .undef, .undef, .undef, .undef, .undef, .undef, .int .i64 (i : Int), .int .i64 0, .undef, .undef, .undef, .undef, .undef, .undef, .undef, .undef, .undef, .undef, .undef, .undef, .undef, .undef, .undef, .undef, .undef, .undef, .undef, .undef, .undef, .undef, .undef, .undef, .undef, .undef, .undef, .undef, .undef, .undef, .undef, .bool false, .undef, .undef, .undef, .undef, .undef, .undef, .undef, .undef, .undef, .undef, .undef, .undef, .undef, .undef, .undef, .undef, .undef], ⟨[[x0, lv 0, lv 1, lv 2, x4], []], [0, 0], []⟩⟩) := by
  rw [s_loop]
  have iu := w.ev.is
  have huf := w.ev.fpR
  have e1 := fun m => w.ev.ia (sz := 33) m .i64 (i := i) (by rw [evR_len]; exact hi) (evR_sz _ _ (List.getElem_mem _))
  simp only [evR_el] at e1
  generalize (evs R)[i] = e at *
  simp [ir_undertowref20_Checkl8, go_sem, iu, huf, e1, hl]
set_option maxHeartbeats 4000000 in
theorem rChk_l8 (i : Nat) (hi : i < (evs R).length) (hl : lod ((evs R)[i]).r.ins.op = true) (hin : 0 ≤ adE ((evs R)[i]).r ∧ adE ((evs R)[i]).r + (szO ((evs R)[i]).r.ins.op : Nat) ≤ (img.length : Int))
    (hfd : ∀ j, j < szO ((evs R)[i]).r.ins.op → ((evs R)[i]).r.tg j ≠ -1 → ∃ f, fid (evs R) (((evs R)[i]).r.tg j) = some f) (j : Nat) (hj : j ≤ 8) :
    evCI pg (.loop ir_undertowref20_Checkl8) ⟨[.undef, .lp 0 0, .undef, .undef, .undef, .undef, .undef, u, .undef, .undef, .undef, .undef, .undef, .undef, .undef, .undef, .undef, .int .i64 (i : Int), .int .i64 (j : Int), .undef, .undef, .undef, .undef, .undef, .undef, .undef, .undef, .undef, .undef, .undef, .undef, .undef, .undef, .undef, .undef, .undef, .undef, .undef, .undef, .undef, .undef, .undef, .undef, .undef, .undef, .undef, .undef, .undef, .undef, .undef, .undef, .undef, .undef, .undef, .undef, .undef, .undef, .undef, .undef, .undef, .undef, .undef, .undef, .undef, .undef, .undef, .undef, .undef], ⟨[[x0, lv 0, lv 1, lv 2, x4], []], [0, 0], []⟩⟩ =
      some (if (List.range' j (8 - j)).any (bytJ img (evs R) (evs R)[i]) = true then (.ret, ⟨[.undef, .undef, .int .i64 6, .undef, .undef, .undef, .undef, .undef, .undef, .undef, .undef, .undef, .undef, .undef, .undef, .undef, .undef, .undef, .undef, .undef, .undef, .undef, .undef, .undef, .undef, .undef, .undef, .undef, .undef, .undef, .undef, .undef, .undef, .undef, .undef, .undef, .undef, .undef, .undef, .undef, .undef, .undef, .undef, .undef, .undef, .undef, .undef, .undef, .undef, .undef, .undef, .undef, .undef, .undef, .undef, .undef, .undef, .undef, .undef, .undef, .undef, .undef, .undef, .undef, .undef, .undef, .undef, .undef], ⟨[[], []], [0, 0], []⟩⟩)
        else (.exit 18, ⟨[.undef, .lp 0 0, .undef, .undef, .undef, .undef, .undef, u, .undef, .undef, .undef, .undef, .undef, .undef, .undef, .undef, .undef, .int .i64 (i : Int), .int .i64 8, .undef, .undef, .undef, .undef, .undef, .undef, .undef, .undef, .undef, .undef, .undef, .undef, .undef, .undef, .undef, .undef, .undef, .undef, .undef, .undef, .undef, .undef, .undef, .undef, .undef, .undef, .undef, .undef, .undef, .undef, .undef, .bool false, .undef, .undef, .undef, .undef, .undef, .undef, .undef, .undef, .undef, .undef, .undef, .undef, .undef, .undef, .undef, .undef, .undef], ⟨[[x0, lv 0, lv 1, lv 2, x4], []], [0, 0], []⟩⟩)) := by
  obtain ⟨B, hB⟩ : ∃ B, B = Vm.C.loop ir_undertowref20_Checkl8 := ⟨_, rfl⟩
  have hb := evs_bd (R := R) fun h hh => (w.li h hh).2.1
  have iu := w.ev.is
  have huf := w.ev.fpR
  have huf0 := w.im.fpR
  have e1 := fun m => w.ev.ia (sz := 33) m .i64 (i := i) (by rw [evR_len]; exact hi) (evR_sz _ _ (List.getElem_mem _))
  simp only [evR_el] at e1
  have h8 := szO_le ((evs R)[i]).r.ins.op
  by_cases c : j < 8
  · have e3 := succ_i64 c (by omega)
    have hd : List.range' j (8 - j) = j :: List.range' (j + 1) (8 - (j + 1)) := by
      have : 8 - j = (8 - (j + 1)) + 1 := by omega
      rw [this, List.range'_succ]
    have c8 : (j : Int) < 8 := by omega
    have k7 : j ≤ 7 := by omega
    have k28 : 20 + j < 33 := by omega
    have ht := evC_tgq (evs R)[i] c
    have ht' := get_all ht
    have hbe := hb _ (List.getElem_mem hi)
    have had := adE_le hbe.ad.1
    have hF := rFind_ok w.ev hE (((evs R)[i]).r.tg j)
    have hdef : bytJ img (evs R) (evs R)[i] j = decide (((evs R)[i]).r.rdd.toNat / 2 ^ (8 * j) % 256 ≠ wantD img (evs R) (evs R)[i] j) := rfl
    have hwd : wantD img (evs R) (evs R)[i] j = if j < szO ((evs R)[i]).r.ins.op then (if ((evs R)[i]).r.tg j = -1 then img.getD (adE ((evs R)[i]).r + j).toNat 0 else fdV (evs R) (((evs R)[i]).r.tg j) (adE ((evs R)[i]).r + j)) else 0 := rfl
    have ih := rChk_l8 i hi hl hin hfd (j + 1) (by omega)
    rw [hd, List.any_cons, hdef]
    rw [← hB] at ih
    rw [← hB, s_loop_at hB]
    clear hd hdef
    have hbw : ∀ a (ha : a < (evs R).length), (∀ m, iaSV 33 m u (.int .i64 (a : Int)) = some (.ip (tg u) (evC (evs R)[a]) 0)) ∧ evI pg .val n_undertowref20_Byte [.agg (evC (evs R)[a]), .int .i64 (adE ((evs R)[i]).r + j)] [] = some (.tup [.int .u8 (bytE (evs R)[a] (adE ((evs R)[i]).r + j) : Nat), .bool (bh (evs R)[a] (adE ((evs R)[i]).r + j))], []) := fun a ha => by
      refine ⟨fun m => ?_, rByte_ok _ (hb _ (List.getElem_mem ha)) _ (by omega)⟩
      have q := w.ev.ia (sz := 33) m .i64 (i := a) (by rw [evR_len]; exact ha) (evR_sz _ _ (List.getElem_mem _))
      rwa [evR_el] at q
    have fb : ∀ n a, fdV (evs R) n a = match fid (evs R) n with
      | some j => match (evs R)[j]? with
        | some e => bytE e a
        | none => 0
      | none => 0 := fun n a => rfl
    have hfj := hfd j
    clear hfd
    generalize (evs R)[i] = e at *
    obtain ⟨rn, hrn⟩ : ∃ rn : Nat, e.r.rdd = (rn : Int) := ⟨e.r.rdd.toNat, (Int.toNat_of_nonneg hbe.rd.1).symm⟩
    have hrn2 : e.r.rdd.toNat = rn := by omega
    rw [hrn2]
    have m1 : IntKind.i64.wrap (8 * (j : Int)) = ((8 * j : Nat) : Int) := by rw [wrap_i64 (by omega) (by omega)]; rfl
    have m2 : IntKind.u64.wrap ((8 * j : Nat) : Int) = ((8 * j : Nat) : Int) := wrap_u64' (by omega)
    have m4 : ¬ ((8 * j : Nat) : Int) < 0 := by omega
    have m5 : Nat.min (8 * j) 64 = 8 * j := Nat.min_eq_left (by omega)
    have m5' : min (8 * j) 64 = 8 * j := Nat.min_eq_left (by omega)
    have m6 := shr_nat rn (8 * j)
    have m7 : IntKind.u8.wrap ((rn / 2 ^ (8 * j) : Nat) : Int) = ((rn / 2 ^ (8 * j) % 256 : Nat) : Int) := by
      generalize rn / 2 ^ (8 * j) = x
      rw [wrap_u8]
    have m8 : IntKind.u64.bits = 64 := rfl
    generalize hbv : rn / 2 ^ (8 * j) % 256 = bv at *
    obtain ⟨a, haN⟩ : ∃ a : Nat, adE e.r = (a : Int) := ⟨(adE e.r).toNat, (Int.toNat_of_nonneg hin.1).symm⟩
    by_cases z : j < szO e.r.ins.op
    · have z' : (j : Int) < ((szO e.r.ins.op : Nat) : Int) := by omega
      have al : a + j < img.length := by omega
      have hak : adE e.r + (j : Int) = ((a + j : Nat) : Int) := by omega
      have ew : IntKind.i64.wrap ((a : Int) + (j : Int)) = ((a + j : Nat) : Int) := by rw [wrap_i64 (by omega) (by omega)]; rfl
      have e2 := fun m => w.im.ia (sz := 1) m .i64 (i := a + j) (by rw [byV_len]; exact al) (by simp [byV])
      simp only [byV_el] at e2
      have gi : img.getD (adE e.r + (j : Int)).toNat 0 = img[a + j] := by
        rw [hak, Int.toNat_natCast, List.getD_eq_getElem?_getD, List.getElem?_eq_getElem al]; rfl
      rw [if_pos z] at hwd
      by_cases q : e.r.tg j = -1
      · rw [if_pos q, gi] at hwd
        rw [hwd]
        generalize img[a + j] = iv at *
        by_cases d : bv = iv
        · rw [decide_eq_false (by simpa using d), Bool.false_or, ← ih]
          clear ih
          simp [ir_undertowref20_Checkl8, go_sem, c, c8, k7, k28, iu, huf, huf0, e1, ht, ht', ew, hak, al, hl, hrn, m1, m2, m4, m5, m5', m6, m7, m8, haN, z, z', q, d, e2, e3, -Int.natCast_add, -Int.natCast_mul, -Int.natCast_ediv, -Int.natCast_emod, -Int.natCast_pow]
        · have d' : ¬ (bv : Int) = (iv : Int) := by omega
          rw [decide_eq_true (by simpa using d), Bool.true_or, if_pos rfl]
          clear ih
          simp [ir_undertowref20_Checkl8, go_sem, c, c8, k7, k28, iu, huf, huf0, e1, ht, ht', ew, hak, al, hl, hrn, m1, m2, m4, m5, m5', m6, m7, m8, haN, z, z', q, d, d', e2, -Int.natCast_add, -Int.natCast_mul, -Int.natCast_ediv, -Int.natCast_emod, -Int.natCast_pow]
      · obtain ⟨f, hf⟩ := hfj z q
        obtain ⟨hfE, _⟩ := fid_some hf
        obtain ⟨v1, v2⟩ := hbw f hfE
        have fns : fdn (some f) = (f : Int) := rfl
        have hfl := eq_true (evC_flat (evs R)[f])
        rw [hf, fns] at hF
        rw [if_neg q, fb, hf] at hwd
        simp only [List.getElem?_eq_getElem hfE] at hwd
        rw [hwd]
        clear hbw fb hfj
        rw [hak] at *
        generalize (evs R)[f] = g at *
        generalize bytE g ((a + j : Nat) : Int) = wv at *
        generalize bh g ((a + j : Nat) : Int) = wb at *
        generalize img[a + j] = iv at *
        by_cases d : bv = wv
        · rw [decide_eq_false (by simpa using d), Bool.false_or, ← ih]
          clear ih
          simp [ir_undertowref20_Checkl8, go_sem, c, c8, k7, k28, iu, huf, huf0, e1, ht, ht', ew, hak, al, hl, hrn, m1, m2, m4, m5, m5', m6, m7, m8, haN, z, z', q, d, e2, e3, hF, v1, v2, hfl, -Int.natCast_add, -Int.natCast_mul, -Int.natCast_ediv, -Int.natCast_emod, -Int.natCast_pow]
        · have d' : ¬ (bv : Int) = (wv : Int) := by omega
          rw [decide_eq_true (by simpa using d), Bool.true_or, if_pos rfl]
          clear ih
          simp [ir_undertowref20_Checkl8, go_sem, c, c8, k7, k28, iu, huf, huf0, e1, ht, ht', ew, hak, al, hl, hrn, m1, m2, m4, m5, m5', m6, m7, m8, haN, z, z', q, d, d', e2, hF, v1, v2, hfl, -Int.natCast_add, -Int.natCast_mul, -Int.natCast_ediv, -Int.natCast_emod, -Int.natCast_pow]
    · have z' : ¬ (j : Int) < ((szO e.r.ins.op : Nat) : Int) := by omega
      rw [if_neg z] at hwd
      rw [hwd]
      have hak : True := trivial
      have al : True := trivial
      have ew : True := trivial
      by_cases d : bv = 0
      · rw [decide_eq_false (by simpa using d), Bool.false_or, ← ih]
        clear ih
        simp [ir_undertowref20_Checkl8, go_sem, c, c8, k7, k28, iu, huf, huf0, e1, ht, ht', ew, hak, al, hl, hrn, m1, m2, m4, m5, m5', m6, m7, m8, z, z', d, e3, -Int.natCast_add, -Int.natCast_mul, -Int.natCast_ediv, -Int.natCast_emod, -Int.natCast_pow]
      · have d' : ¬ (bv : Int) = 0 := by omega
        rw [decide_eq_true (by simpa using d), Bool.true_or, if_pos rfl]
        clear ih
        simp [ir_undertowref20_Checkl8, go_sem, c, c8, k7, k28, iu, huf, huf0, e1, ht, ht', ew, hak, al, hl, hrn, m1, m2, m4, m5, m5', m6, m7, m8, z, z', d, d', -Int.natCast_add, -Int.natCast_mul, -Int.natCast_ediv, -Int.natCast_emod, -Int.natCast_pow]
  · obtain rfl : j = 8 := by omega
    rw [← hB, s_loop_at hB]
    generalize (evs R)[i] = e at *
    simp [ir_undertowref20_Checkl8, go_sem, iu]
termination_by 8 - j
def bytD (img : List Nat) (E : List Ev) (e : Ev) : Bool := lod e.r.ins.op && (List.range' 0 8).any (bytJ img E e)
theorem rChk_l9 (hpl : ∀ e ∈ evs R, 0 ≤ adE e.r ∧ adE e.r + (szO e.r.ins.op : Nat) ≤ (img.length : Int)) (hfd : ∀ e ∈ evs R, lod e.r.ins.op = true → ∀ j, j < szO e.r.ins.op → e.r.tg j ≠ -1 → ∃ f, fid (evs R) (e.r.tg j) = some f) (i : Nat) (hi : i ≤ (evs R).length) :
    evCI pg (.loop ir_undertowref20_Checkl9) ⟨[.undef, .lp 0 0, .undef, .undef, .undef, .undef, .undef, u, .undef, .undef, .undef, .undef, .undef, .undef, .undef, .undef, .undef, .int .i64 (i : Int), .undef, .undef, .undef, .undef, .undef, .undef, .undef, .undef, .undef, .undef, .undef, .undef, .undef, .undef, .undef, .undef, .undef, .undef, .undef, .undef, .undef, .undef, .undef, .undef, .undef, .undef, .undef, .undef, .undef, .undef, .undef, .undef, .undef, .undef, .undef, .undef, .undef, .undef, .undef, .undef, .undef, .undef, .undef, .undef, .undef, .undef, .undef, .undef, .undef, .undef], ⟨[[x0, lv 0, lv 1, lv 2, x4], []], [0, 0], []⟩⟩ =
      some (if ((evs R).drop i).any (bytD img (evs R)) = true then (.ret, ⟨[.undef, .undef, .int .i64 6, .undef, .undef, .undef, .undef, .undef, .undef, .undef, .undef, .undef, .undef, .undef, .undef, .undef, .undef, .undef, .undef, .undef, .undef, .undef, .undef, .undef, .undef, .undef, .undef, .undef, .undef, .undef, .undef, .undef, .undef, .undef, .undef, .undef, .undef, .undef, .undef, .undef, .undef, .undef, .undef, .undef, .undef, .undef, .undef, .undef, .undef, .undef, .undef, .undef, .undef, .undef, .undef, .undef, .undef, .undef, .undef, .undef, .undef, .undef, .undef, .undef, .undef, .undef, .undef, .undef], ⟨[[], []], [0, 0], []⟩⟩)
        else (.exit 16, ⟨[.undef, .lp 0 0, .undef, .undef, .undef, .undef, .undef, u, .undef, .undef, .undef, .undef, .undef, .undef, .undef, .undef, .undef, .int .i64 ((evs R).length : Int), .undef, .undef, .undef, .undef, .undef, .undef, .undef, .undef, .undef, .undef, .undef, .undef, .undef, .undef, .undef, .undef, .undef, .undef, .undef, .undef, .undef, .undef, .undef, .undef, .undef, .undef, .undef, .undef, .undef, .undef, .undef, .bool false, .undef, .undef, .undef, .undef, .undef, .undef, .undef, .undef, .undef, .undef, .undef, .undef, .undef, .undef, .undef, .undef, .undef, .undef], ⟨[[x0, lv 0, lv 1, lv 2, x4], []], [0, 0], []⟩⟩)) := by
  obtain ⟨B, hB⟩ : ∃ B, B = Vm.C.loop ir_undertowref20_Checkl9 := ⟨_, rfl⟩
  have iu := w.ev.is
  have hur : (rows u).length = (evs R).length := by rw [w.ev.rows, evR_len]
  by_cases c : i < (evs R).length
  · have e3 := succ_i64 c (by omega)
    have hd : (evs R).drop i = (evs R)[i] :: (evs R).drop (i + 1) := List.drop_eq_getElem_cons c
    have hdef : bytD img (evs R) (evs R)[i] = (lod ((evs R)[i]).r.ins.op && (List.range' 0 8).any (bytJ img (evs R) (evs R)[i])) := rfl
    have ih := rChk_l9 hpl hfd (i + 1) (by omega)
    rw [hd, List.any_cons, hdef]
    cases q1 : lod ((evs R)[i]).r.ins.op with
    | false =>
      have hl6 := rChk_l8n w i c q1
      rw [Bool.false_and, Bool.false_or, ← ih, ← hB]
      conv => lhs; rw [s_loop_at hB]
      clear ih hd hdef q1
      generalize (evs R)[i] = e at *
      generalize (evs R).length = N at *
      simp [ir_undertowref20_Checkl9, go_sem, c, iu, hur, e3, hl6, -Int.natCast_add]
    | true =>
      have hl6 := rChk_l8 w hE i c q1 (hpl _ (List.getElem_mem c)) (hfd _ (List.getElem_mem c) q1) 0 (by omega)
      rw [Nat.sub_zero, Int.natCast_zero] at hl6
      rw [Bool.true_and]
      cases q2 : (List.range' 0 8).any (bytJ img (evs R) (evs R)[i]) with
      | true =>
        rw [q2, if_pos rfl] at hl6
        rw [Bool.true_or, if_pos rfl, ← hB, s_loop_at hB]
        clear ih hd hdef q2 q1
        generalize (evs R)[i] = e at *
        generalize (evs R).length = N at *
        simp [ir_undertowref20_Checkl9, go_sem, c, iu, hur, hl6, -Int.natCast_add]
      | false =>
        rw [q2, if_neg (by simp)] at hl6
        rw [Bool.false_or, ← ih, ← hB]
        conv => lhs; rw [s_loop_at hB]
        clear ih hd hdef q2 q1
        generalize (evs R)[i] = e at *
        generalize (evs R).length = N at *
        simp [ir_undertowref20_Checkl9, go_sem, c, iu, hur, e3, hl6, -Int.natCast_add]
  · obtain rfl : i = (evs R).length := by omega
    rw [← hB, s_loop_at hB, List.drop_length]
    simp [ir_undertowref20_Checkl9, go_sem, iu, hur]
termination_by (evs R).length - i
end
end Go.Proofs.Ytlkcfhpklibnaaa
