/- Layer 20: the document's check of orders (no claim; lemmas). -/
import Derived.Test.YtlkcfhpklibnaaaK20x
set_option linter.unusedSimpArgs false
set_option linter.unusedVariables false
set_option maxRecDepth 20000
namespace Go.Proofs.Ytlkcfhpklibnaaa
open Go Go.Vm

/-- The numbers of the stores of a byte. -/
def lftD (a : Int) (E : List Ev) : List Int := (E.filter fun e => bh e a).map fun e => e.r.id
/-- How often a number stands in an order. -/
def cntI (n : Int) (l : List Int) : Nat := l.countP fun y => decide (y = n)
theorem cntI_le (n : Int) (l : List Int) : cntI n l ≤ l.length := List.countP_le_length
theorem app_idO {ids : List Int} {n : Int} (cs : List V) (hl : ids.length ≤ 100000) : appV 2 1 8 ⟨[cs, []], [0, ids.length], []⟩ (.osl false 1 (iI ids)) (.els [[.int .i64 n]]) = some (.osl false 1 (iI (ids ++ [n])), ⟨[cs, []], [0, ids.length + 1], []⟩) := by
  have e : iI (ids ++ [n]) = iI ids ++ [[.int .i64 n]] := by simp [iI]
  have h1 : immAll (iI ids ++ [[.int .i64 n]]) = true := by simp [immAll, iI, V.imm]
  have h2 : szAll 1 (iI ids ++ [[.int .i64 n]]) = true := by simp [szAll, iI]
  unfold appV
  simp only [srcV, List.length_singleton, e, h1, h2, iI_len', fits_of (b := 8) (n := ids.length + 1) (by omega) (by omega), Bool.and_self, if_true, Bool.false_eq_true, if_false, List.getElem?_cons_succ, List.getElem?_cons_zero, List.set_cons_succ, List.set_cons_zero]
theorem osl_idI {ids : List Int} {k : Nat} (h : k < ids.length) (m : Mem) : iaSV 1 m (.osl false 1 (iI ids)) (.int .i64 (k : Int)) = some (.ip false [.int .i64 ids[k]] 0) := by
  have hg : (iI ids)[k]? = some [.int .i64 ids[k]] := by rw [List.getElem?_eq_getElem (by rw [iI_len']; exact h), iI_el']
  have hl : (k : Int) < ((iI ids).length : Int) := by rw [iI_len']; omega
  have hl' : k < (iI ids).length := by rw [iI_len']; exact h
  have : asIx (iI ids).length (.int .i64 (k : Int)) = some k := by
    unfold asIx
    have h0 : (0 : Int) ≤ (k : Int) := by omega
    simp [h0, hl, hl']
  have h1 : ([V.int IntKind.i64 ids[k]] : List V).length = 1 := rfl
  simp only [iaSV, this, hg, h1, if_true]
section
variable {x0 : V} {lv : Nat → V} {x4 u : V} {R : Nat → List Rt} {img : List Nat} {cv : List V} {co : List (List Int)} (w : Lk x0 lv x4 u R img cv co) (hE : (evs R).length ≤ 100000)
include w hE
theorem rChk_l10 (a : Nat) (ha : a ≤ 100000) (i : Nat) (hi : i ≤ (evs R).length) (ids : List Int) (hn : ids.length ≤ i) :
    evCI pg (.loop ir_undertowref20_Checkl10) ⟨[.undef, .lp 0 0, .undef, .undef, .undef, .undef, .undef, u, .undef, .undef, .undef, .undef, .undef, .undef, .undef, .undef, .undef, .undef, .undef, .undef, .undef, .int .i64 (a : Int), .osl false 1 (iI (ids)), .int .i64 (i : Int), .undef, .undef, .undef, .undef, .undef, .undef, .undef, .undef, .undef, .undef, .undef, .undef, .undef, .undef, .undef, .undef, .undef, .undef, .undef, .undef, .undef, .undef, .undef, .undef, .undef, .undef, .undef, .undef, .undef, .undef, .undef, .undef, .undef, .undef, .undef, .undef, .undef, .undef, .undef, .undef, .undef, .undef, .undef, .undef], ⟨[[x0, lv 0, lv 1, lv 2, x4], []], [0, ids.length], []⟩⟩ =
      some (.exit 22, ⟨[.undef, .lp 0 0, .undef, .undef, .undef, .undef, .undef, u, .undef, .undef, .undef, .undef, .undef, .undef, .undef, .undef, .undef, .undef, .undef, .undef, .undef, .int .i64 (a : Int), .osl false 1 (iI (ids ++ lftD (a : Int) ((evs R).drop i))), .int .i64 ((evs R).length : Int), .undef, .undef, .undef, .undef, .undef, .undef, .undef, .undef, .undef, .undef, .undef, .undef, .undef, .undef, .undef, .undef, .undef, .undef, .undef, .undef, .undef, .undef, .undef, .undef, .undef, .undef, .undef, .undef, .undef, .undef, .undef, .bool false, .undef, .undef, .undef, .undef, .undef, .undef, .undef, .undef, .undef, .undef, .undef, .undef], ⟨[[x0, lv 0, lv 1, lv 2, x4], []], [0, (ids ++ lftD (a : Int) ((evs R).drop i)).length], []⟩⟩) := by
  obtain ⟨B, hB⟩ : ∃ B, B = Vm.C.loop ir_undertowref20_Checkl10 := ⟨_, rfl⟩
  have hb := evs_bd (R := R) fun h hh => (w.li h hh).2.1
  have iu := w.ev.is
  have hur : (rows u).length = (evs R).length := by rw [w.ev.rows, evR_len]
  have huf := w.ev.fpR
  by_cases c : i < (evs R).length
  · have e3 := succ_i64 c (by omega)
    have e1 := fun m => w.ev.ia (sz := 33) m .i64 (i := i) (by rw [evR_len]; exact c) (evR_sz _ _ (List.getElem_mem _))
    simp only [evR_el] at e1
    have hd : (evs R).drop i = (evs R)[i] :: (evs R).drop (i + 1) := List.drop_eq_getElem_cons c
    have hfl := eq_true (evC_flat (evs R)[i])
    have hH := rHas_ok (evs R)[i] (hb _ (List.getElem_mem _)) (a : Int) (by omega)
    have hdef : lftD (a : Int) ((evs R)[i] :: (evs R).drop (i + 1)) = if bh (evs R)[i] (a : Int) then ((evs R)[i]).r.id :: lftD (a : Int) ((evs R).drop (i + 1)) else lftD (a : Int) ((evs R).drop (i + 1)) := by
      unfold lftD
      rw [List.filter_cons]
      split <;> simp
    have hbh : bh (evs R)[i] (a : Int) = (sto ((evs R)[i]).r.ins.op && hasB (evs R)[i] (a : Int)) := rfl
    rw [hd, hdef, hbh]
    cases s : sto ((evs R)[i]).r.ins.op with
    | false =>
      have ih := rChk_l10 a ha (i + 1) (by omega) ids (by omega)
      rw [Bool.false_and, if_neg (by simp), ← ih, ← hB]
      conv => lhs; rw [s_loop_at hB]
      clear ih hd hdef hbh
      generalize (evs R)[i] = e at *
      generalize (evs R).length = N at *
      generalize iI ids = es at *
      simp [ir_undertowref20_Checkl10, go_sem, c, iu, hur, huf, e1, e3, hfl, s, -Int.natCast_add]
    | true =>
      cases q : hasB (evs R)[i] (a : Int) with
      | false =>
        rw [q] at hH
        have ih := rChk_l10 a ha (i + 1) (by omega) ids (by omega)
        rw [Bool.and_false, if_neg (by simp), ← ih, ← hB]
        conv => lhs; rw [s_loop_at hB]
        clear ih hd hdef hbh q
        generalize (evs R)[i] = e at *
        generalize (evs R).length = N at *
        generalize iI ids = es at *
        simp [ir_undertowref20_Checkl10, go_sem, c, iu, hur, huf, e1, e3, hfl, s, hH, -Int.natCast_add]
      | true =>
        rw [q] at hH
        have ih := rChk_l10 a ha (i + 1) (by omega) (ids ++ [((evs R)[i]).r.id]) (by rw [List.length_append, List.length_singleton]; omega)
        have happ := app_idO (ids := ids) (n := ((evs R)[i]).r.id) [x0, lv 0, lv 1, lv 2, x4] (by omega)
        have hla : (ids ++ [((evs R)[i]).r.id]).length = ids.length + 1 := by simp
        rw [List.append_assoc, List.singleton_append, hla] at ih
        rw [Bool.and_self, if_pos rfl, ← ih, ← hB]
        conv => lhs; rw [s_loop_at hB]
        clear ih hd hdef hbh q hla
        generalize (evs R)[i] = e at *
        generalize (evs R).length = N at *
        generalize iI (ids ++ [e.r.id]) = es2 at *
        generalize iI ids = es at *
        simp [ir_undertowref20_Checkl10, go_sem, c, iu, hur, huf, e1, e3, hfl, s, hH, happ, litParts, -Int.natCast_add]
  · obtain rfl : i = (evs R).length := by omega
    rw [← hB, s_loop_at hB, List.drop_length]
    simp [ir_undertowref20_Checkl10, go_sem, iu, hur, lftD]
termination_by (evs R).length - i
omit hE in
theorem rChk_l11 (a : Nat) (ha : a < cv.length) (l : List Int) (hl : co[a]? = some l) (ids : List Int) (hil : ids.length = l.length) (hic : ids.length ≤ 100000) (i : Nat) (hi : i < ids.length) (k : Nat) (hk : k ≤ l.length) (n : Nat) (hn : n ≤ k) :
    evCI pg (.loop ir_undertowref20_Checkl11) ⟨[.undef, .lp 0 0, .undef, .undef, .undef, .undef, .undef, u, .undef, .undef, .undef, .undef, .undef, .undef, .undef, .undef, .undef, .undef, .undef, .undef, .undef, .int .i64 (a : Int), .osl false 1 (iI (ids)), .undef, .int .i64 (i : Int), .int .i64 (n : Int), .int .i64 (k : Int), .undef, .undef, .undef, .undef, .undef, .undef, .undef, .undef, .undef, .undef, .undef, .undef, .undef, .undef, .undef, .undef, .undef, .undef, .undef, .undef, .undef, .undef, .undef, .undef, .undef, .undef, .undef, .undef, .undef, .undef, .undef, .undef, .undef, .undef, .undef, .undef, .undef, .undef, .undef, .undef, .undef], ⟨[[x0, lv 0, lv 1, lv 2, x4], []], [0, ids.length], []⟩⟩ =
      some (.exit 26, ⟨[.undef, .lp 0 0, .undef, .undef, .undef, .undef, .undef, u, .undef, .undef, .undef, .undef, .undef, .undef, .undef, .undef, .undef, .undef, .undef, .undef, .undef, .int .i64 (a : Int), .osl false 1 (iI (ids)), .undef, .int .i64 (i : Int), .int .i64 ((n + cntI ids[i] (l.drop k) : Nat) : Int), .int .i64 (ids.length : Int), .undef, .undef, .undef, .undef, .undef, .undef, .undef, .undef, .undef, .undef, .undef, .undef, .undef, .undef, .undef, .undef, .undef, .undef, .undef, .undef, .undef, .undef, .undef, .undef, .undef, .undef, .undef, .undef, .undef, .undef, .undef, .undef, .bool false, .undef, .undef, .undef, .undef, .undef, .undef, .undef, .undef], ⟨[[x0, lv 0, lv 1, lv 2, x4], []], [0, ids.length], []⟩⟩) := by
  obtain ⟨B, hB⟩ : ∃ B, B = Vm.C.loop ir_undertowref20_Checkl11 := ⟨_, rfl⟩
  have i4 := w.co4.is
  have h4f := w.co4.fpR
  have e1 := fun m => w.co4.ia (sz := 1) m .i64 (i := a) (by rw [slR_len]; exact ha) (slR_sz _ _ (List.getElem_mem _))
  simp only [slR_el] at e1
  have hsl := w.cs.2 a cv[a] l (List.getElem?_eq_getElem ha) hl
  have hsi := hsl.is
  have hsf := hsl.fpR
  have hsr : (rows cv[a]).length = l.length := by rw [hsl.rows, iI_len']
  have hil2 := iI_len' ids
  by_cases c : k < l.length
  · have ci : k < ids.length := by omega
    have e3 := succ_i64 ci (by omega)
    have en : IntKind.i64.wrap ((n : Int) + 1) = ((n + 1 : Nat) : Int) := by rw [wrap_i64 (by omega) (by omega)]; rfl
    have e2 := fun m => hsl.ia (sz := 1) m .i64 (i := k) (by rw [iI_len']; exact c) (by rw [iI_el']; rfl)
    simp only [iI_el'] at e2
    have e4 := osl_idI hi
    have hd : l.drop k = l[k] :: l.drop (k + 1) := List.drop_eq_getElem_cons c
    have hdef : cntI ids[i] (l[k] :: l.drop (k + 1)) = cntI ids[i] (l.drop (k + 1)) + if l[k] = ids[i] then 1 else 0 := by
      unfold cntI
      rw [List.countP_cons]
      simp
    have cik : (k : Int) < (ids.length : Int) := by omega
    by_cases q : l[k] = ids[i]
    · have ih := rChk_l11 a ha l hl ids hil hic i hi (k + 1) (by omega) (n + 1) (by omega)
      rw [if_pos q] at hdef
      rw [hd, hdef, show n + (cntI ids[i] (l.drop (k + 1)) + 1) = n + 1 + cntI ids[i] (l.drop (k + 1)) by omega, ← ih, ← hB]
      conv => lhs; rw [s_loop_at hB]
      clear ih hd hdef
      generalize l[k] = y at *
      generalize ids[i] = z at *
      generalize cv[a] = v at *
      generalize iI ids = es at *
      generalize ids.length = N at *
      simp [ir_undertowref20_Checkl11, go_sem, c, ci, cik, hil2, i4, h4f, e1, e2, e3, e4, en, hsi, hsf, hsr, q, -Int.natCast_add]
    · have ih := rChk_l11 a ha l hl ids hil hic i hi (k + 1) (by omega) n (by omega)
      have hdef : cntI ids[i] (l[k] :: l.drop (k + 1)) = cntI ids[i] (l.drop (k + 1)) := by rw [hdef, if_neg q]; rfl
      rw [hd, hdef, ← ih, ← hB]
      conv => lhs; rw [s_loop_at hB]
      clear ih hd hdef
      generalize l[k] = y at *
      generalize ids[i] = z at *
      generalize cv[a] = v at *
      generalize iI ids = es at *
      generalize ids.length = N at *
      simp [ir_undertowref20_Checkl11, go_sem, c, ci, cik, hil2, i4, h4f, e1, e2, e3, e4, hsi, hsf, hsr, q, -Int.natCast_add]
  · obtain rfl : k = l.length := by omega
    have h0 : cntI ids[i] (l.drop l.length) = 0 := by rw [List.drop_length]; rfl
    rw [h0, Nat.add_zero, ← hil, ← hB, s_loop_at hB]
    clear h0 e1
    generalize iI ids = es at *
    simp [ir_undertowref20_Checkl11, go_sem, hil2]
termination_by l.length - k
omit hE in
theorem rChk_l12 (a : Nat) (ha : a < cv.length) (l : List Int) (hl : co[a]? = some l) (ids : List Int) (hil : ids.length = l.length) (hic : ids.length ≤ 100000) (i : Nat) (hi : i ≤ ids.length) :
    evCI pg (.loop ir_undertowref20_Checkl12) ⟨[.undef, .lp 0 0, .undef, .undef, .undef, .undef, .undef, u, .undef, .undef, .undef, .undef, .undef, .undef, .undef, .undef, .undef, .undef, .undef, .undef, .undef, .int .i64 (a : Int), .osl false 1 (iI (ids)), .undef, .int .i64 (i : Int), .undef, .undef, .undef, .undef, .undef, .undef, .undef, .undef, .undef, .undef, .undef, .undef, .undef, .undef, .undef, .undef, .undef, .undef, .undef, .undef, .undef, .undef, .undef, .undef, .undef, .undef, .undef, .undef, .undef, .undef, .undef, .undef, .undef, .undef, .undef, .undef, .undef, .undef, .undef, .undef, .undef, .undef, .undef], ⟨[[x0, lv 0, lv 1, lv 2, x4], []], [0, ids.length], []⟩⟩ =
      some (if ((ids.drop i).any fun n => decide (cntI n l ≠ 1)) = true then (.ret, ⟨[.undef, .undef, .int .i64 7, .undef, .undef, .undef, .undef, .undef, .undef, .undef, .undef, .undef, .undef, .undef, .undef, .undef, .undef, .undef, .undef, .undef, .undef, .undef, .undef, .undef, .undef, .undef, .undef, .undef, .undef, .undef, .undef, .undef, .undef, .undef, .undef, .undef, .undef, .undef, .undef, .undef, .undef, .undef, .undef, .undef, .undef, .undef, .undef, .undef, .undef, .undef, .undef, .undef, .undef, .undef, .undef, .undef, .undef, .undef, .undef, .undef, .undef, .undef, .undef, .undef, .undef, .undef, .undef, .undef], ⟨[[], []], [0, 0], []⟩⟩)
        else (.exit 24, ⟨[.undef, .lp 0 0, .undef, .undef, .undef, .undef, .undef, u, .undef, .undef, .undef, .undef, .undef, .undef, .undef, .undef, .undef, .undef, .undef, .undef, .undef, .int .i64 (a : Int), .osl false 1 (iI (ids)), .undef, .int .i64 (ids.length : Int), .undef, .undef, .undef, .undef, .undef, .undef, .undef, .undef, .undef, .undef, .undef, .undef, .undef, .undef, .undef, .undef, .undef, .undef, .undef, .undef, .undef, .undef, .undef, .undef, .undef, .undef, .undef, .undef, .undef, .undef, .undef, .undef, .undef, .bool false, .undef, .undef, .undef, .undef, .undef, .undef, .undef, .undef, .undef], ⟨[[x0, lv 0, lv 1, lv 2, x4], []], [0, ids.length], []⟩⟩)) := by
  obtain ⟨B, hB⟩ : ∃ B, B = Vm.C.loop ir_undertowref20_Checkl12 := ⟨_, rfl⟩
  have i4 := w.co4.is
  have h4f := w.co4.fpR
  have e1 := fun m => w.co4.ia (sz := 1) m .i64 (i := a) (by rw [slR_len]; exact ha) (slR_sz _ _ (List.getElem_mem _))
  simp only [slR_el] at e1
  have hsl := w.cs.2 a cv[a] l (List.getElem?_eq_getElem ha) hl
  have hsi := hsl.is
  have hsf := hsl.fpR
  have hsr : (rows cv[a]).length = l.length := by rw [hsl.rows, iI_len']
  have hil2 := iI_len' ids
  by_cases c : i < ids.length
  · have e3 := succ_i64 c (by omega)
    have hl11 := rChk_l11 w a ha l hl ids hil hic i c 0 (by omega) 0 (by omega)
    rw [List.drop_zero, Nat.zero_add, Int.natCast_zero] at hl11
    have hd : ids.drop i = ids[i] :: ids.drop (i + 1) := List.drop_eq_getElem_cons c
    have ih := rChk_l12 a ha l hl ids hil hic (i + 1) (by omega)
    have hc1 := cntI_le ids[i] l
    rw [hd, List.any_cons]
    by_cases q : cntI ids[i] l = 1
    · rw [q] at hl11
      rw [decide_eq_false (by simpa using q), Bool.false_or, ← ih, ← hB]
      conv => lhs; rw [s_loop_at hB]
      clear ih hd hc1 q e1
      generalize iI ids = es at *
      generalize ids.length = N at *
      simp [ir_undertowref20_Checkl12, go_sem, c, hil2, e3, hl11, -Int.natCast_add]
    · have q' : ¬ ((cntI ids[i] l : Nat) : Int) = 1 := by omega
      rw [decide_eq_true (by simpa using q), Bool.true_or, if_pos rfl, ← hB, s_loop_at hB]
      clear ih hd hc1 e1
      generalize cntI ids[i] l = y at *
      generalize iI ids = es at *
      generalize ids.length = N at *
      simp [ir_undertowref20_Checkl12, go_sem, c, hil2, hl11, q, q', -Int.natCast_add]
  · obtain rfl : i = ids.length := by omega
    rw [List.drop_length, ← hB, s_loop_at hB]
    clear e1
    generalize iI ids = es at *
    simp [ir_undertowref20_Checkl12, go_sem, hil2]
termination_by ids.length - i
/-- Is a byte's order wrong? The document's. -/
def ordD (E : List Ev) (a : Nat) (l : List Int) : Bool := decide ((lftD (a : Int) E).length ≠ l.length) || (lftD (a : Int) E).any fun n => decide (cntI n l ≠ 1)
def ordG (E : List Ev) : Nat → List (List Int) → Bool
  | _, [] => false
  | a, l :: co => ordD E a l || ordG E (a + 1) co
omit w hE in
theorem lftD_len (a : Int) (E : List Ev) : (lftD a E).length ≤ E.length := by
  unfold lftD
  rw [List.length_map]
  exact List.length_filter_le _ _
theorem rChk_l13 (a : Nat) (ha : a ≤ cv.length) :
    evCI pg (.loop ir_undertowref20_Checkl13) ⟨[.undef, .lp 0 0, .undef, .undef, .undef, .undef, .undef, u, .undef, .undef, .undef, .undef, .undef, .undef, .undef, .undef, .undef, .undef, .undef, .undef, .undef, .int .i64 (a : Int), .undef, .undef, .undef, .undef, .undef, .undef, .undef, .undef, .undef, .undef, .undef, .undef, .undef, .undef, .undef, .undef, .undef, .undef, .undef, .undef, .undef, .undef, .undef, .undef, .undef, .undef, .undef, .undef, .undef, .undef, .undef, .undef, .undef, .undef, .undef, .undef, .undef, .undef, .undef, .undef, .undef, .undef, .undef, .undef, .undef, .undef], ⟨[[x0, lv 0, lv 1, lv 2, x4], []], [0, 0], []⟩⟩ =
      some (if ordG (evs R) a (co.drop a) = true then (.ret, ⟨[.undef, .undef, .int .i64 7, .undef, .undef, .undef, .undef, .undef, .undef, .undef, .undef, .undef, .undef, .undef, .undef, .undef, .undef, .undef, .undef, .undef, .undef, .undef, .undef, .undef, .undef, .undef, .undef, .undef, .undef, .undef, .undef, .undef, .undef, .undef, .undef, .undef, .undef, .undef, .undef, .undef, .undef, .undef, .undef, .undef, .undef, .undef, .undef, .undef, .undef, .undef, .undef, .undef, .undef, .undef, .undef, .undef, .undef, .undef, .undef, .undef, .undef, .undef, .undef, .undef, .undef, .undef, .undef, .undef], ⟨[[], []], [0, 0], []⟩⟩)
        else (.exit 20, ⟨[.undef, .lp 0 0, .undef, .undef, .undef, .undef, .undef, u, .undef, .undef, .undef, .undef, .undef, .undef, .undef, .undef, .undef, .undef, .undef, .undef, .undef, .int .i64 (cv.length : Int), .undef, .undef, .undef, .undef, .undef, .undef, .undef, .undef, .undef, .undef, .undef, .undef, .undef, .undef, .undef, .undef, .undef, .undef, .undef, .undef, .undef, .undef, .undef, .undef, .undef, .undef, .undef, .undef, .undef, .undef, .undef, .undef, .bool false, .undef, .undef, .undef, .undef, .undef, .undef, .undef, .undef, .undef, .undef, .undef, .undef, .undef], ⟨[[x0, lv 0, lv 1, lv 2, x4], []], [0, 0], []⟩⟩)) := by
  obtain ⟨B, hB⟩ : ∃ B, B = Vm.C.loop ir_undertowref20_Checkl13 := ⟨_, rfl⟩
  have i4 := w.co4.is
  have h4f := w.co4.fpR
  have iu := w.ev.is
  have h4r : (rows x4).length = cv.length := by rw [w.co4.rows, slR_len]
  have hcl := w.cl
  have hco := w.cs.1
  by_cases c : a < cv.length
  · have e3 := succ_i64 c (by omega)
    have e1 := fun m => w.co4.ia (sz := 1) m .i64 (i := a) (by rw [slR_len]; exact c) (slR_sz _ _ (List.getElem_mem _))
    simp only [slR_el] at e1
    have ca : a < co.length := by omega
    have hsl := w.cs.2 a cv[a] co[a] (List.getElem?_eq_getElem c) (List.getElem?_eq_getElem ca)
    have hsi := hsl.is
    have hsf := hsl.fpR
    have hsr : (rows cv[a]).length = (co[a]).length := by rw [hsl.rows, iI_len']
    have hd : co.drop a = co[a] :: co.drop (a + 1) := List.drop_eq_getElem_cons ca
    have hl10 := rChk_l10 w hE a (by omega) 0 (Nat.zero_le _) [] (Nat.zero_le _)
    rw [List.drop_zero, List.nil_append, Int.natCast_zero] at hl10
    have hi0 : iI [] = [] := rfl
    rw [hi0, List.length_nil] at hl10
    have hdef : ordG (evs R) a (co[a] :: co.drop (a + 1)) = (ordD (evs R) a co[a] || ordG (evs R) (a + 1) (co.drop (a + 1))) := rfl
    have hdef2 : ordD (evs R) a co[a] = (decide ((lftD (a : Int) (evs R)).length ≠ (co[a]).length) || (lftD (a : Int) (evs R)).any fun n => decide (cntI n co[a] ≠ 1)) := rfl
    have ih := rChk_l13 (a + 1) (by omega)
    have hln := lftD_len (a : Int) (evs R)
    have hl12 := fun (hq : (lftD (a : Int) (evs R)).length = (co[a]).length) => rChk_l12 w a c co[a] (List.getElem?_eq_getElem ca) (lftD (a : Int) (evs R)) hq (by omega) 0 (by omega)
    rw [List.drop_zero, Int.natCast_zero] at hl12
    have hil2 := iI_len' (lftD (a : Int) (evs R))
    rw [hd, hdef, hdef2]
    by_cases q : (lftD (a : Int) (evs R)).length = (co[a]).length
    · have hl := hl12 q
      rw [decide_eq_false (by simpa using q), Bool.false_or]
      have qi : ((lftD (a : Int) (evs R)).length : Int) = ((co[a]).length : Int) := by omega
      cases q2 : (lftD (a : Int) (evs R)).any fun n => decide (cntI n co[a] ≠ 1) with
      | true =>
        rw [q2, if_pos rfl] at hl
        rw [Bool.true_or, if_pos rfl, ← hB, s_loop_at hB]
        clear ih hd hdef hdef2 hl12 q2 hln
        generalize lftD (a : Int) (evs R) = ids at *
        generalize iI ids = es at *
        generalize co[a] = l at *
        generalize cv[a] = v at *
        simp [ir_undertowref20_Checkl13, go_sem, c, iu, i4, h4f, h4r, e1, hsi, hsf, hsr, hl10, hl, hil2, qi, -Int.natCast_add]
      | false =>
        rw [q2, if_neg (by simp)] at hl
        rw [Bool.false_or, ← ih, ← hB]
        conv => lhs; rw [s_loop_at hB]
        clear ih hd hdef hdef2 hl12 q2 hln
        generalize lftD (a : Int) (evs R) = ids at *
        generalize iI ids = es at *
        generalize co[a] = l at *
        generalize cv[a] = v at *
        simp [ir_undertowref20_Checkl13, go_sem, c, iu, i4, h4f, h4r, e1, e3, hsi, hsf, hsr, hl10, hl, hil2, qi, -Int.natCast_add]
    · have qi : ¬ ((lftD (a : Int) (evs R)).length : Int) = ((co[a]).length : Int) := by omega
      rw [decide_eq_true (by simpa using q), Bool.true_or, Bool.true_or, if_pos rfl, ← hB, s_loop_at hB]
      clear ih hd hdef hdef2 hl12 hln
      generalize lftD (a : Int) (evs R) = ids at *
      generalize iI ids = es at *
      generalize co[a] = l at *
      generalize cv[a] = v at *
      simp [ir_undertowref20_Checkl13, go_sem, c, iu, i4, h4f, h4r, e1, hsi, hsf, hsr, hl10, hil2, q, qi, -Int.natCast_add]
  · obtain rfl : a = cv.length := by omega
    rw [List.drop_eq_nil_of_le (by omega), ← hB, s_loop_at hB]
    simp [ir_undertowref20_Checkl13, go_sem, i4, h4f, h4r, ordG]
termination_by cv.length - a
end
end Go.Proofs.Ytlkcfhpklibnaaa
