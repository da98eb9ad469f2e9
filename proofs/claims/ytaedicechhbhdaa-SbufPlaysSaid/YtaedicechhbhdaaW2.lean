/- Lists that are compared, lists that are copied (no claim; lemmas). -/
import Derived.Test.YtaedicechhbhdaaW1
set_option linter.unusedSimpArgs false
set_option linter.unusedVariables false
namespace Go.Proofs.Ytaedicechhbhdaa
open Go Go.Vm

theorem s_loop_at {a B : C} (h : B = .loop a) (st : St) : evCI pg B st = thenC pg (evCI pg a st) B := by subst h; exact s_loop a st
def iI (l : List Int) : List (List V) := l.map fun x => [.int .i64 x]
theorem iI_len (l : List Int) : (iI l).length = l.length := by simp [iI]
theorem iI_el (l : List Int) (i : Nat) (h : i < (iI l).length) : (iI l)[i] = [.int .i64 (l[i]'(by simpa [iI] using h))] := by simp [iI]
theorem succ_i64 {i n : Nat} (h : i < n) (hn : n < 9223372036854775808) : IntKind.i64.wrap ((i : Int) + 1) = ((i + 1 : Nat) : Int) := by rw [wrap_i64 (by omega) (by omega)]; rfl
theorem SameInts_loop (a b : V) (x y : List Int) (ha : Sl a (iI x)) (hb : Sl b (iI y)) (hl : x.length = y.length) (hx : x.length < 9223372036854775808) (m : Mem) (i : Nat) (hi : i ≤ x.length) :
    evCI pg (.loop ir_undertowref02_SameIntsl0) ⟨[a, b, .undef, .int .i64 (i : Int), .undef, .undef, .undef], m⟩ =
      some (if x.drop i = y.drop i then (.exit 0, ⟨[a, b, .undef, .int .i64 (x.length : Int), .undef, .bool false, .undef], m⟩) else (.ret, ⟨[.undef, .undef, .bool false, .undef, .undef, .undef, .undef], m⟩)) := by
  have hlx := iI_len x
  obtain ⟨B, hB⟩ : ∃ B, B = C.loop ir_undertowref02_SameIntsl0 := ⟨_, rfl⟩
  rw [← hB, s_loop_at hB]
  by_cases h : i < x.length
  · have e1 := ha.ia (sz := 1) m .i64 (i := i) (by omega) (by simp [iI])
    have e2 := hb.ia (sz := 1) m .i64 (i := i) (by rw [iI_len]; omega) (by simp [iI])
    rw [iI_el] at e1 e2
    have ih := SameInts_loop a b x y ha hb hl hx m (i + 1) (by omega)
    rw [← hB] at ih
    rw [List.drop_eq_getElem_cons h, List.drop_eq_getElem_cons (by omega : i < y.length)]
    simp only [List.cons.injEq]
    simp [ir_undertowref02_SameIntsl0, go_sem, ha.is, hb.is, ha.rows, hb.rows, hlx, h, e1, e2, succ_i64 h hx, -Int.natCast_add, ih]
    by_cases c : x[i] = y[i] <;> simp [c]
  · rw [List.drop_of_length_le (by omega), List.drop_of_length_le (by omega)]
    obtain rfl : i = x.length := by omega
    simp [ir_undertowref02_SameIntsl0, go_sem, ha.is, ha.rows, hlx]
termination_by x.length - i
theorem SameInts_ok (a b : V) (x y : List Int) (ha : Sl a (iI x)) (hb : Sl b (iI y)) (hx : x.length < 9223372036854775808) :
    evI pg .val n_undertowref02_SameInts [a, b] [] = some (.bool (decide (x = y)), []) := by
  rw [s_fn fn_undertowref02_SameInts]
  by_cases h : x.length = y.length
  · have := SameInts_loop a b x y ha hb h hx ⟨[], [], []⟩ 0 (by omega)
    simp at this
    simp [ir_undertowref02_SameInts, go_sem, ha.is, hb.is, ha.rows, hb.rows, iI_len, h, this]
    by_cases c : x = y <;> simp [c, go_sem]
  · have hne : x ≠ y := fun e => h (by rw [e])
    simp [ir_undertowref02_SameInts, go_sem, ha.is, hb.is, ha.rows, hb.rows, iI_len, h, hne]

theorem byV_elS (l : List Nat) (i : Nat) (h : i < (byV l).length) : ((byV l)[i]).length = 1 := by simp [byV]
theorem SameBytes_loop (a b : V) (x y : List Nat) (ha : Sl a (byV x)) (hb : Sl b (byV y)) (hl : x.length = y.length) (hx : x.length < 9223372036854775808) (m : Mem) (i : Nat) (hi : i ≤ x.length) :
    evCI pg (.loop ir_undertowref01_SameBytesl0) ⟨[a, b, .undef, .int .i64 (i : Int), .undef, .undef, .undef], m⟩ =
      some (if x.drop i = y.drop i then (.exit 0, ⟨[a, b, .undef, .int .i64 (x.length : Int), .undef, .bool false, .undef], m⟩) else (.ret, ⟨[.undef, .undef, .bool false, .undef, .undef, .undef, .undef], m⟩)) := by
  have hlx := byV_len x
  obtain ⟨B, hB⟩ : ∃ B, B = C.loop ir_undertowref01_SameBytesl0 := ⟨_, rfl⟩
  rw [← hB, s_loop_at hB]
  by_cases h : i < x.length
  · have e1 := ha.ia (sz := 1) m .i64 (i := i) (by omega) (by simp [byV])
    have e2 := hb.ia (sz := 1) m .i64 (i := i) (by rw [byV_len]; omega) (by simp [byV])
    rw [byV_el] at e1 e2
    have ih := SameBytes_loop a b x y ha hb hl hx m (i + 1) (by omega)
    rw [← hB] at ih
    rw [List.drop_eq_getElem_cons h, List.drop_eq_getElem_cons (by omega : i < y.length)]
    simp only [List.cons.injEq]
    simp [ir_undertowref01_SameBytesl0, go_sem, ha.is, hb.is, ha.rows, hb.rows, hlx, h, e1, e2, succ_i64 h hx, -Int.natCast_add, ih]
    by_cases c : x[i] = y[i] <;> simp [c]
  · rw [List.drop_of_length_le (by omega), List.drop_of_length_le (by omega)]
    obtain rfl : i = x.length := by omega
    simp [ir_undertowref01_SameBytesl0, go_sem, ha.is, ha.rows, hlx]
termination_by x.length - i
theorem SameBytes_ok (a b : V) (x y : List Nat) (ha : Sl a (byV x)) (hb : Sl b (byV y)) (hx : x.length < 9223372036854775808) :
    evI pg .val n_undertowref01_SameBytes [a, b] [] = some (.bool (decide (x = y)), []) := by
  rw [s_fn fn_undertowref01_SameBytes]
  by_cases h : x.length = y.length
  · have := SameBytes_loop a b x y ha hb h hx ⟨[], [], []⟩ 0 (by omega)
    simp at this
    simp [ir_undertowref01_SameBytes, go_sem, ha.is, hb.is, ha.rows, hb.rows, byV_len, h, this]
    by_cases c : x = y <;> simp [c, go_sem]
  · have hne : x ≠ y := fun e => h (by rw [e])
    simp [ir_undertowref01_SameBytes, go_sem, ha.is, hb.is, ha.rows, hb.rows, byV_len, h, hne]

/-! ### the word of bytes -/
/-- A write. -/
structure Wr where
  (id addr size : Int) (data : Nat)
  deriving DecidableEq
def wrV (w : Wr) : List V := [.int .i64 w.id, .int .i64 w.addr, .int .i64 w.size, .int .u64 (w.data : Int)]
def wsV (l : List Wr) : List (List V) := l.map wrV
theorem wsV_len (l : List Wr) : (wsV l).length = l.length := by simp [wsV]
theorem wsV_el (l : List Wr) (i : Nat) (h : i < (wsV l).length) : (wsV l)[i] = wrV (l[i]'(by simpa [wsV] using h)) := by simp [wsV]
theorem wsV_sz (l : List Wr) : ∀ e ∈ wsV l, e.length = 4 := by
  intro e he
  obtain ⟨w, _, rfl⟩ := List.mem_map.1 he
  rfl
theorem wsV_szAll (l : List Wr) : szAll 4 (wsV l) = true := by simp only [szAll, List.all_eq_true]; intro e he; simp [wsV_sz l e he]
theorem wsV_imm (l : List Wr) : immAll (wsV l) = true := by simp [immAll, wsV, wrV, V.imm]
theorem wsV_append (l l' : List Wr) : wsV (l ++ l') = wsV l ++ wsV l' := by simp [wsV]
theorem wr_eq (a b : Wr) : eqaV [.int, .int, .int, .int] (wrV a) (wrV b) = some (decide (a = b)) := by
  obtain ⟨a1, a2, a3, a4⟩ := a
  obtain ⟨b1, b2, b3, b4⟩ := b
  simp only [wrV, eqaV, eqcV, if_true]
  rw [Option.some.injEq, Bool.eq_iff_iff]
  simp [nat_eq_int]
theorem SameWrites_loop (a b : V) (x y : List Wr) (ha : Sl a (wsV x)) (hb : Sl b (wsV y)) (hl : x.length = y.length) (hx : x.length < 9223372036854775808) (m : Mem) (i : Nat) (hi : i ≤ x.length) :
    evCI pg (.loop ir_undertowref12_SameWritesl0) ⟨[a, b, .undef, .int .i64 (i : Int), .undef, .undef, .undef], m⟩ =
      some (if x.drop i = y.drop i then (.exit 0, ⟨[a, b, .undef, .int .i64 (x.length : Int), .undef, .bool false, .undef], m⟩) else (.ret, ⟨[.undef, .undef, .bool false, .undef, .undef, .undef, .undef], m⟩)) := by
  have hlx := wsV_len x
  obtain ⟨B, hB⟩ : ∃ B, B = C.loop ir_undertowref12_SameWritesl0 := ⟨_, rfl⟩
  rw [← hB, s_loop_at hB]
  by_cases h : i < x.length
  · have e1 := ha.ia (sz := 4) m .i64 (i := i) (by omega) (wsV_sz _ _ (List.getElem_mem _))
    have e2 := hb.ia (sz := 4) m .i64 (i := i) (by rw [wsV_len]; omega) (wsV_sz _ _ (List.getElem_mem _))
    rw [wsV_el] at e1 e2
    have ih := SameWrites_loop a b x y ha hb hl hx m (i + 1) (by omega)
    have hw : ∀ w, (wrV w).length = 4 := fun _ => rfl
    have ht : ∀ w, (wrV w).take 4 = wrV w := fun _ => rfl
    rw [← hB] at ih
    rw [List.drop_eq_getElem_cons h, List.drop_eq_getElem_cons (by omega : i < y.length)]
    simp only [List.cons.injEq]
    simp [ir_undertowref12_SameWritesl0, go_sem, ha.is, hb.is, ha.rows, hb.rows, hlx, h, e1, e2, hw, ht, wr_eq, succ_i64 h hx, -Int.natCast_add, ih]
    by_cases c : x[i] = y[i] <;> simp [c]
  · rw [List.drop_of_length_le (by omega), List.drop_of_length_le (by omega)]
    obtain rfl : i = x.length := by omega
    simp [ir_undertowref12_SameWritesl0, go_sem, ha.is, ha.rows, hlx]
termination_by x.length - i
theorem SameWrites_ok (a b : V) (x y : List Wr) (ha : Sl a (wsV x)) (hb : Sl b (wsV y)) (hx : x.length < 9223372036854775808) :
    evI pg .val n_undertowref12_SameWrites [a, b] [] = some (.bool (decide (x = y)), []) := by
  rw [s_fn fn_undertowref12_SameWrites]
  by_cases h : x.length = y.length
  · have := SameWrites_loop a b x y ha hb h hx ⟨[], [], []⟩ 0 (by omega)
    simp at this
    simp [ir_undertowref12_SameWrites, go_sem, ha.is, hb.is, ha.rows, hb.rows, wsV_len, h, this]
    by_cases c : x = y <;> simp [c, go_sem]
  · have hne : x ≠ y := fun e => h (by rw [e])
    simp [ir_undertowref12_SameWrites, go_sem, ha.is, hb.is, ha.rows, hb.rows, wsV_len, h, hne]

/-! ### copies -/
/-- What a copy is: of nil nil, of nothing nothing. -/
def cpS (v : V) (es : List (List V)) : V := match v with
  | .nils => .nils
  | _ => if es.isEmpty then .emp else .osl false 0 es
def cpV (v : V) (es : List (List V)) : V := match v with
  | .nils => .nils
  | _ => if es.isEmpty then .emp else .isl false es
theorem cpV_sl (v : V) (es : List (List V)) (h : Sl v es) : Sl (cpV v es) es := by
  unfold cpV
  split
  · cases h; exact .nils
  · split
    · rename_i he
      have : es = [] := by simpa using he
      subst this; exact .emp
    · exact .isl _ _
theorem fits_of {b n : Nat} (hb : 0 < b) (hn : n * b ≤ 140737488355328) : fits b n = true := by simp [fits, hb, maxB, hn]
theorem CloneW_ok (v : V) (es : List (List V)) (h : Sl v es) (him : immAll es = true) (hs : szAll 4 es = true) (hn : es.length ≤ 4398046511104) :
    evI pg .val n_slices_Clone_api_Write_api_Write [v] [] = some (cpV v es, []) := by
  rw [s_fn fn_slices_Clone_api_Write_api_Write]
  rcases h.nil with ⟨rfl, rfl⟩ | hnil
  · simp [ir_slices_Clone_api_Write_api_Write, go_sem, ils, cpV]
  · have hf : fits 32 es.length = true := fits_of (by omega) (by omega)
    have hv : v ≠ .nils := by rintro rfl; cases hnil
    have e : cpV v es = if es.isEmpty then .emp else .isl false es := by unfold cpV; split <;> first | exact absurd rfl hv | rfl
    have e1 : isNil .slice .nils = some true := rfl
    rw [e]
    cases es with
    | nil => simp [ir_slices_Clone_api_Write_api_Write, go_sem, eqnV, hnil, e1, appRV, h.is, h.rows, ils, litParts]
    | cons q es =>
      simp only [List.length_cons] at hf
      simp [ir_slices_Clone_api_Write_api_Write, go_sem, eqnV, hnil, e1, appRV, h.is, h.rows, hf, him, hs, ils, litParts]
/-! ### nothing in them is held for a call -/
def CleanR (es : List (List V)) : Prop := ∀ q ∈ es, ∀ x ∈ q, clean 7 x = true
theorem byV_clean (l : List Nat) : CleanR (byV l) := by
  intro q hq x hx
  obtain ⟨n, _, rfl⟩ := List.mem_map.1 hq
  simp at hx; subst hx; rfl
theorem iI_clean (l : List Int) : CleanR (iI l) := by
  intro q hq x hx
  obtain ⟨n, _, rfl⟩ := List.mem_map.1 hq
  simp at hx; subst hx; rfl
theorem wsV_clean (l : List Wr) : CleanR (wsV l) := by
  intro q hq x hx
  obtain ⟨w, _, rfl⟩ := List.mem_map.1 hq
  simp only [wrV, List.mem_cons, List.not_mem_nil, or_false] at hx
  rcases hx with rfl | rfl | rfl | rfl <;> rfl
theorem cpV_clean (v : V) (es : List (List V)) (h : Sl v es) (hc : CleanR es) : clean 8 (cpV v es) = true := by
  unfold cpV
  split
  · rfl
  · split
    · rfl
    · simp only [clean, Bool.not_false, Bool.true_and, List.all_eq_true]
      exact hc
end Go.Proofs.Ytaedicechhbhdaa
