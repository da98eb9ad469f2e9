/- Lists that are compared, lists that are copied (no claim; lemmas). -/
import Derived.Test.YtbloiihagbcfpaaW1
set_option linter.unusedSimpArgs false
set_option linter.unusedVariables false
namespace Go.Proofs.Ytbloiihagbcfpaa
open Go Go.Vm

theorem s_loop_at {a B : C} (h : B = .loop a) (st : St) : evCI pg B st = thenC pg (evCI pg a st) B := by subst h; exact s_loop a st
def iI (l : List Int) : List (List V) := l.map fun x => [.int .i64 x]
theorem iI_len (l : List Int) : (iI l).length = l.length := by simp [iI]
theorem iI_el (l : List Int) (i : Nat) (h : i < (iI l).length) : (iI l)[i] = [.int .i64 (l[i]'(by simpa [iI] using h))] := by simp [iI]
theorem succ_i64 {i n : Nat} (h : i < n) (hn : n < 9223372036854775808) : IntKind.i64.wrap ((i : Int) + 1) = ((i + 1 : Nat) : Int) := by rw [wrap_i64 (by omega) (by omega)]; rfl
theorem SameInts_loop (a b : V) (x y : List Int) (ha : Sl a (iI x)) (hb : Sl b (iI y)) (hl : x.length = y.length) (hx : x.length < 9223372036854775808) (m : Mem) (i : Nat) (hi : i ≤ x.length) :
    evCI pg (.loop ir_undertowref02_SameIntsl0) ⟨[a, b, .undef, .int .i64 (i : Int), .undef, .undef, .undef], m⟩ =
      some (if x.drop i = y.drop i then (.exit 0, ⟨[a, b, .undef, .int .i64 (x.length : Int), .undef, .bool false, .undef], m⟩) else (.ret, ⟨[.undef, .undef, .bool false, .undef, .undef, .undef, .undef], m⟩)) := by
  have hlx := iI_len x
  obtain ⟨B, hB⟩ : ∃ B, B = C.loop ir_undertowref02_SameIntsl0 := ⟨_, rfl⟩
  rw [← hB, s_loop_at hB]
  by_cases h : i < x.length
  · have e1 := ha.ia (sz := 1) m .i64 (i := i) (by omega) (by simp [iI])
    have e2 := hb.ia (sz := 1) m .i64 (i := i) (by rw [iI_len]; omega) (by simp [iI])
    rw [iI_el] at e1 e2
    have ih := SameInts_loop a b x y ha hb hl hx m (i + 1) (by omega)
    rw [← hB] at ih
    rw [List.drop_eq_getElem_cons h, List.drop_eq_getElem_cons (by omega : i < y.length)]
    simp only [List.cons.injEq]
    simp [ir_undertowref02_SameIntsl0, go_sem, ha.is, hb.is, ha.rows, hb.rows, hlx, h, e1, e2, succ_i64 h hx, -Int.natCast_add, ih]
    by_cases c : x[i] = y[i] <;> simp [c]
  · rw [List.drop_of_length_le (by omega), List.drop_of_length_le (by omega)]
    obtain rfl : i = x.length := by omega
    simp [ir_undertowref02_SameIntsl0, go_sem, ha.is, ha.rows, hlx]
termination_by x.length - i
theorem SameInts_ok (a b : V) (x y : List Int) (ha : Sl a (iI x)) (hb : Sl b (iI y)) (hx : x.length < 9223372036854775808) :
    evI pg .val n_undertowref02_SameInts [a, b] [] = some (.bool (decide (x = y)), []) := by
  rw [s_fn fn_undertowref02_SameInts]
  by_cases h : x.length = y.length
  · have := SameInts_loop a b x y ha hb h hx ⟨[], [], []⟩ 0 (by omega)
    simp at this
    simp [ir_undertowref02_SameInts, go_sem, ha.is, hb.is, ha.rows, hb.rows, iI_len, h, this]
    by_cases c : x = y <;> simp [c, go_sem]
  · have hne : x ≠ y := fun e => h (by rw [e])
    simp [ir_undertowref02_SameInts, go_sem, ha.is, hb.is, ha.rows, hb.rows, iI_len, h, hne]

theorem byV_elS (l : List Nat) (i : Nat) (h : i < (byV l).length) : ((byV l)[i]).length = 1 := by simp [byV]
theorem SameBytes_loop (a b : V) (x y : List Nat) (ha : Sl a (byV x)) (hb : Sl b (byV y)) (hl : x.length = y.length) (hx : x.length < 9223372036854775808) (m : Mem) (i : Nat) (hi : i ≤ x.length) :
    evCI pg (.loop ir_undertowref01_SameBytesl0) ⟨[a, b, .undef, .int .i64 (i : Int), .undef, .undef, .undef], m⟩ =
      some (if x.drop i = y.drop i then (.exit 0, ⟨[a, b, .undef, .int .i64 (x.length : Int), .undef, .bool false, .undef], m⟩) else (.ret, ⟨[.undef, .undef, .bool false, .undef, .undef, .undef, .undef], m⟩)) := by
  have hlx := byV_len x
  obtain ⟨B, hB⟩ : ∃ B, B = C.loop ir_undertowref01_SameBytesl0 := ⟨_, rfl⟩
  rw [← hB, s_loop_at hB]
  by_cases h : i < x.length
  · have e1 := ha.ia (sz := 1) m .i64 (i := i) (by omega) (by simp [byV])
    have e2 := hb.ia (sz := 1) m .i64 (i := i) (by rw [byV_len]; omega) (by simp [byV])
    rw [byV_el] at e1 e2
    have ih := SameBytes_loop a b x y ha hb hl hx m (i + 1) (by omega)
    rw [← hB] at ih
    rw [List.drop_eq_getElem_cons h, List.drop_eq_getElem_cons (by omega : i < y.length)]
    simp only [List.cons.injEq]
    simp [ir_undertowref01_SameBytesl0, go_sem, ha.is, hb.is, ha.rows, hb.rows, hlx, h, e1, e2, succ_i64 h hx, -Int.natCast_add, ih]
    by_cases c : x[i] = y[i] <;> simp [c]
  · rw [List.drop_of_length_le (by omega), List.drop_of_length_le (by omega)]
    obtain rfl : i = x.length := by omega
    simp [ir_undertowref01_SameBytesl0, go_sem, ha.is, ha.rows, hlx]
termination_by x.length - i
theorem SameBytes_ok (a b : V) (x y : List Nat) (ha : Sl a (byV x)) (hb : Sl b (byV y)) (hx : x.length < 9223372036854775808) :
    evI pg .val n_undertowref01_SameBytes [a, b] [] = some (.bool (decide (x = y)), []) := by
  rw [s_fn fn_undertowref01_SameBytes]
  by_cases h : x.length = y.length
  · have := SameBytes_loop a b x y ha hb h hx ⟨[], [], []⟩ 0 (by omega)
    simp at this
    simp [ir_undertowref01_SameBytes, go_sem, ha.is, hb.is, ha.rows, hb.rows, byV_len, h, this]
    by_cases c : x = y <;> simp [c, go_sem]
  · have hne : x ≠ y := fun e => h (by rw [e])
    simp [ir_undertowref01_SameBytes, go_sem, ha.is, hb.is, ha.rows, hb.rows, byV_len, h, hne]

/-! ### the word of bytes -/
theorem Of_loop (v : V) (l : List Nat) (hv : Sl v (byV l)) (hb : ∀ b ∈ l, b < 256) (m : Mem) : ∀ (j : Nat) (c : V), j ≤ l.length → j ≤ 8 →
    evCI pg (.loop ir_word_Ofl0) ⟨[v, .undef, .int .u64 ((ofN ((l.take 8).drop j) : Nat) : Int), .int .i64 ((j : Int) - 1), .undef], m⟩ =
      some (.exit 0, ⟨[v, .undef, .int .u64 ((ofN (l.take 8) : Nat) : Int), .int .i64 (-1), .bool false], m⟩)
  | 0, c, hj, h8 => by
    rw [s_loop]
    simp [ir_word_Ofl0, go_sem]
  | j + 1, c, hj, h8 => by
    have ec : ((j + 1 : Nat) : Int) - 1 = (j : Int) := by omega
    have hjl : j < l.length := by omega
    have hg := fun m => hv.ia (sz := 1) m .i64 (i := j) (by rw [byV_len]; omega) (byV_elS _ _ _)
    simp only [byV_el] at hg
    have hbj := hb l[j] (List.getElem_mem _)
    have hdrop : (l.take 8).drop j = l[j] :: (l.take 8).drop (j + 1) := by
      rw [List.drop_eq_getElem_cons (by simp; omega)]
      simp
    have hof : ofN ((l.take 8).drop j) = l[j] + 256 * ofN ((l.take 8).drop (j + 1)) := by rw [hdrop]; rfl
    have hlt : ofN ((l.take 8).drop (j + 1)) < 72057594037927936 := by
      have h1 := ofN_lt ((l.take 8).drop (j + 1)) fun b h => hb b (List.mem_of_mem_take (List.mem_of_mem_drop h))
      have h2 : 256 ^ ((l.take 8).drop (j + 1)).length ≤ 72057594037927936 := pow256' (by simp; omega)
      omega
    have e1 : IntKind.u64.wrap (((ofN ((l.take 8).drop (j + 1)) : Nat) : Int) * 256) = ((256 * ofN ((l.take 8).drop (j + 1)) : Nat) : Int) := by
      rw [← wrap_u64' (by omega : 256 * ofN ((l.take 8).drop (j + 1)) < 18446744073709551616)]
      congr 1; omega
    have e2 : IntKind.u64.wrap (l[j] : Int) = (l[j] : Int) := wrap_u64' (by omega)
    have e3 : orI .u64 ((256 * ofN ((l.take 8).drop (j + 1)) : Nat) : Int) (l[j] : Int) = ((ofN ((l.take 8).drop j) : Nat) : Int) := by
      rw [or_u64 (by omega) (by omega), hof]
      have := Nat.two_pow_add_eq_or_of_lt (i := 8) (show l[j] < 2 ^ 8 by omega) (ofN ((l.take 8).drop (j + 1)))
      have e8 : 256 * ofN ((l.take 8).drop (j + 1)) ||| l[j] = l[j] + 256 * ofN ((l.take 8).drop (j + 1)) := by
        rw [Nat.add_comm (l[j])]; exact this.symm
      rw [e8]
    have e5 : IntKind.i64.wrap ((j : Int) - 1) = (j : Int) - 1 := wrap_i64 (by omega) (by omega)
    obtain ⟨B, hB⟩ : ∃ B, B = C.loop ir_word_Ofl0 := ⟨_, rfl⟩
    have ih := Of_loop v l hv hb m j .undef (by omega) (by omega)
    rw [ec]
    rw [← hB] at ih
    rw [← hB, s_loop_at hB]
    simp [ir_word_Ofl0, go_sem, hv.is, hv.rows, byV_len, hg, e1, e2, e3, e5, ih, IntKind.bits, -Int.natCast_emod, -Int.natCast_pow, -Int.natCast_ediv, -Int.natCast_add, -Int.natCast_mul]
theorem Of_ok (v : V) (l : List Nat) (hv : Sl v (byV l)) (hb : ∀ b ∈ l, b < 256) (hl : l.length ≤ 9223372036854775807) : evI pg .val n_word_Of [v] [] = some (.int .u64 (ofN (l.take 8) : Nat), []) := by
  have h := Of_loop v l hv hb ⟨[], [], []⟩ (min l.length 8) .undef (by omega) (by omega)
  have e0 : (l.take 8).drop (min l.length 8) = [] := by apply List.drop_eq_nil_of_le; simp; omega
  rw [e0] at h
  simp only [ofN, Int.natCast_zero, Int.cast_ofNat_Int, Int.ofNat_zero] at h
  rw [s_fn fn_word_Of]
  by_cases h8 : 8 < l.length
  · have e : min l.length 8 = 8 := by omega
    rw [e] at h
    have h8' : (8 : Int) < (l.length : Int) := by omega
    simp at h
    simp [ir_word_Of, go_sem, hv.is, hv.rows, byV_len, h8, h8', h]
  · have e : min l.length 8 = l.length := by omega
    rw [e] at h
    have e5 : IntKind.i64.wrap ((l.length : Int) - 1) = (l.length : Int) - 1 := wrap_i64 (by omega) (by omega)
    have h8' : ¬ (8 : Int) < (l.length : Int) := by omega
    simp [ir_word_Of, go_sem, hv.is, hv.rows, byV_len, h8, h8', e5, h]
theorem refOf_loop (v : V) (l : List Nat) (hv : Sl v (byV l)) (hb : ∀ b ∈ l, b < 256) (hl : l.length ≤ 9223372036854775807) (m : Mem) (i : Nat) (hi : i ≤ min l.length 8) :
    ∃ p' c', evCI pg (.loop ir_undertowref01_Ofl0) ⟨[v, .undef, .int .u64 ((ofN (l.take i) : Nat) : Int), .int .u64 ((256 ^ i % 18446744073709551616 : Nat) : Int), .int .i64 (i : Int), .undef], m⟩ =
      some (.exit 0, ⟨[v, .undef, .int .u64 ((ofN (l.take 8) : Nat) : Int), p', c', .bool false], m⟩) := by
  by_cases hc : i < min l.length 8
  · have hn : i < l.length := by omega
    have h8 : i < 8 := by omega
    have h8' : (i : Int) < 8 := by omega
    have hg := fun m => hv.ia (sz := 1) m .i64 (i := i) (by rw [byV_len]; omega) (byV_elS _ _ _)
    simp only [byV_el] at hg
    have hbi := hb l[i] (List.getElem_mem _)
    have hp7 := pow256' (show i ≤ 7 by omega)
    have ep : 256 ^ i % 18446744073709551616 = 256 ^ i := Nat.mod_eq_of_lt (by omega)
    have hps := @Nat.pow_succ 256 i
    have htake : l.take (i + 1) = l.take i ++ [l[i]] := by rw [List.take_succ_eq_append_getElem hn]
    have hof : ofN (l.take (i + 1)) = ofN (l.take i) + 256 ^ i * l[i] := by
      rw [htake, ofN_append]
      simp [ofN, Nat.min_eq_left (Nat.le_of_lt hn)]
    have hlt : ofN (l.take (i + 1)) < 18446744073709551616 := by
      have h1 := ofN_lt (l.take (i + 1)) fun b h => hb b (List.mem_of_mem_take h)
      have h2 : 256 ^ (l.take (i + 1)).length ≤ 18446744073709551616 := pow256 (by simp; omega)
      omega
    have e1 : IntKind.u64.wrap (l[i] : Int) = (l[i] : Int) := wrap_u64' (by omega)
    have e2 : IntKind.u64.wrap (((256 ^ i : Nat) : Int) * (l[i] : Int)) = ((256 ^ i * l[i] : Nat) : Int) := by rw [← Int.natCast_mul, wrap_u64' (by omega)]
    have e3 : IntKind.u64.wrap (((ofN (l.take i) : Nat) : Int) + ((256 ^ i * l[i] : Nat) : Int)) = ((ofN (l.take (i + 1)) : Nat) : Int) := by rw [← Int.natCast_add, ← hof, wrap_u64' hlt]
    have e4 : IntKind.u64.wrap (((256 ^ i : Nat) : Int) * 256) = ((256 ^ (i + 1) % 18446744073709551616 : Nat) : Int) := by
      rw [hps]; exact wrap_u64 (256 ^ i * 256)
    have e5 : IntKind.i64.wrap ((i : Int) + 1) = ((i + 1 : Nat) : Int) := by rw [wrap_i64 (by omega) (by omega)]; rfl
    obtain ⟨p', c', ih⟩ := refOf_loop v l hv hb hl m (i + 1) (by omega)
    obtain ⟨B, hB⟩ : ∃ B, B = C.loop ir_undertowref01_Ofl0 := ⟨_, rfl⟩
    rw [← hB] at ih
    refine ⟨p', c', ?_⟩
    rw [ep, ← hB, s_loop_at hB]
    simp [ir_undertowref01_Ofl0, go_sem, hv.is, hv.rows, byV_len, hg, hn, h8, h8', e1, e2, e3, e4, e5, ih, -Int.natCast_emod, -Int.natCast_pow, -Int.natCast_ediv, -Int.natCast_add, -Int.natCast_mul]
  · have hi2 : i = min l.length 8 := by omega
    have e : l.take i = l.take 8 := by
      by_cases h : l.length ≤ 8
      · rw [List.take_of_length_le (by omega), List.take_of_length_le h]
      · rw [show i = 8 by omega]
    rw [e, s_loop]
    refine ⟨.int .u64 ((256 ^ i % 18446744073709551616 : Nat) : Int), .int .i64 (i : Int), ?_⟩
    by_cases h : i < l.length
    · have h8 : ¬ (i : Int) < 8 := by omega
      simp [ir_undertowref01_Ofl0, go_sem, hv.is, hv.rows, byV_len, h, h8, -Int.natCast_emod, -Int.natCast_pow]
    · simp [ir_undertowref01_Ofl0, go_sem, hv.is, hv.rows, byV_len, h, -Int.natCast_emod, -Int.natCast_pow]
termination_by min l.length 8 - i
theorem refOf_ok (v : V) (l : List Nat) (hv : Sl v (byV l)) (hb : ∀ b ∈ l, b < 256) (hl : l.length ≤ 9223372036854775807) : evI pg .val n_undertowref01_Of [v] [] = some (.int .u64 (ofN (l.take 8) : Nat), []) := by
  obtain ⟨p', c', h⟩ := refOf_loop v l hv hb hl ⟨[], [], []⟩ 0 (by omega)
  simp [ofN] at h
  rw [s_fn fn_undertowref01_Of]
  simp [ir_undertowref01_Of, go_sem, hv.is, hv.rows, byV_len, h]

/-- A write. -/
structure Wr where
  (id addr size : Int) (data : Nat)
  deriving DecidableEq
def wrV (w : Wr) : List V := [.int .i64 w.id, .int .i64 w.addr, .int .i64 w.size, .int .u64 (w.data : Int)]
def wsV (l : List Wr) : List (List V) := l.map wrV
theorem wsV_len (l : List Wr) : (wsV l).length = l.length := by simp [wsV]
theorem wsV_el (l : List Wr) (i : Nat) (h : i < (wsV l).length) : (wsV l)[i] = wrV (l[i]'(by simpa [wsV] using h)) := by simp [wsV]
theorem wsV_sz (l : List Wr) : ∀ e ∈ wsV l, e.length = 4 := by
  intro e he
  obtain ⟨w, _, rfl⟩ := List.mem_map.1 he
  rfl
theorem wsV_szAll (l : List Wr) : szAll 4 (wsV l) = true := by simp only [szAll, List.all_eq_true]; intro e he; simp [wsV_sz l e he]
theorem wsV_imm (l : List Wr) : immAll (wsV l) = true := by simp [immAll, wsV, wrV, V.imm]
theorem wsV_append (l l' : List Wr) : wsV (l ++ l') = wsV l ++ wsV l' := by simp [wsV]
theorem wr_eq (a b : Wr) : eqaV [.int, .int, .int, .int] (wrV a) (wrV b) = some (decide (a = b)) := by
  obtain ⟨a1, a2, a3, a4⟩ := a
  obtain ⟨b1, b2, b3, b4⟩ := b
  simp only [wrV, eqaV, eqcV, if_true]
  rw [Option.some.injEq, Bool.eq_iff_iff]
  simp [nat_eq_int]
theorem SameWrites_loop (a b : V) (x y : List Wr) (ha : Sl a (wsV x)) (hb : Sl b (wsV y)) (hl : x.length = y.length) (hx : x.length < 9223372036854775808) (m : Mem) (i : Nat) (hi : i ≤ x.length) :
    evCI pg (.loop ir_undertowref12_SameWritesl0) ⟨[a, b, .undef, .int .i64 (i : Int), .undef, .undef, .undef], m⟩ =
      some (if x.drop i = y.drop i then (.exit 0, ⟨[a, b, .undef, .int .i64 (x.length : Int), .undef, .bool false, .undef], m⟩) else (.ret, ⟨[.undef, .undef, .bool false, .undef, .undef, .undef, .undef], m⟩)) := by
  have hlx := wsV_len x
  obtain ⟨B, hB⟩ : ∃ B, B = C.loop ir_undertowref12_SameWritesl0 := ⟨_, rfl⟩
  rw [← hB, s_loop_at hB]
  by_cases h : i < x.length
  · have e1 := ha.ia (sz := 4) m .i64 (i := i) (by omega) (wsV_sz _ _ (List.getElem_mem _))
    have e2 := hb.ia (sz := 4) m .i64 (i := i) (by rw [wsV_len]; omega) (wsV_sz _ _ (List.getElem_mem _))
    rw [wsV_el] at e1 e2
    have ih := SameWrites_loop a b x y ha hb hl hx m (i + 1) (by omega)
    have hw : ∀ w, (wrV w).length = 4 := fun _ => rfl
    have ht : ∀ w, (wrV w).take 4 = wrV w := fun _ => rfl
    rw [← hB] at ih
    rw [List.drop_eq_getElem_cons h, List.drop_eq_getElem_cons (by omega : i < y.length)]
    simp only [List.cons.injEq]
    simp [ir_undertowref12_SameWritesl0, go_sem, ha.is, hb.is, ha.rows, hb.rows, hlx, h, e1, e2, hw, ht, wr_eq, succ_i64 h hx, -Int.natCast_add, ih]
    by_cases c : x[i] = y[i] <;> simp [c]
  · rw [List.drop_of_length_le (by omega), List.drop_of_length_le (by omega)]
    obtain rfl : i = x.length := by omega
    simp [ir_undertowref12_SameWritesl0, go_sem, ha.is, ha.rows, hlx]
termination_by x.length - i
theorem SameWrites_ok (a b : V) (x y : List Wr) (ha : Sl a (wsV x)) (hb : Sl b (wsV y)) (hx : x.length < 9223372036854775808) :
    evI pg .val n_undertowref12_SameWrites [a, b] [] = some (.bool (decide (x = y)), []) := by
  rw [s_fn fn_undertowref12_SameWrites]
  by_cases h : x.length = y.length
  · have := SameWrites_loop a b x y ha hb h hx ⟨[], [], []⟩ 0 (by omega)
    simp at this
    simp [ir_undertowref12_SameWrites, go_sem, ha.is, hb.is, ha.rows, hb.rows, wsV_len, h, this]
    by_cases c : x = y <;> simp [c, go_sem]
  · have hne : x ≠ y := fun e => h (by rw [e])
    simp [ir_undertowref12_SameWrites, go_sem, ha.is, hb.is, ha.rows, hb.rows, wsV_len, h, hne]

/-! ### copies -/
/-- What a copy is: of nil nil, of nothing nothing. -/
def cpS (v : V) (es : List (List V)) : V := match v with
  | .nils => .nils
  | _ => if es.isEmpty then .emp else .osl false 0 es
def cpV (v : V) (es : List (List V)) : V := match v with
  | .nils => .nils
  | _ => if es.isEmpty then .emp else .isl false es
theorem cpV_sl (v : V) (es : List (List V)) (h : Sl v es) : Sl (cpV v es) es := by
  unfold cpV
  split
  · cases h; exact .nils
  · split
    · rename_i he
      have : es = [] := by simpa using he
      subst this; exact .emp
    · exact .isl _ _
theorem fits_of {b n : Nat} (hb : 0 < b) (hn : n * b ≤ 140737488355328) : fits b n = true := by simp [fits, hb, maxB, hn]
theorem CloneI_ok (v : V) (es : List (List V)) (h : Sl v es) (him : immAll es = true) (hs : szAll 1 es = true) (hn : es.length ≤ 17592186044416) :
    evI pg .val n_slices_Clone_int_int [v] [] = some (cpV v es, []) := by
  rw [s_fn fn_slices_Clone_int_int]
  rcases h.nil with ⟨rfl, rfl⟩ | hnil
  · simp [ir_slices_Clone_int_int, go_sem, ils, cpV]
  · have hf : fits 8 es.length = true := fits_of (by omega) (by omega)
    have hv : v ≠ .nils := by rintro rfl; cases hnil
    have e : cpV v es = if es.isEmpty then .emp else .isl false es := by unfold cpV; split <;> first | exact absurd rfl hv | rfl
    have e1 : isNil .slice .nils = some true := rfl
    rw [e]
    cases es with
    | nil => simp [ir_slices_Clone_int_int, go_sem, eqnV, hnil, e1, appRV, h.is, h.rows, ils, litParts]
    | cons q es =>
      simp only [List.length_cons] at hf
      simp [ir_slices_Clone_int_int, go_sem, eqnV, hnil, e1, appRV, h.is, h.rows, hf, him, hs, ils, litParts]
theorem CloneW_ok (v : V) (es : List (List V)) (h : Sl v es) (him : immAll es = true) (hs : szAll 4 es = true) (hn : es.length ≤ 4398046511104) :
    evI pg .val n_slices_Clone_api_Write_api_Write [v] [] = some (cpV v es, []) := by
  rw [s_fn fn_slices_Clone_api_Write_api_Write]
  rcases h.nil with ⟨rfl, rfl⟩ | hnil
  · simp [ir_slices_Clone_api_Write_api_Write, go_sem, ils, cpV]
  · have hf : fits 32 es.length = true := fits_of (by omega) (by omega)
    have hv : v ≠ .nils := by rintro rfl; cases hnil
    have e : cpV v es = if es.isEmpty then .emp else .isl false es := by unfold cpV; split <;> first | exact absurd rfl hv | rfl
    have e1 : isNil .slice .nils = some true := rfl
    rw [e]
    cases es with
    | nil => simp [ir_slices_Clone_api_Write_api_Write, go_sem, eqnV, hnil, e1, appRV, h.is, h.rows, ils, litParts]
    | cons q es =>
      simp only [List.length_cons] at hf
      simp [ir_slices_Clone_api_Write_api_Write, go_sem, eqnV, hnil, e1, appRV, h.is, h.rows, hf, him, hs, ils, litParts]
/-! ### nothing in them is held for a call -/
def CleanR (es : List (List V)) : Prop := ∀ q ∈ es, ∀ x ∈ q, clean 7 x = true
theorem byV_clean (l : List Nat) : CleanR (byV l) := by
  intro q hq x hx
  obtain ⟨n, _, rfl⟩ := List.mem_map.1 hq
  simp at hx; subst hx; rfl
theorem iI_clean (l : List Int) : CleanR (iI l) := by
  intro q hq x hx
  obtain ⟨n, _, rfl⟩ := List.mem_map.1 hq
  simp at hx; subst hx; rfl
theorem wsV_clean (l : List Wr) : CleanR (wsV l) := by
  intro q hq x hx
  obtain ⟨w, _, rfl⟩ := List.mem_map.1 hq
  simp only [wrV, List.mem_cons, List.not_mem_nil, or_false] at hx
  rcases hx with rfl | rfl | rfl | rfl <;> rfl
theorem cpV_clean (v : V) (es : List (List V)) (h : Sl v es) (hc : CleanR es) : clean 8 (cpV v es) = true := by
  unfold cpV
  split
  · rfl
  · split
    · rfl
    · simp only [clean, Bool.not_false, Bool.true_and, List.all_eq_true]
      exact hc
end Go.Proofs.Ytbloiihagbcfpaa
