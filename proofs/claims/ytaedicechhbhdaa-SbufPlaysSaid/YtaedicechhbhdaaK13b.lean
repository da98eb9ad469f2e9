/- Layer 13: what the program's buffer comes to, looked at, continued (no claim; lemmas). -/
import Derived.Test.YtaedicechhbhdaaK13a
set_option linter.unusedSimpArgs false
set_option linter.unusedVariables false
namespace Go.Proofs.Ytaedicechhbhdaa
open Go Go.Vm

theorem app_oneI {m : Mem} {l : List Int} {x : Int} (ht : m.tk[0]? = some l.length) (hl : l.length ≤ 1000) :
    appV 2 1 8 m (.osl false 0 (iI l)) (.els [[.int .i64 x]]) = some (.osl false 0 (iI (l ++ [x])), { m with tk := m.tk.set 0 (l.length + 1) }) := by
  have e : iI (l ++ [x]) = iI l ++ [[.int .i64 x]] := by simp [iI]
  have h1 : immAll (iI l ++ [[.int .i64 x]]) = true := by simp [immAll, iI, V.imm]
  have h2 : szAll 1 (iI l ++ [[.int .i64 x]]) = true := by simp [szAll, iI]
  unfold appV
  simp only [srcV, List.length_singleton, e, h1, h2, iI_len, ht, fits_of (b := 8) (n := l.length + 1) (by omega) (by omega), Bool.and_self, if_true, Bool.false_eq_true, if_false]
/-- Lists of stores. -/
def wwR (l : List (List Wr)) : List (List V) := l.map fun s => [ils (wsV s)]
theorem wwR_len (l : List (List Wr)) : (wwR l).length = l.length := by simp [wwR]
theorem wwR_el (l : List (List Wr)) (i : Nat) (h : i < (wwR l).length) : (wwR l)[i] = [ils (wsV (l[i]'(by simpa [wwR] using h)))] := by simp [wwR]
theorem wwR_sz (l : List (List Wr)) : ∀ e ∈ wwR l, e.length = 1 := by
  intro e he
  obtain ⟨w, _, rfl⟩ := List.mem_map.1 he
  rfl
theorem app_oneW {m : Mem} {l : List (List Wr)} {s : List Wr} (ht : m.tk[0]? = some l.length) (hl : l.length ≤ 1000) :
    appV 2 1 24 m (.osl false 0 (wwR l)) (.els [[ils (wsV s)]]) = some (.osl false 0 (wwR (l ++ [s])), { m with tk := m.tk.set 0 (l.length + 1) }) := by
  have e : wwR (l ++ [s]) = wwR l ++ [[ils (wsV s)]] := by simp [wwR]
  have h1 : immAll (wwR l ++ [[ils (wsV s)]]) = true := by simp [immAll, wwR, ils_imm]
  have h2 : szAll 1 (wwR l ++ [[ils (wsV s)]]) = true := by simp [szAll, wwR]
  unfold appV
  simp only [srcV, List.length_singleton, e, h1, h2, wwR_len, ht, fits_of (b := 24) (n := l.length + 1) (by omega) (by omega), Bool.and_self, if_true, Bool.false_eq_true, if_false]
theorem cpV_ils (es : List (List V)) : cpV (ils es) es = ils es := by cases es <;> rfl
theorem CloneW_ils (s : List Wr) (h : s.length ≤ 1000) : evI pg .val n_slices_Clone_api_Write_api_Write [ils (wsV s)] [] = some (ils (wsV s), []) := by
  have := CloneW_ok (ils (wsV s)) (wsV s) (.ils _) (wsV_imm s) (wsV_szAll s) (by rw [wsV_len]; omega)
  rwa [cpV_ils] at this
theorem Index_loop (v : V) (l : List Int) (hv : Sl v (iI l)) (hl : l.length ≤ 1000) (x : Int) (i : Nat) (hi : i ≤ l.length) :
    evCI pg (.loop ir_slices_Index_int_intl0) ⟨[v, .int .i64 x, .undef, .undef, .int .i64 (l.length : Int), .int .i64 (i : Int), .undef, .undef], ⟨[], [], []⟩⟩ =
      some (if (l.drop i).contains x = true then (.ret, ⟨[.undef, .undef, .int .i64 ((i + (l.drop i).idxOf x : Nat) : Int), .undef, .undef, .undef, .undef, .undef], ⟨[], [], []⟩⟩)
        else (.exit 0, ⟨[v, .int .i64 x, .undef, .undef, .int .i64 (l.length : Int), .int .i64 (l.length : Int), .bool false, .undef], ⟨[], [], []⟩⟩)) := by
  obtain ⟨B, hB⟩ : ∃ B, B = C.loop ir_slices_Index_int_intl0 := ⟨_, rfl⟩
  by_cases h : i < l.length
  · have e1 := fun m => hv.ia (sz := 1) m .i64 (i := i) (by rw [iI_len]; exact h) (by simp [iI])
    simp only [iI_el] at e1
    have e3 := succ_i64 h (by omega)
    have ih := Index_loop v l hv hl x (i + 1) (by omega)
    rw [List.drop_eq_getElem_cons h, List.contains_cons, List.idxOf_cons]
    rw [← hB] at ih
    rw [← hB, s_loop_at hB]
    by_cases c : l[i] = x
    · have c1 : (x == l[i]) = true := by simp [c]
      have c2 : (l[i] == x) = true := by simp [c]
      rw [c1, c2]
      simp [ir_slices_Index_int_intl0, go_sem, hv.is, hv.rows, iI_len, h, e1, c]
    · have c0 : ¬ x = l[i] := fun h => c h.symm
      have c1 : (x == l[i]) = false := by simp [c0]
      have c2 : (l[i] == x) = false := by simp [c]
      have c3 : i + ((l.drop (i + 1)).idxOf x + 1) = i + 1 + (l.drop (i + 1)).idxOf x := by omega
      rw [c1, c2, Bool.false_or, cond_false, c3]
      simp [ir_slices_Index_int_intl0, go_sem, hv.is, hv.rows, iI_len, h, e1, e3, c0, ih, -Int.natCast_add]
  · obtain rfl : i = l.length := by omega
    rw [← hB, s_loop_at hB, List.drop_length]
    simp [ir_slices_Index_int_intl0, go_sem, hv.is, hv.rows, iI_len]
termination_by l.length - i
theorem Contains_ok (v : V) (l : List Int) (hv : Sl v (iI l)) (hl : l.length ≤ 1000) (x : Int) : evI pg .val n_slices_Contains_int_int [v, .int .i64 x] [] = some (.bool (l.contains x), []) := by
  have h := Index_loop v l hv hl x 0 (by omega)
  rw [List.drop_zero, Int.natCast_zero, Nat.zero_add] at h
  have key : evI pg .val n_slices_Index_int_int [v, .int .i64 x] [] = some (.int .i64 (if l.contains x = true then (l.idxOf x : Int) else -1), []) := by
    rw [s_fn fn_slices_Index_int_int]
    by_cases c : l.contains x = true
    · rw [if_pos c] at h
      rw [if_pos c]
      simp [ir_slices_Index_int_int, go_sem, hv.is, hv.rows, iI_len, h]
    · rw [if_neg c] at h
      rw [if_neg c]
      simp [ir_slices_Index_int_int, go_sem, hv.is, hv.rows, iI_len, h]
  rw [s_fn fn_slices_Contains_int_int]
  by_cases c : l.contains x = true
  · rw [if_pos c] at key
    rw [c]
    have : (0 : Int) ≤ (l.idxOf x : Int) := by omega
    simp [ir_slices_Contains_int_int, go_sem, hv.is, key, this]
  · rw [if_neg c] at key
    have c' : l.contains x = false := by simpa using c
    rw [c']
    simp [ir_slices_Contains_int_int, go_sem, hv.is, key]
section
variable (t : Bool) (ev : V) (es : List En) (ep : Int) (hv : Sl ev (enR es)) (ho : okE es)
include hv ho
theorem Ready_loop (i : Nat) (hi : i ≤ es.length) (l : List Int) (hl : l.length ≤ i) :
    evCI pg (.loop ir_sbuf_Buffer_Readyl0) ⟨[.ip t [ev, .int .i64 ep] 0, .undef, .osl false 0 (iI l), .undef, .undef, .undef, ev, .int .i64 (es.length : Int), .int .i64 (i : Int), .undef, .undef], ⟨[[]], [l.length], []⟩⟩ =
      some (.exit 0, ⟨[.ip t [ev, .int .i64 ep] 0, .undef, .osl false 0 (iI (l ++ rdy (lea ep es) (es.drop i) i)), .undef, .undef, .undef, ev, .int .i64 (es.length : Int), .int .i64 (es.length : Int), .bool false, .undef], ⟨[[]], [(l ++ rdy (lea ep es) (es.drop i) i).length], []⟩⟩) := by
  obtain ⟨B, hB⟩ : ∃ B, B = C.loop ir_sbuf_Buffer_Readyl0 := ⟨_, rfl⟩
  by_cases h : i < es.length
  · have e1 := fun m => eng ev es hv h m
    have e3 := succ_i64 h (by have := ho.1; omega)
    have hp : enV es[i] = [.int .i64 es[i].blk, .int .i64 es[i].ep, ils (wsV es[i].st)] := rfl
    rw [hp] at e1
    have hL := least_ok t ev es ep hv ho
    have h4 := ho.1
    rw [List.drop_eq_getElem_cons h]
    unfold rdy
    by_cases c : es[i].ep = lea ep es
    · have ih := Ready_loop (i + 1) (by omega) (l ++ [(i : Int)]) (by simp; omega)
      rw [if_pos c, List.append_cons, ← ih, ← hB]
      conv => lhs; rw [s_loop_at hB]
      have ea := app_oneI (m := ⟨[[]], [l.length], []⟩) (l := l) (x := (i : Int)) rfl (by omega)
      simp only [List.set_cons_zero] at ea
      simp [ir_sbuf_Buffer_Readyl0, go_sem, hv.is, hv.rows, enR_len, h, e1, e3, hL, c, litParts, ea, -Int.natCast_add]
    · have ih := Ready_loop (i + 1) (by omega) l (by omega)
      rw [if_neg c, ← ih, ← hB]
      conv => lhs; rw [s_loop_at hB]
      simp [ir_sbuf_Buffer_Readyl0, go_sem, hv.is, hv.rows, enR_len, h, e1, e3, hL, c, -Int.natCast_add]
  · obtain rfl : i = es.length := by omega
    rw [← hB, s_loop_at hB, List.drop_length]
    simp [ir_sbuf_Buffer_Readyl0, go_sem, hv.is, hv.rows, enR_len, rdy]
termination_by es.length - i
theorem Ready_ok : evI pg .val n_sbuf_Buffer_Ready [.ip t [ev, .int .i64 ep] 0] [] = some (ils (iI (rdy (lea ep es) es 0)), []) := by
  have h := Ready_loop t ev es ep hv ho 0 (by omega) [] (by simp)
  rw [List.drop_zero, Int.natCast_zero, List.nil_append, List.length_nil] at h
  have e0 : iI [] = [] := rfl
  rw [e0] at h
  rw [s_fn fn_sbuf_Buffer_Ready]
  simp [ir_sbuf_Buffer_Ready, go_sem, hv.is, hv.rows, enR_len, h]
theorem Entries_loop (i : Nat) (hi : i ≤ es.length) (l : List (List Wr)) (hl : l.length = i) :
    evCI pg (.loop ir_sbuf_Buffer_Entriesl0) ⟨[.undef, .undef, .osl false 0 (wwR l), .undef, .undef, ev, .int .i64 (es.length : Int), .int .i64 (i : Int), .undef], ⟨[[]], [l.length], []⟩⟩ =
      some (.exit 0, ⟨[.undef, .undef, .osl false 0 (wwR (l ++ (es.drop i).map (·.st))), .undef, .undef, ev, .int .i64 (es.length : Int), .int .i64 (es.length : Int), .bool false], ⟨[[]], [es.length], []⟩⟩) := by
  obtain ⟨B, hB⟩ : ∃ B, B = C.loop ir_sbuf_Buffer_Entriesl0 := ⟨_, rfl⟩
  by_cases h : i < es.length
  · have e1 := fun m => eng ev es hv h m
    have e3 := succ_i64 h (by have := ho.1; omega)
    have hp : enV es[i] = [.int .i64 es[i].blk, .int .i64 es[i].ep, ils (wsV es[i].st)] := rfl
    rw [hp] at e1
    have h4 := ho.1
    have h8 := (ho.2 es[i] (List.getElem_mem _)).1
    have hC := CloneW_ils es[i].st (by omega)
    have ih := Entries_loop (i + 1) (by omega) (l ++ [es[i].st]) (by simp; omega)
    rw [List.drop_eq_getElem_cons h, List.map_cons, List.append_cons, ← ih, ← hB]
    conv => lhs; rw [s_loop_at hB]
    have ea := app_oneW (m := ⟨[[.int .i64 es[i].blk, .int .i64 es[i].ep, ils (wsV es[i].st)]], [l.length], []⟩) (l := l) (s := es[i].st) rfl (by omega)
    simp only [List.set_cons_zero] at ea
    simp [ir_sbuf_Buffer_Entriesl0, go_sem, hv.is, hv.rows, enR_len, h, e1, e3, hC, litParts, ea, -Int.natCast_add]
  · obtain rfl : i = es.length := by omega
    rw [← hB, s_loop_at hB, List.drop_length, hl]
    simp [ir_sbuf_Buffer_Entriesl0, go_sem, hv.is, hv.rows, enR_len]
termination_by es.length - i
theorem Entries_ok : evI pg .val n_sbuf_Buffer_Entries [.ip t [ev, .int .i64 ep] 0] [] = some (ils (wwR (es.map (·.st))), []) := by
  have h := Entries_loop ev es hv ho 0 (by omega) [] (by simp)
  rw [List.drop_zero, Int.natCast_zero, List.nil_append, List.length_nil] at h
  have e0 : wwR [] = [] := rfl
  rw [e0] at h
  rw [s_fn fn_sbuf_Buffer_Entries]
  simp [ir_sbuf_Buffer_Entries, go_sem, hv.is, hv.rows, enR_len, h]
omit hv ho in
theorem Over_loop0 (a n : Int) (lv : V) (L j : Int) (st : List Wr) (hs : st.length ≤ 1000) (hlv : isS lv = true) (i : Nat) (hi : i ≤ st.length) :
    evCI pg (.loop ir_sbuf_Buffer_Overlapsl0) ⟨[.undef, .int .i64 a, .int .i64 n, .undef, .undef, .undef, lv, .int .i64 L, .int .i64 j, .undef, ils (wsV st), .int .i64 (st.length : Int), .int .i64 (i : Int), .undef, .undef], ⟨[[]], [], []⟩⟩ =
      some (if (st.drop i).any (fun w => ovl w.addr w.size a n) = true then (.ret, ⟨[.undef, .undef, .undef, .bool true, .undef, .undef, .undef, .undef, .undef, .undef, .undef, .undef, .undef, .undef, .undef], ⟨[[]], [], []⟩⟩)
        else (.exit 2, ⟨[.undef, .int .i64 a, .int .i64 n, .undef, .undef, .undef, lv, .int .i64 L, .int .i64 j, .undef, ils (wsV st), .int .i64 (st.length : Int), .int .i64 (st.length : Int), .bool false, .undef], ⟨[[]], [], []⟩⟩)) := by
  obtain ⟨B, hB⟩ : ∃ B, B = C.loop ir_sbuf_Buffer_Overlapsl0 := ⟨_, rfl⟩
  by_cases h : i < st.length
  · have e1 := fun m => (Sl.ils (wsV st)).ia (sz := 4) m .i64 (i := i) (by rw [wsV_len]; exact h) (wsV_sz _ _ (List.getElem_mem _))
    simp only [wsV_el] at e1
    have hp : wrV st[i] = [.int .i64 st[i].id, .int .i64 st[i].addr, .int .i64 st[i].size, .int .u64 (st[i].data : Int)] := rfl
    rw [hp] at e1
    have e3 := succ_i64 h (by omega)
    have hO := Overlap_ok st[i].addr st[i].size a n
    have ih := Over_loop0 a n lv L j st hs hlv (i + 1) (by omega)
    rw [List.drop_eq_getElem_cons h, List.any_cons]
    rw [← hB] at ih
    rw [← hB, s_loop_at hB]
    cases c : ovl st[i].addr st[i].size a n with
    | true =>
      rw [c] at hO
      simp [ir_sbuf_Buffer_Overlapsl0, go_sem, hlv, wsV_len, h, e1, hO]
    | false =>
      rw [c] at hO
      simp [ir_sbuf_Buffer_Overlapsl0, go_sem, hlv, wsV_len, h, e1, e3, hO, ih, -Int.natCast_add]
  · obtain rfl : i = st.length := by omega
    rw [← hB, s_loop_at hB, List.drop_length]
    simp [ir_sbuf_Buffer_Overlapsl0, go_sem, hlv, wsV_len]
termination_by st.length - i
omit hv in
theorem Over_loop1 (a n : Int) (j : Nat) (hj : j ≤ es.length) :
    evCI pg (.loop ir_sbuf_Buffer_Overlapsl1) ⟨[.undef, .int .i64 a, .int .i64 n, .undef, .undef, .undef, ils (wwR (es.map (·.st))), .int .i64 (es.length : Int), .int .i64 (j : Int), .undef, .undef, .undef, .undef, .undef, .undef], ⟨[[]], [], []⟩⟩ =
      some (if (es.drop j).any (fun e => e.st.any (fun w => ovl w.addr w.size a n)) = true then (.ret, ⟨[.undef, .undef, .undef, .bool true, .undef, .undef, .undef, .undef, .undef, .undef, .undef, .undef, .undef, .undef, .undef], ⟨[[]], [], []⟩⟩)
        else (.exit 0, ⟨[.undef, .int .i64 a, .int .i64 n, .undef, .undef, .undef, ils (wwR (es.map (·.st))), .int .i64 (es.length : Int), .int .i64 (es.length : Int), .bool false, .undef, .undef, .undef, .undef, .undef], ⟨[[]], [], []⟩⟩)) := by
  obtain ⟨B, hB⟩ : ∃ B, B = C.loop ir_sbuf_Buffer_Overlapsl1 := ⟨_, rfl⟩
  by_cases h : j < es.length
  · have h8 := (ho.2 es[j] (List.getElem_mem _)).1
    have h4 := ho.1
    have e1 := fun m => (Sl.ils (wwR (es.map (·.st)))).ia (sz := 1) m .i64 (i := j) (by rw [wwR_len]; simpa using h) (wwR_sz _ _ (List.getElem_mem _))
    simp only [wwR_el, List.getElem_map] at e1
    have e3 := succ_i64 h (by omega)
    have h0 := Over_loop0 a n (ils (wwR (es.map (·.st)))) (es.length : Int) (j : Int) es[j].st (by omega) (Sl.ils _).is 0 (by omega)
    rw [List.drop_zero, Int.natCast_zero] at h0
    have ih := Over_loop1 a n (j + 1) (by omega)
    rw [List.drop_eq_getElem_cons h, List.any_cons]
    rw [← hB] at ih
    rw [← hB, s_loop_at hB]
    by_cases c : es[j].st.any (fun w => ovl w.addr w.size a n) = true
    · rw [if_pos c] at h0
      rw [c, Bool.true_or, if_pos rfl]
      simp [ir_sbuf_Buffer_Overlapsl1, go_sem, wwR_len, wsV_len, h, e1, h0]
    · rw [if_neg c] at h0
      have c' : es[j].st.any (fun w => ovl w.addr w.size a n) = false := by simpa using c
      rw [c', Bool.false_or]
      simp [ir_sbuf_Buffer_Overlapsl1, go_sem, wwR_len, wsV_len, h, e1, e3, h0, ih, -Int.natCast_add]
  · obtain rfl : j = es.length := by omega
    rw [← hB, s_loop_at hB, List.drop_length]
    simp [ir_sbuf_Buffer_Overlapsl1, go_sem, wwR_len]
termination_by es.length - j
def over13 (es : List En) (a n : Int) : Bool := es.any fun e => e.st.any fun w => ovl w.addr w.size a n
theorem Overlaps_ok (a n : Int) : evI pg .val n_sbuf_Buffer_Overlaps [.ip t [ev, .int .i64 ep] 0, .int .i64 a, .int .i64 n] [] = some (.bool (over13 es a n), []) := by
  have h := Over_loop1 es ho a n 0 (by omega)
  rw [List.drop_zero, Int.natCast_zero] at h
  have hE := Entries_ok t ev es ep hv ho
  rw [s_fn fn_sbuf_Buffer_Overlaps]
  unfold over13
  by_cases c : es.any (fun e => e.st.any (fun w => ovl w.addr w.size a n)) = true
  · rw [if_pos c] at h
    rw [c]
    simp [ir_sbuf_Buffer_Overlaps, go_sem, hv.is, hE, wwR_len, h]
  · rw [if_neg c] at h
    have c' : es.any (fun e => e.st.any (fun w => ovl w.addr w.size a n)) = false := by simpa using c
    rw [c']
    simp [ir_sbuf_Buffer_Overlaps, go_sem, hv.is, hE, wwR_len, h]
/-! ### is there one of an epoch? -/
omit hv ho in
theorem Bar1_ok (t' : Bool) (e : En) (hev : isS ev = true) : evI pg .val 33 [.agg (enV e), .ip t' [.ip t [ev, .int .i64 ep] 0] 0] [] = some (.bool (decide (e.ep = ep)), []) := by
  rw [s_fn fn_sbuf_Buffer_Barrier_1]
  unfold enV
  simp [ir_sbuf_Buffer_Barrier_1, go_sem, hev]
theorem IndexF_loop (t' : Bool) (i : Nat) (hi : i ≤ es.length) :
    evCI pg (.loop ir_slices_IndexFunc_sbuf_entry_sbuf_entryl0) ⟨[ev, .fn 33 [] [.ip t' [.ip t [ev, .int .i64 ep] 0] 0], .undef, .undef, .int .i64 (es.length : Int), .int .i64 (i : Int), .undef, .undef], ⟨[], [], []⟩⟩ =
      some (if (es.drop i).any (fun e => decide (e.ep = ep)) = true then (.ret, ⟨[.undef, .undef, .int .i64 ((i + (es.drop i).findIdx (fun e => decide (e.ep = ep)) : Nat) : Int), .undef, .undef, .undef, .undef, .undef], ⟨[], [], []⟩⟩)
        else (.exit 0, ⟨[ev, .fn 33 [] [.ip t' [.ip t [ev, .int .i64 ep] 0] 0], .undef, .undef, .int .i64 (es.length : Int), .int .i64 (es.length : Int), .bool false, .undef], ⟨[], [], []⟩⟩)) := by
  obtain ⟨B, hB⟩ : ∃ B, B = C.loop ir_slices_IndexFunc_sbuf_entry_sbuf_entryl0 := ⟨_, rfl⟩
  by_cases h : i < es.length
  · have e1 := fun m => eng ev es hv h m
    have e3 := succ_i64 h (by have := ho.1; omega)
    have hb := Bar1_ok t ev ep t' es[i] hv.is
    have hp : enV es[i] = [.int .i64 es[i].blk, .int .i64 es[i].ep, ils (wsV es[i].st)] := rfl
    rw [hp] at e1 hb
    have ih := IndexF_loop t' (i + 1) (by omega)
    rw [List.drop_eq_getElem_cons h, List.any_cons, List.findIdx_cons]
    rw [← hB] at ih
    rw [← hB, s_loop_at hB]
    by_cases c : es[i].ep = ep
    · rw [decide_eq_true c] at hb ⊢
      rw [Bool.true_or, if_pos rfl, cond_true]
      simp [ir_slices_IndexFunc_sbuf_entry_sbuf_entryl0, go_sem, hv.is, hv.rows, enR_len, h, e1, hb]
    · rw [decide_eq_false c] at hb ⊢
      have c3 : i + ((es.drop (i + 1)).findIdx (fun e => decide (e.ep = ep)) + 1) = i + 1 + (es.drop (i + 1)).findIdx (fun e => decide (e.ep = ep)) := by omega
      rw [Bool.false_or, cond_false, c3]
      simp [ir_slices_IndexFunc_sbuf_entry_sbuf_entryl0, go_sem, hv.is, hv.rows, enR_len, h, e1, e3, hb, ih, -Int.natCast_add]
  · obtain rfl : i = es.length := by omega
    rw [← hB, s_loop_at hB, List.drop_length]
    simp [ir_slices_IndexFunc_sbuf_entry_sbuf_entryl0, go_sem, hv.is, hv.rows, enR_len]
termination_by es.length - i
theorem ContainsF_ok (t' : Bool) : evI pg .val n_slices_ContainsFunc_sbuf_entry_sbuf_entry [ev, .fn 33 [] [.ip t' [.ip t [ev, .int .i64 ep] 0] 0]] [] = some (.bool (es.any fun e => decide (e.ep = ep)), []) := by
  have h := IndexF_loop t ev es ep hv ho t' 0 (by omega)
  rw [List.drop_zero, Int.natCast_zero, Nat.zero_add] at h
  have key : evI pg .val n_slices_IndexFunc_sbuf_entry_sbuf_entry [ev, .fn 33 [] [.ip t' [.ip t [ev, .int .i64 ep] 0] 0]] [] = some (.int .i64 (if es.any (fun e => decide (e.ep = ep)) = true then ((es.findIdx (fun e => decide (e.ep = ep)) : Nat) : Int) else -1), []) := by
    rw [s_fn fn_slices_IndexFunc_sbuf_entry_sbuf_entry]
    by_cases c : es.any (fun e => decide (e.ep = ep)) = true
    · rw [if_pos c] at h
      rw [if_pos c]
      simp [ir_slices_IndexFunc_sbuf_entry_sbuf_entry, go_sem, hv.is, hv.rows, enR_len, h]
    · rw [if_neg c] at h
      rw [if_neg c]
      simp [ir_slices_IndexFunc_sbuf_entry_sbuf_entry, go_sem, hv.is, hv.rows, enR_len, h]
  rw [s_fn fn_slices_ContainsFunc_sbuf_entry_sbuf_entry]
  by_cases c : es.any (fun e => decide (e.ep = ep)) = true
  · rw [if_pos c] at key
    rw [c]
    have : (0 : Int) ≤ ((es.findIdx (fun e => decide (e.ep = ep)) : Nat) : Int) := by omega
    simp [ir_slices_ContainsFunc_sbuf_entry_sbuf_entry, go_sem, hv.is, key, this]
  · rw [if_neg c] at key
    have c' : es.any (fun e => decide (e.ep = ep)) = false := by simpa using c
    rw [c']
    simp [ir_slices_ContainsFunc_sbuf_entry_sbuf_entry, go_sem, hv.is, key]
end
end Go.Proofs.Ytaedicechhbhdaa
