/- Layer 13: what the program's buffer comes to, looked at (no claim; lemmas). -/
import Derived.Test.YtaedicechhbhdaaW2
set_option linter.unusedSimpArgs false
set_option linter.unusedVariables false
namespace Go.Proofs.Ytaedicechhbhdaa
open Go Go.Vm

/-- An entry. -/
structure En where
  (blk ep : Int) (st : List Wr)
def enV (e : En) : List V := [.int .i64 e.blk, .int .i64 e.ep, ils (wsV e.st)]
def enR (es : List En) : List (List V) := es.map enV
theorem enR_len (l : List En) : (enR l).length = l.length := by simp [enR]
theorem enR_el (l : List En) (i : Nat) (h : i < (enR l).length) : (enR l)[i] = enV (l[i]'(by simpa [enR] using h)) := by simp [enR]
theorem enR_sz (l : List En) : ∀ e ∈ enR l, e.length = 3 := by
  intro e he
  obtain ⟨w, _, rfl⟩ := List.mem_map.1 he
  rfl
/-- A store that may be in a buffer. -/
def okS (w : Wr) : Prop := 0 ≤ w.addr ∧ w.addr ≤ 1024 ∧ 1 ≤ w.size ∧ w.size ≤ 8 ∧ w.data < 18446744073709551616
def okE (es : List En) : Prop := es.length ≤ 4 ∧ ∀ e ∈ es, e.st.length ≤ 8 ∧ (0 ≤ e.ep ∧ e.ep ≤ 100) ∧ ∀ w ∈ e.st, okS w

def mayW (w : Wr) : Bool := decide (0 ≤ w.id) && (algn w.addr w.size && decide (w.addr ≤ 1024))
theorem may_ok (w : Wr) : evI pg .val n_sbuf_may [.agg (wrV w)] [] = some (.bool (mayW w), []) := by
  have h := Aligned_ok w.addr w.size
  obtain ⟨a, b, c, d⟩ := w
  unfold mayW
  rw [s_fn fn_sbuf_may]
  simp only at h ⊢
  by_cases c1 : 0 ≤ a
  · cases q : algn b c with
    | true => rw [q] at h; simp [ir_sbuf_may, go_sem, wrV, c1, h]
    | false => rw [q] at h; simp [ir_sbuf_may, go_sem, wrV, c1, h]
  · simp [ir_sbuf_may, go_sem, wrV, c1]

/-- The least epoch. -/
def lea : Int → List En → Int
  | a, [] => a
  | a, e :: es => lea (if e.ep < a then e.ep else a) es
/-- The place that a store would come to. -/
def plc (b ep : Int) : List En → Nat → Nat × Bool
  | [], i => (i, decide (i < 4))
  | e :: es, i => if e.blk = b ∧ e.ep = ep then (i, decide (e.st.length < 8)) else plc b ep es (i + 1)
def fits13 (es : List En) (ep : Int) (w : Wr) : Bool := mayW w && (plc (w.addr / 8) ep es 0).2
/-- Has a store a byte? -/
def cov (at_ : Int) (w : Wr) : Bool := decide (w.addr ≤ at_ ∧ at_ - w.addr < w.size)
def lastC (at_ : Int) (st : List Wr) : Option Wr := st.reverse.find? (cov at_)
def fndF (at_ : Int) : Wr × Int → List En → Wr × Int
  | b, [] => b
  | b, e :: es => fndF at_ (if e.ep < b.2 then b else match lastC at_ e.st with
    | some w => (w, e.ep)
    | none => b) es
def zW : Wr := ⟨0, 0, 0, 0⟩
def fndV (r : Wr × Int) (at_ : Int) : V :=
  if r.2 < 0 then .tup [.int .u8 0, .int .i64 0, .bool false]
  else .tup [.int .u8 ((r.1.data / 2 ^ (8 * (at_ - r.1.addr)).toNat % 256 : Nat) : Int), .int .i64 r.1.id, .bool true]
/-- Which may go. -/
def rdy (m : Int) : List En → Nat → List Int
  | [], _ => []
  | e :: es, i => if e.ep = m then (i : Int) :: rdy m es (i + 1) else rdy m es (i + 1)

section
variable (t : Bool) (ev : V) (es : List En) (ep : Int) (hv : Sl ev (enR es)) (ho : okE es)
include hv ho
omit ho in
theorem eng {i : Nat} (h : i < es.length) (m : Mem) : iaSV 3 m ev (.int .i64 (i : Int)) = some (.ip (tg ev) (enV es[i]) 0) := by
  have := hv.ia (sz := 3) m .i64 (i := i) (by rw [enR_len]; exact h) (enR_sz _ _ (List.getElem_mem _))
  rwa [enR_el] at this
theorem least_loop (i : Nat) (hi : i ≤ es.length) (a : Int) :
    evCI pg (.loop ir_sbuf_Buffer_leastl0) ⟨[.undef, .undef, .int .i64 a, .undef, ev, .int .i64 (es.length : Int), .int .i64 (i : Int), .undef], ⟨[[]], [], []⟩⟩ =
      some (.exit 0, ⟨[.undef, .undef, .int .i64 (lea a (es.drop i)), .undef, ev, .int .i64 (es.length : Int), .int .i64 (es.length : Int), .bool false], ⟨[[]], [], []⟩⟩) := by
  obtain ⟨B, hB⟩ : ∃ B, B = C.loop ir_sbuf_Buffer_leastl0 := ⟨_, rfl⟩
  by_cases h : i < es.length
  · have e1 := fun m => eng ev es hv h m
    have e3 := succ_i64 h (by have := ho.1; omega)
    have hp : enV es[i] = [.int .i64 es[i].blk, .int .i64 es[i].ep, ils (wsV es[i].st)] := rfl
    rw [hp] at e1
    have ih := least_loop (i + 1) (by omega) (if es[i].ep < a then es[i].ep else a)
    rw [List.drop_eq_getElem_cons h]
    rw [← hB] at ih
    rw [← hB, s_loop_at hB]
    simp [ir_sbuf_Buffer_leastl0, go_sem, hv.is, hv.rows, enR_len, h, e1, e3, foldV, minV, lea, ih, -Int.natCast_add]
  · obtain rfl : i = es.length := by omega
    rw [← hB, s_loop_at hB, List.drop_length]
    simp [ir_sbuf_Buffer_leastl0, go_sem, hv.is, hv.rows, enR_len, lea]
termination_by es.length - i
theorem least_ok : evI pg .val n_sbuf_Buffer_least [.ip t [ev, .int .i64 ep] 0] [] = some (.int .i64 (lea ep es), []) := by
  have h := least_loop ev es hv ho 0 (by omega) ep
  rw [List.drop_zero, Int.natCast_zero] at h
  rw [s_fn fn_sbuf_Buffer_least]
  simp [ir_sbuf_Buffer_least, go_sem, hv.is, hv.rows, enR_len, h]
theorem Elder_ok : evI pg .val n_sbuf_Buffer_Elder [.ip t [ev, .int .i64 ep] 0] [] = some (.bool (decide (lea ep es < ep)), []) := by
  have h := least_ok t ev es ep hv ho
  rw [s_fn fn_sbuf_Buffer_Elder]
  simp [ir_sbuf_Buffer_Elder, go_sem, hv.is, hv.rows, enR_len, h]
omit ho in
theorem Empty_ok : evI pg .val n_sbuf_Buffer_Empty [.ip t [ev, .int .i64 ep] 0] [] = some (.bool (decide (es.length = 0)), []) := by
  rw [s_fn fn_sbuf_Buffer_Empty]
  simp [ir_sbuf_Buffer_Empty, go_sem, hv.is, hv.rows, enR_len]
theorem place_loop (w : Wr) (hw : 0 ≤ w.addr ∧ w.addr ≤ 1024) (i : Nat) (hi : i ≤ es.length) :
    evCI pg (.loop ir_sbuf_Buffer_placel0) ⟨[.ip t [ev, .int .i64 ep] 0, .undef, .lp 0 0, .undef, .undef, .undef, .undef, ev, .int .i64 (es.length : Int), .int .i64 (i : Int), .undef, .undef], ⟨[wrV w, []], [], []⟩⟩ =
      some (if (es.drop i).any (fun e => decide (e.blk = w.addr / 8) && decide (e.ep = ep)) = true then (.ret, ⟨[.undef, .undef, .undef, .int .i64 ((plc (w.addr / 8) ep (es.drop i) i).1 : Nat), .bool (plc (w.addr / 8) ep (es.drop i) i).2, .undef, .undef, .undef, .undef, .undef, .undef, .undef], ⟨[[], []], [], []⟩⟩)
        else (.exit 0, ⟨[.ip t [ev, .int .i64 ep] 0, .undef, .lp 0 0, .undef, .undef, .undef, .undef, ev, .int .i64 (es.length : Int), .int .i64 (es.length : Int), .bool false, .undef], ⟨[wrV w, []], [], []⟩⟩)) := by
  obtain ⟨B, hB⟩ : ∃ B, B = C.loop ir_sbuf_Buffer_placel0 := ⟨_, rfl⟩
  by_cases h : i < es.length
  · have e1 := fun m => eng ev es hv h m
    have e3 := succ_i64 h (by have := ho.1; omega)
    have hp : enV es[i] = [.int .i64 es[i].blk, .int .i64 es[i].ep, ils (wsV es[i].st)] := rfl
    rw [hp] at e1
    have ih := place_loop w hw (i + 1) (by omega)
    have e8 : w.addr.tdiv 8 = w.addr / 8 := by rw [Int.tdiv_eq_ediv_of_nonneg hw.1]
    have e9 : IntKind.i64.wrap (w.addr / 8) = w.addr / 8 := wrap_i64 (by omega) (by omega)
    rw [List.drop_eq_getElem_cons h, List.any_cons]
    rw [← hB] at ih
    rw [← hB, s_loop_at hB]
    obtain ⟨w1, w2, w3, w4⟩ := w
    simp only at e8 e9 ih ⊢
    unfold plc
    unfold wrV at ih ⊢
    have hl8 : ((es[i].st.length : Nat) : Int) < 8 ↔ es[i].st.length < 8 := by omega
    by_cases d1 : es[i].blk = w2 / 8
    · by_cases d2 : es[i].ep = ep
      · simp [ir_sbuf_Buffer_placel0, go_sem, hv.is, hv.rows, enR_len, h, e1, e3, e8, e9, d1, d2, wsV_len, hl8, -Int.natCast_add]
      · simp [ir_sbuf_Buffer_placel0, go_sem, hv.is, hv.rows, enR_len, h, e1, e3, e8, e9, d1, d2, ih, -Int.natCast_add]
    · simp [ir_sbuf_Buffer_placel0, go_sem, hv.is, hv.rows, enR_len, h, e1, e3, e8, e9, d1, ih, -Int.natCast_add]
  · obtain rfl : i = es.length := by omega
    rw [← hB, s_loop_at hB, List.drop_length]
    simp [ir_sbuf_Buffer_placel0, go_sem, hv.is, hv.rows, enR_len]
termination_by es.length - i
omit hv ho in
theorem plc_none (b : Int) : ∀ (es : List En) (i : Nat), es.any (fun e => decide (e.blk = b) && decide (e.ep = ep)) = false → plc b ep es i = (i + es.length, decide (i + es.length < 4))
  | [], i, _ => by simp [plc]
  | e :: es, i, h => by
    rw [List.any_cons, Bool.or_eq_false_iff] at h
    unfold plc
    rw [if_neg (by simpa using h.1), plc_none b es (i + 1) h.2, List.length_cons, show i + 1 + es.length = i + (es.length + 1) by omega]
theorem place_ok (w : Wr) (hw : 0 ≤ w.addr ∧ w.addr ≤ 1024) : evI pg .val n_sbuf_Buffer_place [.ip t [ev, .int .i64 ep] 0, .agg (wrV w)] [] = some (.tup [.int .i64 ((plc (w.addr / 8) ep es 0).1 : Nat), .bool (plc (w.addr / 8) ep es 0).2], []) := by
  have h := place_loop t ev es ep hv ho w hw 0 (by omega)
  rw [List.drop_zero, Int.natCast_zero] at h
  rw [s_fn fn_sbuf_Buffer_place]
  obtain ⟨w1, w2, w3, w4⟩ := w
  unfold wrV at h ⊢
  simp only at h hw ⊢
  by_cases c : es.any (fun e => decide (e.blk = w2 / 8) && decide (e.ep = ep)) = true
  · rw [if_pos c] at h
    simp [ir_sbuf_Buffer_place, go_sem, hv.is, hv.rows, enR_len, h]
  · rw [if_neg c] at h
    have hl : ((es.length : Nat) : Int) < 4 ↔ es.length < 4 := by omega
    rw [plc_none ep (w2 / 8) es 0 (by simpa using c), Nat.zero_add]
    simp [ir_sbuf_Buffer_place, go_sem, hv.is, hv.rows, enR_len, h, hl]
omit hv ho in
theorem may_addr {w : Wr} (h : mayW w = true) : 0 ≤ w.addr ∧ w.addr ≤ 1024 ∧ 1 ≤ w.size ∧ w.size ≤ 8 := by
  unfold mayW algn at h
  simp only [Bool.and_eq_true, decide_eq_true_eq] at h
  omega
theorem Fits_ok (w : Wr) : evI pg .val n_sbuf_Buffer_Fits [.ip t [ev, .int .i64 ep] 0, .agg (wrV w)] [] = some (.bool (fits13 es ep w), []) := by
  have hm := may_ok w
  rw [s_fn fn_sbuf_Buffer_Fits]
  unfold fits13
  cases c : mayW w with
  | false =>
    rw [c] at hm
    obtain ⟨w1, w2, w3, w4⟩ := w
    unfold wrV at hm ⊢
    simp [ir_sbuf_Buffer_Fits, go_sem, hv.is, hv.rows, enR_len, hm, unV]
  | true =>
    rw [c] at hm
    have hb := may_addr c
    have hp := place_ok t ev es ep hv ho w ⟨hb.1, hb.2.1⟩
    obtain ⟨w1, w2, w3, w4⟩ := w
    unfold wrV at hm hp ⊢
    simp only at hp ⊢
    simp [ir_sbuf_Buffer_Fits, go_sem, hv.is, hv.rows, enR_len, hm, hp, unV]
/-! ### finding -/
omit hv ho in
theorem lastC_succ (at_ : Int) (st : List Wr) (k : Nat) (h : k < st.length) : lastC at_ (st.take (k + 1)) = if cov at_ st[k] = true then some st[k] else lastC at_ (st.take k) := by
  unfold lastC
  rw [List.take_succ_eq_append_getElem h, List.reverse_append, List.reverse_singleton, List.singleton_append, List.find?_cons]
  split <;> rename_i hc
  · rw [if_pos hc]
  · rw [if_neg (by simp [hc])]
omit ho in
theorem Find_loop0 (at_ b ep' : Int) (hat : -9223372036854775808 ≤ at_ ∧ at_ ≤ 9223372036854775807) (j : Nat) (bw : Wr) (e : En) (he : e.st.length ≤ 8) (hs : ∀ w ∈ e.st, okS w) (k : Nat) (hk : k ≤ e.st.length) :
    evCI pg (.loop ir_sbuf_Buffer_Findl0) ⟨[.undef, .int .i64 at_, .undef, .undef, .undef, .lp 0 0, .int .i64 ep', .lp 1 0, .int .i64 ((k : Int) - 1), .undef, .undef, ev, .int .i64 (es.length : Int), .int .i64 (j : Int), .undef, .undef, .undef, .undef, .undef], ⟨[wrV bw, enV e, []], [], []⟩⟩ =
      some (match lastC at_ (e.st.take k) with
        | some w => (.exit 1, ⟨[.undef, .int .i64 at_, .undef, .undef, .undef, .lp 0 0, .int .i64 e.ep, .undef, .undef, .undef, .undef, ev, .int .i64 (es.length : Int), .int .i64 (j : Int), .undef, .undef, .undef, .undef, .undef], ⟨[wrV w, [], []], [], []⟩⟩)
        | none => (.exit 2, ⟨[.undef, .int .i64 at_, .undef, .undef, .undef, .lp 0 0, .int .i64 ep', .lp 1 0, .int .i64 (-1), .undef, .undef, ev, .int .i64 (es.length : Int), .int .i64 (j : Int), .undef, .undef, .bool false, .undef, .undef], ⟨[wrV bw, enV e, []], [], []⟩⟩)) := by
  obtain ⟨B, hB⟩ : ∃ B, B = C.loop ir_sbuf_Buffer_Findl0 := ⟨_, rfl⟩
  cases k with
  | zero =>
    rw [← hB, s_loop_at hB]
    obtain ⟨b1, b2, b3, b4⟩ := bw
    unfold enV
    simp [ir_sbuf_Buffer_Findl0, go_sem, hv.is, hv.rows, enR_len, lastC, wrV]
  | succ k =>
    have hk' : k < e.st.length := by omega
    have hok := hs e.st[k] (List.getElem_mem _)
    have ih := Find_loop0 at_ b ep' hat j bw e he hs k (by omega)
    have e0 : ((k + 1 : Nat) : Int) - 1 = (k : Int) := by omega
    have e1 := fun m => (Sl.ils (wsV e.st)).ia (sz := 4) m .i64 (i := k) (by rw [wsV_len]; exact hk') (wsV_sz _ _ (List.getElem_mem _))
    simp only [wsV_el] at e1
    have hp : wrV e.st[k] = [.int .i64 e.st[k].id, .int .i64 e.st[k].addr, .int .i64 e.st[k].size, .int .u64 (e.st[k].data : Int)] := rfl
    have e4 : IntKind.i64.wrap ((k : Int) - 1) = (k : Int) - 1 := wrap_i64 (by omega) (by omega)
    unfold okS at hok
    rw [e0, lastC_succ _ _ _ hk']
    rw [← hB] at ih
    rw [← hB, s_loop_at hB]
    by_cases c1 : e.st[k].addr ≤ at_
    · have e5 : IntKind.i64.wrap (at_ - e.st[k].addr) = at_ - e.st[k].addr := wrap_i64 (by omega) (by omega)
      by_cases c2 : at_ - e.st[k].addr < e.st[k].size
      · have hc : cov at_ e.st[k] = true := by unfold cov; simp [c1, c2]
        rw [if_pos hc]
        rw [hp] at e1
        simp only
        rw [hp]
        obtain ⟨b1, b2, b3, b4⟩ := bw
        unfold enV wrV
        simp [ir_sbuf_Buffer_Findl0, go_sem, hv.is, hv.rows, enR_len, e1, e5, c1, c2]
      · have hc : ¬ cov at_ e.st[k] = true := by unfold cov; simp [c1, c2]
        rw [if_neg hc, ← ih]
        rw [hp] at e1
        obtain ⟨b1, b2, b3, b4⟩ := bw
        unfold enV wrV
        simp [ir_sbuf_Buffer_Findl0, go_sem, hv.is, hv.rows, enR_len, e1, e4, e5, c1, c2]
    · have hc : ¬ cov at_ e.st[k] = true := by unfold cov; simp [c1]
      rw [if_neg hc, ← ih]
      rw [hp] at e1
      obtain ⟨b1, b2, b3, b4⟩ := bw
      unfold enV wrV
      simp [ir_sbuf_Buffer_Findl0, go_sem, hv.is, hv.rows, enR_len, e1, e4, c1]
theorem Find_loop1 (at_ : Int) (hat : -9223372036854775808 ≤ at_ ∧ at_ ≤ 9223372036854775807) (j : Nat) (hj : j ≤ es.length) (r : Wr × Int) :
    evCI pg (.loop ir_sbuf_Buffer_Findl1) ⟨[.undef, .int .i64 at_, .undef, .undef, .undef, .lp 0 0, .int .i64 r.2, .undef, .undef, .undef, .undef, ev, .int .i64 (es.length : Int), .int .i64 (j : Int), .undef, .undef, .undef, .undef, .undef], ⟨[wrV r.1, [], []], [], []⟩⟩ =
      some (.exit 0, ⟨[.undef, .int .i64 at_, .undef, .undef, .undef, .lp 0 0, .int .i64 (fndF at_ r (es.drop j)).2, .undef, .undef, .undef, .undef, ev, .int .i64 (es.length : Int), .int .i64 (es.length : Int), .bool false, .undef, .undef, .undef, .undef], ⟨[wrV (fndF at_ r (es.drop j)).1, [], []], [], []⟩⟩) := by
  obtain ⟨B, hB⟩ : ∃ B, B = C.loop ir_sbuf_Buffer_Findl1 := ⟨_, rfl⟩
  by_cases h : j < es.length
  · have hmem := ho.2 es[j] (List.getElem_mem _)
    have e1 := fun m => eng ev es hv h m
    have e3 := succ_i64 h (by have := ho.1; omega)
    have hp : enV es[j] = [.int .i64 es[j].blk, .int .i64 es[j].ep, ils (wsV es[j].st)] := rfl
    have h0 := Find_loop0 ev es hv at_ 0 r.2 hat j r.1 es[j] hmem.1 hmem.2.2 es[j].st.length (Nat.le_refl _)
    rw [List.take_length] at h0
    have el : IntKind.i64.wrap (((es[j].st.length : Nat) : Int) - 1) = ((es[j].st.length : Nat) : Int) - 1 := wrap_i64 (by omega) (by omega)
    rw [List.drop_eq_getElem_cons h]
    unfold fndF
    by_cases c : es[j].ep < r.2
    · have ih := Find_loop1 at_ hat (j + 1) (by omega) r
      rw [if_pos c, ← ih, ← hB]
      conv => lhs; rw [s_loop_at hB]
      rw [hp] at e1
      obtain ⟨⟨b1, b2, b3, b4⟩, r2⟩ := r
      unfold wrV
      simp only at c
      simp [ir_sbuf_Buffer_Findl1, go_sem, hv.is, hv.rows, enR_len, h, e1, e3, c, -Int.natCast_add]
    · rw [if_neg c]
      cases q : lastC at_ es[j].st with
      | none =>
        rw [q] at h0
        have ih := Find_loop1 at_ hat (j + 1) (by omega) r
        simp only at h0 ⊢
        rw [← ih, ← hB]
        conv => lhs; rw [s_loop_at hB]
        rw [hp] at e1 h0
        obtain ⟨⟨b1, b2, b3, b4⟩, r2⟩ := r
        unfold wrV at h0 ⊢
        simp only at c h0
        simp [ir_sbuf_Buffer_Findl1, go_sem, hv.is, hv.rows, enR_len, h, e1, e3, c, el, wsV_len, h0, -Int.natCast_add]
      | some w =>
        rw [q] at h0
        have ih := Find_loop1 at_ hat (j + 1) (by omega) (w, es[j].ep)
        simp only at h0 ih ⊢
        rw [← ih, ← hB]
        conv => lhs; rw [s_loop_at hB]
        rw [hp] at e1 h0
        obtain ⟨⟨b1, b2, b3, b4⟩, r2⟩ := r
        obtain ⟨w1, w2, w3, w4⟩ := w
        unfold wrV at h0 ⊢
        simp only at c h0
        simp [ir_sbuf_Buffer_Findl1, go_sem, hv.is, hv.rows, enR_len, h, e1, e3, c, el, wsV_len, h0, -Int.natCast_add]
  · obtain rfl : j = es.length := by omega
    rw [← hB, s_loop_at hB, List.drop_length]
    obtain ⟨⟨b1, b2, b3, b4⟩, r2⟩ := r
    simp [ir_sbuf_Buffer_Findl1, go_sem, hv.is, hv.rows, enR_len, fndF, wrV]
termination_by es.length - j
omit hv in
theorem fndF_ok (at_ : Int) (r : Wr × Int) : ∀ (l : List En), (∀ e ∈ l, e ∈ es) → (0 ≤ (fndF at_ r l).2 → fndF at_ r l = r ∨ (okS (fndF at_ r l).1 ∧ cov at_ (fndF at_ r l).1 = true)) := by
  intro l
  induction l generalizing r with
  | nil => intro _ _; exact .inl rfl
  | cons e l ih =>
    intro hl h0
    unfold fndF at h0 ⊢
    by_cases c : e.ep < r.2
    · rw [if_pos c] at h0 ⊢
      exact ih r (fun x hx => hl x (List.mem_cons_of_mem _ hx)) h0
    · rw [if_neg c] at h0 ⊢
      cases q : lastC at_ e.st with
      | none =>
        rw [q] at h0
        exact ih r (fun x hx => hl x (List.mem_cons_of_mem _ hx)) h0
      | some w =>
        rw [q] at h0
        have hm : w ∈ e.st := by
          unfold lastC at q
          have := List.mem_of_find?_eq_some q
          simpa using this
        have hc : cov at_ w = true := by
          unfold lastC at q
          exact List.find?_some q
        have hok : okS w := (ho.2 e (hl e (by simp))).2.2 w hm
        right
        rcases ih (w, e.ep) (fun x hx => hl x (List.mem_cons_of_mem _ hx)) h0 with h | h
        · simp only at h ⊢
          rw [h]
          exact ⟨hok, hc⟩
        · exact h
theorem Find_ok (at_ : Int) (hat : -9223372036854775808 ≤ at_ ∧ at_ ≤ 9223372036854775807) : evI pg .val n_sbuf_Buffer_Find [.ip t [ev, .int .i64 ep] 0, .int .i64 at_] [] = some (fndV (fndF at_ (zW, -1) es) at_, []) := by
  have h := Find_loop1 ev es hv ho at_ hat 0 (by omega) (zW, -1)
  rw [List.drop_zero, Int.natCast_zero] at h
  have hz : wrV zW = [.int .i64 0, .int .i64 0, .int .i64 0, .int .u64 0] := rfl
  have hk := fndF_ok es ho at_ (zW, -1) es (fun _ h => h)
  revert h hk
  generalize fndF at_ (zW, -1) es = r
  intro h hk
  obtain ⟨⟨w1, w2, w3, w4⟩, r2⟩ := r
  rw [hz] at h
  unfold wrV at h
  rw [s_fn fn_sbuf_Buffer_Find]
  unfold fndV
  by_cases c : r2 < 0
  · simp only at h ⊢
    rw [if_pos c]
    simp [ir_sbuf_Buffer_Find, go_sem, hv.is, hv.rows, enR_len, h, c]
  · have hh := hk (by simp only; omega)
    have hok : okS ⟨w1, w2, w3, w4⟩ ∧ cov at_ ⟨w1, w2, w3, w4⟩ = true := by
      rcases hh with hh | hh
      · have := congrArg Prod.snd hh
        simp only at this
        omega
      · exact hh
    obtain ⟨hok, hc⟩ := hok
    unfold cov at hc
    unfold okS at hok
    simp only [decide_eq_true_eq] at hc hok h
    simp only
    rw [if_neg c]
    obtain ⟨d, hd⟩ : ∃ d : Nat, at_ - w2 = d := ⟨(at_ - w2).toNat, by omega⟩
    rw [hd]
    have e1 : IntKind.i64.wrap (at_ - w2) = (d : Int) := by rw [hd]; exact wrap_i64 (by omega) (by omega)
    have e2 : IntKind.i64.wrap (8 * (d : Int)) = ((8 * d : Nat) : Int) := by rw [wrap_i64 (by omega) (by omega)]; rfl
    have e3 : (8 * (d : Int)).toNat = 8 * d := by omega
    have e4 : ((w4 : Int)).fdiv (2 ^ (8 * d)) = ((w4 / 2 ^ (8 * d) : Nat) : Int) := shr_nat _ _
    have e5 : IntKind.u8.wrap ((w4 / 2 ^ (8 * d) : Nat) : Int) = ((w4 / 2 ^ (8 * d) % 256 : Nat) : Int) := by
      show ((w4 / 2 ^ (8 * d) : Nat) : Int) % 256 = _
      rw [Int.natCast_emod]; rfl
    have em : min (8 * d) 64 = 8 * d := by omega
    rw [e3]
    have hsh : ¬ ((8 * d : Nat) : Int) < 0 := by omega
    simp [ir_sbuf_Buffer_Find, go_sem, hv.is, hv.rows, enR_len, h, c, e1, e2, e4, e5, em, hsh, IntKind.bits, -Int.natCast_mul, -Int.natCast_emod, -Int.natCast_ediv, -Int.natCast_pow]
end
end Go.Proofs.Ytaedicechhbhdaa
