/- Layer 12: the program's memory, by what it is; what laws are handed (no claim; lemmas). -/
import Derived.Test.YtbloiihagbcfpaaK12e
import Derived.Test.YtbloiihagbcfpaaRows
set_option linter.unusedSimpArgs false
set_option linter.unusedVariables false
namespace Go.Proofs.Ytbloiihagbcfpaa
open Go Go.Vm

structure Rm where
  (bytes : List Nat) (tags : List Int) (log : List Wr) (r : P3)
def Rm.store (s : Rm) (hv : Int) (w : Wr) : Rm := if stOk s.bytes.length hv w then
    ⟨setL s.bytes w.addr.toNat (byl (zw w).data w.size.toNat), setL s.tags w.addr.toNat (List.replicate w.size.toNat w.id), s.log ++ [zw w], dropO s.r hv w⟩ else s
abbrev RmS (H : List Vm.Obj) (p : Nat) (bv tv lv : V) (s : Rm) : Prop := RmAt H p bv tv lv s.bytes s.tags s.log s.r
theorem Rm.store_len (s : Rm) (hv : Int) (w : Wr) : (s.store hv w).bytes.length = s.bytes.length ∧ (s.store hv w).log.length ≤ s.log.length + 1 := by
  unfold Rm.store
  split
  · exact ⟨setL_len _ _ _, by simp⟩
  · exact ⟨rfl, by omega⟩
theorem Store_ok {H : List Vm.Obj} {p : Nat} {bv tv lv : V} {s : Rm} (h : RmS H p bv tv lv s) (hv : Int) (w : Wr) (hd : w.data < 18446744073709551616) (hlog : s.log.length ≤ 1000000) :
    ∃ lv' H', evI pg .heap n_ram_Ram_Store [.ptr p 0 0, .int .i64 hv, .agg (wrV w)] H = some (.bool (stOk s.bytes.length hv w), H') ∧ RmS H' p bv tv lv' (s.store hv w) ∧
      Frm H H' (foot p bv tv lv) ∧ (vid lv' = vid lv ∨ vid lv' = some H.length) := by
  cases hq : stOk s.bytes.length hv w with
  | true =>
    obtain ⟨lv', H', h1, h2, h3, h4⟩ := Store_yes h hv w hd hlog hq
    refine ⟨lv', H', h1, ?_, h3, h4⟩
    unfold Rm.store RmS
    rw [if_pos hq]
    exact h2
  | false =>
    refine ⟨lv, H, Store_no h hv w hq, ?_, ⟨fun _ _ h _ => h, Nat.le_refl _⟩, .inl rfl⟩
    unfold Rm.store RmS
    rw [if_neg (by rw [hq]; simp)]
    exact h
/-- What a call that only looks sees. -/
structure Img (H : List Vm.Obj) (p : Nat) (bv tv lv : V) (s : Rm) (bu tu lu : V) : Prop where
  o : H[p]? = some (.arr [[bv, tv, lv, .int .i64 s.r.a0, .int .i64 s.r.n0, .int .i64 s.r.a1, .int .i64 s.r.n1, .int .i64 s.r.a2, .int .i64 s.r.n2]])
  bi : ∀ vs tk d, toImm ⟨vs, tk, H⟩ true (d + 2) bv = some bu
  ti : ∀ vs tk d, toImm ⟨vs, tk, H⟩ true (d + 2) tv = some tu
  li : ∀ vs tk d, toImm ⟨vs, tk, H⟩ true (d + 2) lv = some lu
  b : Sl bu (byV s.bytes)
  t : Sl tu (iI s.tags)
  l : Sl lu (wsV s.log)
theorem RmAt.img {H : List Vm.Obj} {p : Nat} {bv tv lv : V} {s : Rm} (h : RmS H p bv tv lv s) : ∃ bu tu lu, Img H p bv tv lv s bu tu lu := by
  obtain ⟨bu, b1, b2⟩ := h.b.imm (byV_plain _)
  obtain ⟨tu, t1, t2⟩ := h.t.imm (iI_plain _)
  obtain ⟨lu, l1, l2⟩ := h.l.imm
  exact ⟨bu, tu, lu, h.obj, b2, t2, l2, b1, t1, l1⟩

/-! ### what is handed -/
structure Act where
  (kind hart : Int) (w : Wr)
def actV (a : Act) : List V := [.int .i64 a.kind, .int .i64 a.hart, .int .i64 a.w.id, .int .i64 a.w.addr, .int .i64 a.w.size, .int .u64 (a.w.data : Int)]
def actsV (l : List Act) : List (List V) := l.map actV
theorem actsV_len (l : List Act) : (actsV l).length = l.length := by simp [actsV]
theorem actsV_el (l : List Act) (i : Nat) (h : i < (actsV l).length) : (actsV l)[i] = actV (l[i]'(by simpa [actsV] using h)) := by simp [actsV]
theorem actsV_sz (l : List Act) (i : Nat) (h : i < (actsV l).length) : (actsV l)[i].length = 6 := by rw [actsV_el]; rfl
/-- Numbers as they may be. -/
def i64B (n : Int) : Prop := -9223372036854775808 ≤ n ∧ n ≤ 9223372036854775807
structure okWr (w : Wr) : Prop where
  d : w.data < 18446744073709551616
  a : i64B w.addr
  s : i64B w.size
  i : i64B w.id
theorem alive12 : evI pg .val n_undertowlaw12_alive [] [] = some (.bool true, []) := closed irL_ok 300 (by kernel_rfl)
theorem pv_wr {n : Nat} {vs : List V} (h : PV Try.prog (n + 2) 26 vs) : ∃ w : Wr, vs = wrV w ∧ okWr w := by
  obtain ⟨_, _, rfl, h1, _, _, rfl, h2, _, _, rfl, h3, _, _, rfl, h4, rfl⟩ := pv_struct Try.underlying26 h
  obtain ⟨i, rfl, hi⟩ := pv_i64 Try.underlying3 h1
  obtain ⟨a, rfl, ha⟩ := pv_i64 Try.underlying3 h2
  obtain ⟨s, rfl, hs⟩ := pv_i64 Try.underlying3 h3
  obtain ⟨d, rfl, hd⟩ := pv_u64 Try.underlying24 h4
  exact ⟨⟨i, a, s, d⟩, rfl, hd, ha, hs, hi⟩
structure okAct (a : Act) : Prop where
  w : okWr a.w
  k : i64B a.kind
  h : i64B a.hart
theorem pv_act {n : Nat} {vs : List V} (h : PV Try.prog (n + 3) 32 vs) : ∃ a : Act, vs = actV a ∧ okAct a := by
  obtain ⟨_, _, rfl, h1, _, _, rfl, h2, _, _, rfl, h3, rfl⟩ := pv_struct Try.underlying32 h
  obtain ⟨k, rfl, hk⟩ := pv_i64 Try.underlying3 h1
  obtain ⟨hv, rfl, hh⟩ := pv_i64 Try.underlying3 h2
  obtain ⟨w, rfl, hw⟩ := pv_wr h3
  exact ⟨⟨k, hv, w⟩, rfl, hw, hk, hh⟩
theorem pv_acts {n : Nat} : ∀ es : List (List V), (∀ q ∈ es, PV Try.prog (n + 3) 32 q) → ∃ l : List Act, es = actsV l ∧ ∀ a ∈ l, okAct a
  | [], _ => ⟨[], rfl, by simp⟩
  | q :: es, h => by
    obtain ⟨w, rfl, hw⟩ := pv_act (h q (by simp))
    obtain ⟨l, rfl, hl⟩ := pv_acts es fun q hq => h q (by simp [hq])
    refine ⟨w :: l, rfl, fun x hx => ?_⟩
    rcases List.mem_cons.1 hx with rfl | hx
    · exact hw
    · exact hl x hx
theorem arg_acts {n : Nat} {v : V} (h : ArgPV Try.prog (n + 4) 23 v) : ∃ l : List Act, Sl v (actsV l) ∧ l.length ≤ maxLen ∧ ∀ a ∈ l, okAct a := by
  rcases arg_slice Try.underlying23 h with rfl | ⟨es, rfl, hl, hes⟩
  · exact ⟨[], .nils, by simp [maxLen], by simp⟩
  · obtain ⟨l, rfl, hok⟩ := pv_acts es hes
    exact ⟨l, .isl _ _, by simpa [actsV] using hl, hok⟩
theorem arg_img {n : Nat} {v : V} (h : ArgPV Try.prog (n + 2) 22 v) : ∃ l : List Nat, Sl v (byV l) ∧ l.length ≤ maxLen ∧ ∀ x ∈ l, x < 256 := by
  rcases arg_bytes Try.underlying22 Try.underlying5 h with rfl | ⟨l, h1, h2, rfl⟩
  · exact ⟨[], .nils, by simp [maxLen], by simp⟩
  · exact ⟨l, .isl _ _, h2, h1⟩
theorem arg_wr {n : Nat} {v : V} (h : ArgPV Try.prog (n + 2) 26 v) : ∃ w : Wr, v = .agg (wrV w) ∧ okWr w := by
  simp only [ArgPV, Try.underlying26] at h
  obtain ⟨vs, rfl, h1⟩ := h
  obtain ⟨w, rfl, hw⟩ := pv_wr h1
  exact ⟨w, rfl, hw⟩
theorem arg_act {n : Nat} {v : V} (h : ArgPV Try.prog (n + 3) 32 v) : ∃ a : Act, v = .agg (actV a) ∧ okAct a := by
  simp only [ArgPV, Try.underlying32] at h
  obtain ⟨vs, rfl, h1⟩ := h
  obtain ⟨w, rfl, hw⟩ := pv_act h1
  exact ⟨w, rfl, hw⟩
/-! ### the last write of a byte -/
/-- Has a write a byte? -/
def cov (w : Wr) (at_ : Nat) : Bool := decide (w.addr ≤ (at_ : Int)) && decide ((at_ : Int) < w.addr + w.size)
def byteOf (w : Wr) (at_ : Nat) : Nat := w.data / 256 ^ ((at_ : Int) - w.addr).toNat % 256
def lastS (at_ : Nat) (acc : Nat × Int) (w : Wr) : Nat × Int := if cov w at_ then (byteOf w at_, w.id) else acc
def lastW (x : Nat) (log : List Wr) (at_ : Nat) : Nat × Int := log.foldl (lastS at_) (x, -1)
/-- A write that may be. -/
def okLog (L : Nat) (w : Wr) : Prop := 0 ≤ w.addr ∧ 1 ≤ w.size ∧ w.size ≤ 8 ∧ w.addr + w.size ≤ (L : Int) ∧ w.data < 18446744073709551616
structure LInv (img : List Nat) (s : Rm) : Prop where
  len : s.bytes.length = img.length
  tl : s.tags.length = img.length
  b : ∀ k, (h : k < img.length) → s.bytes[k]? = some (lastW img[k] s.log k).1
  t : ∀ k, (h : k < img.length) → s.tags[k]? = some (lastW img[k] s.log k).2
  l : ∀ w ∈ s.log, okLog img.length w
theorem LInv.store {img : List Nat} {s : Rm} (h : LInv img s) (hv : Int) (w : Wr) (hd : w.data < 18446744073709551616) : LInv img (s.store hv w) := by
  unfold Rm.store
  rw [h.len]
  split
  · rename_i hq
    unfold stOk at hq
    simp only [Bool.and_eq_true, decide_eq_true_eq] at hq
    obtain ⟨hn, ha, hle⟩ := mayB_n hq.1.1
    have hz : (zw w).data < 18446744073709551616 := zx_lt hd
    have hw : okLog img.length (zw w) := ⟨ha, by show 1 ≤ w.size; omega, by show w.size ≤ 8; omega, hle, hz⟩
    have fold : ∀ x k, lastW x (s.log ++ [zw w]) k = lastS k (lastW x s.log k) (zw w) := fun x k => by unfold lastW; rw [List.foldl_append]; rfl
    have hc : ∀ k : Nat, cov (zw w) k = true ↔ w.addr.toNat ≤ k ∧ k < w.addr.toNat + w.size.toNat := by
      intro k
      unfold cov zw
      simp only [Bool.and_eq_true, decide_eq_true_eq]
      omega
    refine ⟨by rw [setL_len]; exact h.len, by rw [setL_len]; exact h.tl, fun k hk => ?_, fun k hk => ?_, fun x hx => ?_⟩
    · simp only
      rw [setL_get _ _ _ _ (by rw [byl_len, h.len]; omega), byl_len, fold]
      unfold lastS
      by_cases c : w.addr.toNat ≤ k ∧ k < w.addr.toNat + w.size.toNat
      · rw [if_pos c, if_pos ((hc k).2 c)]
        have : k - w.addr.toNat < w.size.toNat := by omega
        have e : ((k : Int) - (zw w).addr).toNat = k - w.addr.toNat := by show ((k : Int) - w.addr).toNat = _; omega
        simp [byl, byteOf, e, this]
      · rw [if_neg c, if_neg (fun q => c ((hc k).1 q))]
        exact h.b k hk
    · simp only
      rw [setL_get _ _ _ _ (by rw [List.length_replicate, h.tl]; omega), List.length_replicate, fold]
      unfold lastS
      by_cases c : w.addr.toNat ≤ k ∧ k < w.addr.toNat + w.size.toNat
      · rw [if_pos c, if_pos ((hc k).2 c)]
        have : k - w.addr.toNat < w.size.toNat := by omega
        simp [this, zw]
      · rw [if_neg c, if_neg (fun q => c ((hc k).1 q))]
        exact h.t k hk
    · rcases List.mem_append.1 hx with hx | hx
      · exact h.l x hx
      · simp at hx; subst hx; exact hw
  · exact h
end Go.Proofs.Ytbloiihagbcfpaa
