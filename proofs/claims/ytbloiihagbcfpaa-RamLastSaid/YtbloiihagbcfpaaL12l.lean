/- Each byte's tag is the number of the last write of the log that has it, and its value that write's, or what was there at first: the law RamLast returns true whatever it is handed. No condition. -/
import Derived.Test.YtbloiihagbcfpaaK12f
set_option linter.unusedSimpArgs false
set_option linter.unusedVariables false
namespace Go.Proofs.Ytbloiihagbcfpaa
open Go Go.Vm

/-- Has a write a byte? -/
def cov (w : Wr) (at_ : Nat) : Bool := decide (w.addr ≤ (at_ : Int)) && decide ((at_ : Int) < w.addr + w.size)
def byteOf (w : Wr) (at_ : Nat) : Nat := w.data / 256 ^ ((at_ : Int) - w.addr).toNat % 256
def lastS (at_ : Nat) (acc : Nat × Int) (w : Wr) : Nat × Int := if cov w at_ then (byteOf w at_, w.id) else acc
def lastW (x : Nat) (log : List Wr) (at_ : Nat) : Nat × Int := log.foldl (lastS at_) (x, -1)
/-- A write that may be. -/
def okLog (L : Nat) (w : Wr) : Prop := 0 ≤ w.addr ∧ 1 ≤ w.size ∧ w.size ≤ 8 ∧ w.addr + w.size ≤ (L : Int) ∧ w.data < 18446744073709551616
structure LInv (img : List Nat) (s : Rm) : Prop where
  len : s.bytes.length = img.length
  tl : s.tags.length = img.length
  b : ∀ k, (h : k < img.length) → s.bytes[k]? = some (lastW img[k] s.log k).1
  t : ∀ k, (h : k < img.length) → s.tags[k]? = some (lastW img[k] s.log k).2
  l : ∀ w ∈ s.log, okLog img.length w
theorem LInv.store {img : List Nat} {s : Rm} (h : LInv img s) (hv : Int) (w : Wr) (hd : w.data < 18446744073709551616) : LInv img (s.store hv w) := by
  unfold Rm.store
  rw [h.len]
  split
  · rename_i hq
    unfold stOk at hq
    simp only [Bool.and_eq_true, decide_eq_true_eq] at hq
    obtain ⟨hn, ha, hle⟩ := mayB_n hq.1.1
    have hz : (zw w).data < 18446744073709551616 := zx_lt hd
    have hw : okLog img.length (zw w) := ⟨ha, by show 1 ≤ w.size; omega, by show w.size ≤ 8; omega, hle, hz⟩
    have fold : ∀ x k, lastW x (s.log ++ [zw w]) k = lastS k (lastW x s.log k) (zw w) := fun x k => by unfold lastW; rw [List.foldl_append]; rfl
    have hc : ∀ k : Nat, cov (zw w) k = true ↔ w.addr.toNat ≤ k ∧ k < w.addr.toNat + w.size.toNat := by
      intro k
      unfold cov zw
      simp only [Bool.and_eq_true, decide_eq_true_eq]
      omega
    refine ⟨by rw [setL_len]; exact h.len, by rw [setL_len]; exact h.tl, fun k hk => ?_, fun k hk => ?_, fun x hx => ?_⟩
    · simp only
      rw [setL_get _ _ _ _ (by rw [byl_len, h.len]; omega), byl_len, fold]
      unfold lastS
      by_cases c : w.addr.toNat ≤ k ∧ k < w.addr.toNat + w.size.toNat
      · rw [if_pos c, if_pos ((hc k).2 c)]
        have : k - w.addr.toNat < w.size.toNat := by omega
        have e : ((k : Int) - (zw w).addr).toNat = k - w.addr.toNat := by show ((k : Int) - w.addr).toNat = _; omega
        simp [byl, byteOf, e, this]
      · rw [if_neg c, if_neg (fun q => c ((hc k).1 q))]
        exact h.b k hk
    · simp only
      rw [setL_get _ _ _ _ (by rw [List.length_replicate, h.tl]; omega), List.length_replicate, fold]
      unfold lastS
      by_cases c : w.addr.toNat ≤ k ∧ k < w.addr.toNat + w.size.toNat
      · rw [if_pos c, if_pos ((hc k).2 c)]
        have : k - w.addr.toNat < w.size.toNat := by omega
        simp [this, zw]
      · rw [if_neg c, if_neg (fun q => c ((hc k).1 q))]
        exact h.t k hk
    · rcases List.mem_append.1 hx with hx | hx
      · exact h.l x hx
      · simp at hx; subst hx; exact hw
  · exact h
theorem last_loop0 (iv av : V) (hiv : isS iv = true) (l : List Act) (ha : Sl av (actsV l)) (hok : ∀ a ∈ l, okAct a) (img : List Nat) (p : Nat) (i : Nat) (hi : i ≤ min l.length 40) (H : List Vm.Obj) (bv tv lv : V) (s : Rm)
    (hs : RmS H p bv tv lv s) (hinv : LInv img s) (hlog : s.log.length ≤ i) :
    ∃ s' lv' H', evCI pg (.loop ir_undertowlaw12_RamLastl0) ⟨[iv, av, .undef, .ptr p 0 0, .int .i64 (i : Int), .undef, .undef, .undef, .undef, .undef, .undef, .undef, .undef, .undef, .undef, .undef, .undef, .undef, .undef, .undef], ⟨[], [], H⟩⟩ =
      some (.exit 0, ⟨[iv, av, .undef, .ptr p 0 0, .int .i64 ((min l.length 40 : Nat) : Int), .undef, .undef, .undef, .undef, .undef, .undef, .undef, .undef, .undef, .bool false, .undef, .undef, .undef, .undef, .undef], ⟨[], [], H'⟩⟩) ∧
      RmS H' p bv tv lv' s' ∧ LInv img s' ∧ s'.log.length ≤ 40 := by
  by_cases c : i < min l.length 40
  · have c1 : i < l.length := by omega
    have c2 : (i : Int) < 40 := by omega
    have c3 : i < 40 := by omega
    have e1 := fun m => ha.ia (sz := 6) m .i64 (i := i) (by rw [actsV_len]; omega) (actsV_sz _ _ _)
    simp only [actsV_el] at e1
    have hoa := hok l[i] (List.getElem_mem _)
    revert e1 hoa
    generalize l[i] = a
    intro e1 hoa
    obtain ⟨lv', H', s1, s2, s3, s4⟩ := Store_ok hs a.hart a.w hoa.w.d (by omega)
    obtain ⟨q1, q2⟩ := s.store_len a.hart a.w
    obtain ⟨s', lv'', H'', ih, r1, r2, r3⟩ := last_loop0 iv av hiv l ha hok img p (i + 1) (by omega) H' bv tv lv' (s.store a.hart a.w) s2 (hinv.store _ _ hoa.w.d) (by omega)
    have e6 : IntKind.i64.wrap ((i : Int) + 1) = ((i + 1 : Nat) : Int) := by rw [wrap_i64 (by omega) (by omega)]; rfl
    obtain ⟨B, hB⟩ : ∃ B, B = C.loop ir_undertowlaw12_RamLastl0 := ⟨_, rfl⟩
    refine ⟨s', lv'', H'', ?_, r1, r2, r3⟩
    rw [← hB] at ih
    rw [← hB, s_loop_at hB]
    obtain ⟨k, hv, w1, w2, w3, w4⟩ := a
    simp only [wrV, actV] at *
    simp [ir_undertowlaw12_RamLastl0, go_sem, hiv, ha.is, ha.rows, actsV_len, c1, c2, c3, e1, s1, e6, ih, -Int.natCast_add]
  · refine ⟨s, lv, H, ?_, hs, hinv, by omega⟩
    have hiN : i = min l.length 40 := by omega
    rw [← hiN, s_loop]
    by_cases d : i < l.length
    · have d2 : ¬ (i : Int) < 40 := by omega
      have d3 : ¬ i < 40 := by omega
      simp [ir_undertowlaw12_RamLastl0, go_sem, hiv, ha.is, ha.rows, actsV_len, d, d2, d3]
    · simp [ir_undertowlaw12_RamLastl0, go_sem, hiv, ha.is, ha.rows, actsV_len, d]
termination_by min l.length 40 - i
theorem last_loop1 (iv bu tu lu : V) (h1 : isS iv = true) (h2 : isS bu = true) (h3 : isS tu = true) (log : List Wr) (hl : Sl lu (wsV log)) (L : Nat) (hL : L ≤ 1024) (hok : ∀ w ∈ log, okLog L w) (hn : log.length ≤ 1000000) (k : Nat) (hk : k < L) (m : Mem) (i : Nat) (hi : i ≤ log.length) (acc : Nat × Int) :
    evCI pg (.loop ir_undertowlaw12_RamLastl1) ⟨[iv, .undef, .undef, .undef, .undef, bu, tu, lu, .int .i64 (k : Int), .int .u8 (acc.1 : Int), .int .i64 acc.2, .int .i64 (i : Int), .undef, .undef, .undef, .undef, .undef, .undef, .undef, .undef], m⟩ =
      some (.exit 4, ⟨[iv, .undef, .undef, .undef, .undef, bu, tu, lu, .int .i64 (k : Int), .int .u8 (((log.drop i).foldl (lastS k) acc).1 : Int), .int .i64 ((log.drop i).foldl (lastS k) acc).2, .int .i64 (log.length : Int), .undef, .undef, .undef, .undef, .undef, .bool false, .undef, .undef], m⟩) := by
  by_cases c : i < log.length
  · have e1 := fun m => hl.ia (sz := 4) m .i64 (i := i) (by rw [wsV_len]; omega) (wsV_sz _ _ (List.getElem_mem _))
    simp only [wsV_el] at e1
    have ho := hok log[i] (List.getElem_mem _)
    have e6 : IntKind.i64.wrap ((i : Int) + 1) = ((i + 1 : Nat) : Int) := by rw [wrap_i64 (by omega) (by omega)]; rfl
    have ih := last_loop1 iv bu tu lu h1 h2 h3 log hl L hL hok hn k hk m (i + 1) (by omega) (lastS k acc log[i])
    rw [List.drop_eq_getElem_cons c, List.foldl_cons]
    obtain ⟨B, hB⟩ : ∃ B, B = C.loop ir_undertowlaw12_RamLastl1 := ⟨_, rfl⟩
    rw [← hB] at ih
    rw [← hB, s_loop_at hB]
    revert e1 ho ih
    generalize List.foldl (lastS k) (lastS k acc log[i]) (List.drop (i + 1) log) = res
    generalize log[i] = w
    intro e1 ho ih
    obtain ⟨w1, w2, w3, w4⟩ := w
    obtain ⟨o1, o2, o3, o4, o5⟩ := ho
    simp only at o1 o2 o3 o4 o5
    obtain ⟨an, rfl⟩ : ∃ an : Nat, w2 = (an : Int) := ⟨w2.toNat, by omega⟩
    have e2 : IntKind.i64.wrap ((an : Int) + w3) = (an : Int) + w3 := wrap_i64 (by omega) (by omega)
    unfold lastS cov at ih
    simp only [wrV] at e1
    by_cases c1 : an ≤ k
    · by_cases c2 : (k : Int) < (an : Int) + w3
      · have c3 : (decide ((an : Int) ≤ (k : Int)) && decide ((k : Int) < (an : Int) + w3)) = true := by simp [c2]; omega
        simp only [c3, if_true] at ih
        have e3 : IntKind.i64.wrap ((k : Int) - (an : Int)) = ((k - an : Nat) : Int) := by rw [wrap_i64 (by omega) (by omega)]; omega
        have e4 : IntKind.i64.wrap (8 * ((k - an : Nat) : Int)) = ((8 * (k - an) : Nat) : Int) := by rw [wrap_i64 (by omega) (by omega)]; omega
        have e5 : IntKind.u64.wrap ((8 * (k - an) : Nat) : Int) = ((8 * (k - an) : Nat) : Int) := wrap_u64' (by omega)
        have e7 : min (8 * (k - an)) 64 = 8 * (k - an) := by omega
        have e8 : ((w4 : Int)).fdiv (2 ^ (8 * (k - an))) = ((w4 / 256 ^ (k - an) : Nat) : Int) := by
          rw [shr_nat, Nat.pow_mul]
        have e9 : IntKind.u8.wrap ((w4 / 256 ^ (k - an) : Nat) : Int) = ((w4 / 256 ^ (k - an) % 256 : Nat) : Int) := wrap_u8 _
        have e10 : byteOf ⟨w1, (an : Int), w3, w4⟩ k = w4 / 256 ^ (k - an) % 256 := by
          unfold byteOf
          simp only
          rw [show ((k : Int) - (an : Int)).toNat = k - an by omega]
        rw [e10] at ih
        simp [ir_undertowlaw12_RamLastl1, go_sem, h1, h2, h3, hl.is, hl.rows, wsV_len, c, c1, c2, e1, e2, e3, e4, e5, e6, e7, e8, e9, ih, IntKind.bits, -Int.natCast_add, -Int.natCast_mul, -Int.natCast_emod, -Int.natCast_ediv, -Int.natCast_pow]
      · have c3 : (decide ((an : Int) ≤ (k : Int)) && decide ((k : Int) < (an : Int) + w3)) = false := by simp [c2]
        simp only [c3, Bool.false_eq_true, if_false] at ih
        simp [ir_undertowlaw12_RamLastl1, go_sem, h1, h2, h3, hl.is, hl.rows, wsV_len, c, c1, c2, e1, e2, e6, ih, -Int.natCast_add]
    · have c3 : (decide ((an : Int) ≤ (k : Int)) && decide ((k : Int) < (an : Int) + w3)) = false := by simp; omega
      simp only [c3, Bool.false_eq_true, if_false] at ih
      simp [ir_undertowlaw12_RamLastl1, go_sem, h1, h2, h3, hl.is, hl.rows, wsV_len, c, c1, e1, e2, e6, ih, -Int.natCast_add]
  · obtain rfl : i = log.length := by omega
    rw [List.drop_length, s_loop]
    simp [ir_undertowlaw12_RamLastl1, go_sem, h1, h2, h3, hl.is, hl.rows, wsV_len]
termination_by log.length - i
theorem last_loop2 (iv bu tu lu : V) (img bytes : List Nat) (tags : List Int) (h1 : Sl iv (byV img)) (h2 : Sl bu (byV bytes)) (h3 : Sl tu (iI tags)) (log : List Wr) (hl : Sl lu (wsV log)) (hL : img.length ≤ 1024) (hok : ∀ w ∈ log, okLog img.length w) (hn : log.length ≤ 1000000)
    (hb : ∀ k, (h : k < img.length) → bytes[k]? = some (lastW img[k] log k).1) (ht : ∀ k, (h : k < img.length) → tags[k]? = some (lastW img[k] log k).2) (m : Mem) (k : Nat) (hk : k ≤ img.length) :
    ∃ c', evCI pg (.loop ir_undertowlaw12_RamLastl2) ⟨[iv, .undef, .undef, .undef, .undef, bu, tu, lu, .int .i64 (k : Int), .undef, .undef, .undef, .undef, .undef, .undef, .undef, .undef, .undef, .undef, .undef], m⟩ =
      some (.exit 2, ⟨[iv, .undef, .undef, .undef, .undef, bu, tu, lu, .int .i64 (img.length : Int), .undef, .undef, .undef, .undef, .undef, .undef, .undef, c', .undef, .undef, .undef], m⟩) := by
  by_cases c : k < img.length
  · obtain ⟨c', ih⟩ := last_loop2 iv bu tu lu img bytes tags h1 h2 h3 log hl hL hok hn hb ht m (k + 1) (by omega)
    have l1 := last_loop1 iv bu tu lu h1.is h2.is h3.is log hl img.length hL hok hn k c m 0 (by omega) (img[k], -1)
    have hbk := hb k c
    have htk := ht k c
    unfold lastW at hbk htk
    rw [List.drop_zero, show ((0 : Nat) : Int) = 0 from rfl] at l1
    simp only at l1
    generalize List.foldl (lastS k) (img[k], -1) log = res at l1 hbk htk
    obtain ⟨x, id⟩ := res
    simp only at l1 hbk htk
    have kb : k < bytes.length := (List.getElem?_eq_some_iff.1 hbk).1
    have kt : k < tags.length := (List.getElem?_eq_some_iff.1 htk).1
    have vb : bytes[k] = x := (List.getElem?_eq_some_iff.1 hbk).2
    have vt : tags[k] = id := (List.getElem?_eq_some_iff.1 htk).2
    have e1 := fun m => h1.ia (sz := 1) m .i64 (i := k) (by rw [byV_len]; omega) (byV_elS _ _ _)
    have e2 := fun m => h2.ia (sz := 1) m .i64 (i := k) (by rw [byV_len]; omega) (byV_elS _ _ _)
    have e3 := fun m => h3.ia (sz := 1) m .i64 (i := k) (by rw [iI_len]; omega) (iI_one _ _ (List.getElem_mem _))
    simp only [byV_el, iI_el, vb, vt] at e1 e2 e3
    have e6 : IntKind.i64.wrap ((k : Int) + 1) = ((k + 1 : Nat) : Int) := by rw [wrap_i64 (by omega) (by omega)]; rfl
    obtain ⟨B, hB⟩ : ∃ B, B = C.loop ir_undertowlaw12_RamLastl2 := ⟨_, rfl⟩
    refine ⟨c', ?_⟩
    rw [← hB] at ih
    rw [← hB, s_loop_at hB]
    simp [ir_undertowlaw12_RamLastl2, go_sem, h1.is, h1.rows, h2.is, h3.is, hl.is, byV_len, c, e1, e2, e3, e6, l1, ih, -Int.natCast_add]
  · obtain rfl : k = img.length := by omega
    refine ⟨.bool false, ?_⟩
    rw [s_loop]
    simp [ir_undertowlaw12_RamLastl2, go_sem, h1.is, h1.rows, h2.is, h3.is, hl.is, byV_len]
termination_by img.length - k
theorem RamLast_true (iv av : V) (img : List Nat) (l : List Act) (hi : Sl iv (byV img)) (hb : ∀ x ∈ img, x < 256) (ha : Sl av (actsV l)) (hok : ∀ a ∈ l, okAct a) :
    evI pg .val n_undertowlaw12_RamLast [iv, av] [] = some (.bool true, []) := by
  rw [s_fn fn_undertowlaw12_RamLast]
  by_cases c : 200 < img.length
  · have c' : (200 : Int) < (img.length : Int) := by omega
    simp [ir_undertowlaw12_RamLast, go_sem, alive12, hi.is, hi.rows, ha.is, byV_len, c, c']
  · have c' : ¬ (200 : Int) < (img.length : Int) := by omega
    obtain ⟨p, bv, tv, H1, n1, n2, n3, n4, n5⟩ := New_ok hi hb (by omega) []
    have ht : img.take 1024 = img := List.take_of_length_le (by omega)
    have hmn : min img.length 1024 = img.length := by omega
    rw [ht, hmn] at n2
    have hinv : LInv img ⟨img, List.replicate img.length (-1), [], z3⟩ := ⟨rfl, by simp, fun k h => by simp [lastW], fun k h => by simp [lastW, h], by simp⟩
    obtain ⟨s', lv', H', lp, r1, r2, r3⟩ := last_loop0 iv av hi.is l ha hok img p 0 (by omega) H1 bv tv .nils ⟨img, List.replicate img.length (-1), [], z3⟩ n2 hinv (by simp)
    obtain ⟨bu, tu, lu, im⟩ := r1.img
    have hB := Bytes_ok' (t := true) im.b (by rw [r2.len]; omega) [tu, lu, .int .i64 s'.r.a0, .int .i64 s'.r.n0, .int .i64 s'.r.a1, .int .i64 s'.r.n1, .int .i64 s'.r.a2, .int .i64 s'.r.n2]
    have hT := Tags_ok' (t := true) (bv := bu) im.t (by rw [r2.tl]; omega) [lu, .int .i64 s'.r.a0, .int .i64 s'.r.n0, .int .i64 s'.r.a1, .int .i64 s'.r.n1, .int .i64 s'.r.a2, .int .i64 s'.r.n2]
    have hG := Log_ok' (t := true) (bv := bu) (tv := tu) im.l (by omega) [.int .i64 s'.r.a0, .int .i64 s'.r.n0, .int .i64 s'.r.a1, .int .i64 s'.r.n1, .int .i64 s'.r.a2, .int .i64 s'.r.n2]
    have sB := cpV_sl _ _ im.b
    have sT := cpV_sl _ _ im.t
    have sG := cpV_sl _ _ im.l
    have cB : clean 8 (cpV bu (byV s'.bytes)) = true := cpV_clean _ _ im.b (byV_clean _)
    have cT : clean 8 (cpV tu (iI s'.tags)) = true := cpV_clean _ _ im.t (iI_clean _)
    have cG : clean 8 (cpV lu (wsV s'.log)) = true := cpV_clean _ _ im.l (wsV_clean _)
    revert hB hT hG sB sT sG cB cT cG
    generalize cpV bu (byV s'.bytes) = bz
    generalize cpV tu (iI s'.tags) = tz
    generalize cpV lu (wsV s'.log) = lz
    intro hB hT hG sB sT sG cB cT cG
    have lp2 := fun m => last_loop2 iv bz tz lz img s'.bytes s'.tags hi sB sT s'.log sG (by omega) r2.l (by omega) r2.b r2.t m 0 (by omega)
    obtain ⟨cz, lp2⟩ := lp2 ⟨[], [], H'⟩
    have hbl := r2.len
    have htl := r2.tl
    rw [show ((0 : Nat) : Int) = 0 from rfl] at lp lp2
    simp [ir_undertowlaw12_RamLast, go_sem, alive12, hi.is, hi.rows, ha.is, byV_len, iI_len, c, c', n1, lp, im.o, im.bi, im.ti, im.li, hB, hT, hG, cB, cT, cG, sB.is, sB.rows, sT.is, sT.rows, sG.is, sG.rows, hbl, htl, lp2]
theorem law_last : ∀ vs, PArgs Try.prog 8 Try.f6.params.toList vs → ∃ k, evF pg k .val 6 vs [] = some (.bool true, []) := by
  intro vs h
  obtain ⟨v1, _, rfl, h1, v2, _, rfl, h2, rfl⟩ := h
  obtain ⟨img, i1, _, i2⟩ := arg_img h1
  obtain ⟨l, a1, _, a2⟩ := arg_acts h2
  exact (evI_iff (hx _ _)).1 (RamLast_true v1 v2 img l i1 i2 a1 a2)
end Go.Proofs.Ytbloiihagbcfpaa
