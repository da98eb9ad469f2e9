/- Layer 12: what a store into the program's memory comes to (no claim; lemmas). -/
import Derived.Test.YtbloiihagbcfpaaK12c
set_option linter.unusedSimpArgs false
set_option linter.unusedVariables false
namespace Go.Proofs.Ytbloiihagbcfpaa
open Go Go.Vm

def stOk (L : Nat) (hv : Int) (w : Wr) : Bool := mayB L w.addr w.size && decide (0 ≤ w.id) && isH hv
def zw (w : Wr) : Wr := { w with data := zx w.data (8 * w.size) }
theorem mayB_n {L : Nat} {a n : Int} (h : mayB L a n = true) : (n = 1 ∨ n = 2 ∨ n = 4 ∨ n = 8) ∧ 0 ≤ a ∧ a + n ≤ (L : Int) := by
  unfold mayB at h
  simp only [Bool.and_eq_true, decide_eq_true_eq] at h
  exact ⟨algn_n h.1.1, algn_a h.1.1, by omega⟩
/-- What stays as it was. -/
structure Frm (H H' : List Vm.Obj) (F : Nat → Prop) : Prop where
  get : ∀ id o, H[id]? = some o → ¬ F id → H'[id]? = some o
  len : H.length ≤ H'.length
/-- Its places. -/
def foot (p : Nat) (bv tv lv : V) (id : Nat) : Prop := id = p ∨ vid bv = some id ∨ vid tv = some id ∨ vid lv = some id
section
variable {H : List Vm.Obj} {p : Nat} {bv tv lv : V} {bytes : List Nat} {tags : List Int} {log : List Wr} {r : P3}
theorem Store_no (h : RmAt H p bv tv lv bytes tags log r) (hv : Int) (w : Wr) (hno : stOk bytes.length hv w = false) :
    evI pg .heap n_ram_Ram_Store [.ptr p 0 0, .int .i64 hv, .agg (wrV w)] H = some (.bool false, H) := by
  have hH := isHart_ok hv
  obtain ⟨bu, b1, b2⟩ := h.b.imm (byV_plain _)
  obtain ⟨tu, t1, t2⟩ := h.t.imm (iI_plain _)
  obtain ⟨lu, l1, l2⟩ := h.l.imm
  have hm := may_ok true bu (byV bytes) b1 (by rw [byV_len]; have := h.le; omega) [tu, lu, .int .i64 r.a0, .int .i64 r.n0, .int .i64 r.a1, .int .i64 r.n1, .int .i64 r.a2, .int .i64 r.n2] w.addr w.size
  rw [byV_len] at hm
  have hp := h.obj
  unfold stOk at hno
  obtain ⟨w1, w2, w3, w4⟩ := w
  simp only at hm hno
  rw [s_fn fn_ram_Ram_Store]
  unfold rmC at hp
  cases hq : mayB bytes.length w2 w3 with
  | false =>
    rw [hq] at hm
    simp [ir_ram_Ram_Store, go_sem, hm, hp, b2, t2, l2, wrV]
  | true =>
    rw [hq] at hm hno
    by_cases c : w1 < 0
    · simp [ir_ram_Ram_Store, go_sem, hm, hp, b2, t2, l2, wrV, c]
    · have c' : 0 ≤ w1 := by omega
      simp [c'] at hno
      rw [hno] at hH
      simp [ir_ram_Ram_Store, go_sem, hm, hp, b2, t2, l2, wrV, c, hH]
theorem Store_nil (hv : Int) (w : Wr) (H : List Vm.Obj) : evI pg .heap n_ram_Ram_Store [.nilp, .int .i64 hv, .agg (wrV w)] H = some (.bool false, H) := by
  have hm := may_nil w.addr w.size
  rw [s_fn fn_ram_Ram_Store]
  simp [ir_ram_Ram_Store, go_sem, hm, wrV]
theorem Store_loop1 (hp : H[p]? = some (.arr [rmC bv tv lv r])) (hv : Int) (w : Wr) :
    evCI pg (.loop ir_ram_Ram_Storel1) ⟨[.ptr p 0 0, .int .i64 hv, .undef, .lp 0 0, .undef, .undef, .undef, .undef, .undef, .undef, .undef, .undef, .undef, .undef, .agg (p3C r), .int .i64 0, .undef, .undef], ⟨[wrV w, []], [], H⟩⟩ =
      some (.exit 2, ⟨[.ptr p 0 0, .int .i64 hv, .undef, .lp 0 0, .undef, .undef, .undef, .undef, .undef, .undef, .undef, .undef, .undef, .undef, .agg (p3C r), .int .i64 3, .bool false, .undef], ⟨[wrV w, []], [], H.set p (.arr [rmC bv tv lv (dropO r hv w)])⟩⟩) := by
  have hlt := get_lt hp
  have g : ∀ r', (H.set p (.arr [rmC bv tv lv r']))[p]? = some (.arr [rmC bv tv lv r']) := fun r' => by simp [hlt]
  have s0 := Store_step1 hp r hv w 0 (by omega)
  have s1 := Store_step1 (g (one3 r r hv 0 w)) r hv w 1 (by omega)
  have s2 := Store_step1 (g (one3 r (one3 r r hv 0 w) hv 1 w)) r hv w 2 (by omega)
  simp only [List.set_set] at s1 s2
  have e0 : ((0 : Nat) : Int) = 0 := rfl
  have e1 : ((1 : Nat) : Int) = 1 := rfl
  have e2 : ((2 : Nat) : Int) = 2 := rfl
  have e3 : ((2 + 1 : Nat) : Int) = 3 := rfl
  rw [e0] at s0
  rw [e1] at s1
  rw [e2, one3_all, e3] at s2
  rw [s_loop, s0, s_then_nrm, s_loop, show ((0 + 1 : Nat) : Int) = 1 from rfl, s1, s_then_nrm, s_loop, show ((1 + 1 : Nat) : Int) = 2 from rfl, s2, s_then_nrm, s_loop]
  simp [ir_ram_Ram_Storel1, go_sem]
/-- A write is put behind the log. -/
theorem log_app {H : List Vm.Obj} {lv : V} {log : List Wr} (h : Lg H lv (wsV log)) (w : Wr) (hlog : log.length ≤ 1000000) (vs : List (List V)) (tk : List Nat) :
    ∃ j H', appV 2 4 32 ⟨vs, tk, H⟩ lv (.els [wrV w]) = some (.osl true j (wsV (log ++ [w])), ⟨vs, tk, H'⟩) ∧ Lg H' (.osl true j (wsV (log ++ [w]))) (wsV (log ++ [w])) ∧
      (∀ id o, H[id]? = some o → vid lv ≠ some id → H'[id]? = some o) ∧ H.length ≤ H'.length ∧ (some j = vid lv ∨ j = H.length) := by
  have hw : wsV [w] = [wrV w] := rfl
  have hsz : (wrV w).length = 4 := rfl
  have hne : wsV (log ++ [w]) ≠ [] := by simp [wsV]
  have him : immAll [wrV w] = true := wsV_imm [w]
  generalize hes : wsV log = es at h
  cases h with
  | nils =>
    have hl : log = [] := by simpa [wsV] using hes
    subst hl
    refine ⟨H.length, H ++ [.tok 1], ?_, .tok _ _ (by simp [wsV]) hne, fun id o ho _ => ?_, by simp, .inr rfl⟩
    · simp [appV, srcV, fits, maxB, szAll, hsz, him, hw]
    · rw [List.getElem?_append_left (get_lt ho)]; exact ho
  | tok j es hj hne' =>
    subst hes
    have hf : fits 32 ((wsV log).length + 1) = true := fits_of (by omega) (by rw [wsV_len]; omega)
    have hjl := get_lt hj
    refine ⟨j, H.set j (.tok (wsV (log ++ [w])).length), ?_, .tok _ _ (by simp [hjl]) hne, fun id o ho hv => ?_, by simp, .inl rfl⟩
    · have e1 : immAll (wsV log ++ [wrV w]) = true := by rw [imm_append, wsV_imm, him]; rfl
      have e2 : szAll 4 (wsV log ++ [wrV w]) = true := by rw [← hw, ← wsV_append, wsV_szAll]
      have e3 : (wsV (log ++ [w])).length = (wsV log).length + 1 := by simp [wsV]
      have e4 : wsV log ++ [wrV w] = wsV (log ++ [w]) := by rw [wsV_append, hw]
      rw [e3, ← e4]
      simp [appV, srcV, hf, e1, e2, hj]
    · have : j ≠ id := fun e => hv (by rw [e]; rfl)
      simp [this, ho]
theorem byl_len' (x : Nat) (n : Int) (h : n = 1 ∨ n = 2 ∨ n = 4 ∨ n = 8) : (byl x (clm n)).length = n.toNat ∧ (byl x (clm n)).length ≤ 8 ∧ ((byl x (clm n)).length : Int) = n := by
  rw [byl_len]
  unfold clm
  rcases h with rfl | rfl | rfl | rfl <;> decide
theorem two_of (h : RmAt H p bv tv lv bytes tags log r) (hne : bytes ≠ []) : ∃ ib it, bv = .rsl ib 0 bytes.length ∧ tv = .rsl it 0 bytes.length ∧ Two H p ib it lv r bytes.length bytes tags := by
  have hb := h.b
  have ht := h.t
  have htl := h.lt
  obtain ⟨n1, n2, n3⟩ := h.bne
  have hbv : byV bytes ≠ [] := by simpa [byV] using hne
  have htv : iI tags ≠ [] := by
    have : tags ≠ [] := fun e => hne (List.length_eq_zero_iff.1 (by rw [← htl, e]; rfl))
    simpa [iI] using this
  have key : ∀ {v : V} {es : List (List V)}, Ow H v es → es ≠ [] → ∃ id, v = .rsl id 0 es.length ∧ H[id]? = some (.arr es) := by
    intro v es hv he
    cases hv with
    | nils => exact absurd rfl he
    | emp => exact absurd rfl he
    | rsl id es hid hne => exact ⟨id, rfl, hid⟩
  obtain ⟨ib, rfl, b2⟩ := key hb hbv
  obtain ⟨it, rfl, t2⟩ := key ht htv
  have l1 : (byV bytes).length = bytes.length := byV_len _
  have l2 : (iI tags).length = bytes.length := by rw [iI_len, htl]
  rw [l1, l2]
  refine ⟨ib, it, rfl, rfl, ?_, b2, t2, rfl, htl, fun e => ?_, fun e => n1 (by rw [e]; rfl), fun e => n2 (by rw [e]; rfl)⟩
  · have := h.obj
    rw [l1, l2] at this
    exact this
  · subst e
    rw [b2] at t2
    simp only [Option.some.injEq, Vm.Obj.arr.injEq] at t2
    cases bytes with
    | nil => exact hne rfl
    | cons x bytes =>
      cases tags with
      | nil => simp [byV, iI] at t2
      | cons y tags => simp [byV, iI] at t2
theorem Store_yes (h : RmAt H p bv tv lv bytes tags log r) (hv : Int) (w : Wr) (hd : w.data < 18446744073709551616) (hlog : log.length ≤ 1000000) (hyes : stOk bytes.length hv w = true) :
    ∃ lv' H', evI pg .heap n_ram_Ram_Store [.ptr p 0 0, .int .i64 hv, .agg (wrV w)] H = some (.bool true, H') ∧
      RmAt H' p bv tv lv' (setL bytes w.addr.toNat (byl (zw w).data w.size.toNat)) (setL tags w.addr.toNat (List.replicate w.size.toNat w.id)) (log ++ [zw w]) (dropO r hv w) ∧
      Frm H H' (foot p bv tv lv) ∧ (vid lv' = vid lv ∨ vid lv' = some H.length) := by
  have hH := isHart_ok hv
  obtain ⟨bu, b1, b2⟩ := h.b.imm (byV_plain _)
  obtain ⟨tu, t1, t2⟩ := h.t.imm (iI_plain _)
  obtain ⟨lu, l1, l2⟩ := h.l.imm
  have hm := may_ok true bu (byV bytes) b1 (by rw [byV_len]; have := h.le; omega) [tu, lu, .int .i64 r.a0, .int .i64 r.n0, .int .i64 r.a1, .int .i64 r.n1, .int .i64 r.a2, .int .i64 r.n2] w.addr w.size
  rw [byV_len] at hm
  have hp := h.obj
  unfold stOk at hyes
  simp only [Bool.and_eq_true, decide_eq_true_eq] at hyes
  obtain ⟨⟨hy1, hy2⟩, hy3⟩ := hyes
  obtain ⟨hn, ha0, hle⟩ := mayB_n hy1
  have hbl := byl_len' (zw w).data w.size hn
  have hne : bytes ≠ [] := by
    intro e
    rw [e] at hle
    simp at hle
    omega
  obtain ⟨ib, it, rfl, rfl, two⟩ := two_of h hne
  have hz := Zext_ok w.data (8 * w.size) hd
  have hB := Bytes_ok (zw w).data w.size (zx_lt hd)
  have ea : w.addr = (w.addr.toNat : Int) := by omega
  have hl0 := Store_loop0 (p := p) (ib := ib) (it := it) (lv := lv) (r := r) (L := bytes.length) hv (byl (zw w).data (clm w.size)) (zw w) w.addr.toNat ea (by omega) h.le hbl.2.1 0 (by omega) H bytes tags two
  have ecl : clm w.size = w.size.toNat := by unfold clm; omega
  simp only [Nat.add_zero, List.drop_zero, Nat.sub_zero, hbl.2.2, hbl.1] at hl0
  rw [ecl, show ((0 : Nat) : Int) = 0 from rfl] at hl0
  rw [ecl] at hB
  have two1 := two.step (setL bytes w.addr.toNat (byl (zw w).data w.size.toNat)) (setL tags w.addr.toNat (List.replicate w.size.toNat w.id)) (by rw [setL_len]) (by rw [setL_len]; exact h.lt)
  have hidw : (zw w).id = w.id := rfl
  rw [hidw] at hl0
  have hfr1 : ∀ id o, H[id]? = some o → id ≠ ib → id ≠ it → ((H.set ib (.arr (byV (setL bytes w.addr.toNat (byl (zw w).data w.size.toNat))))).set it (.arr (iI (setL tags w.addr.toNat (List.replicate w.size.toNat w.id)))))[id]? = some o := by
    intro id o ho h1 h2
    simp [Ne.symm h1, Ne.symm h2, ho]
  have hlen1 : ((H.set ib (.arr (byV (setL bytes w.addr.toNat (byl (zw w).data w.size.toNat))))).set it (.arr (iI (setL tags w.addr.toNat (List.replicate w.size.toNat w.id))))).length = H.length := by simp
  have hlg1 : Lg ((H.set ib (.arr (byV (setL bytes w.addr.toNat (byl (zw w).data w.size.toNat))))).set it (.arr (iI (setL tags w.addr.toNat (List.replicate w.size.toNat w.id))))) lv (wsV log) := by
    refine h.l.frame fun id o hid ho => hfr1 id o ho ?_ ?_
    · rintro rfl
      have hl := h.l
      have := two.b
      generalize wsV log = es at hl
      cases hl with
      | nils => cases hid
      | tok j es hj hne => cases hid; rw [this] at hj; cases hj
    · rintro rfl
      have hl := h.l
      have := two.t
      generalize wsV log = es at hl
      cases hl with
      | nils => cases hid
      | tok j es hj hne => cases hid; rw [this] at hj; cases hj
  revert hl0 two1 hlg1 hfr1 hlen1
  generalize (H.set ib (.arr (byV (setL bytes w.addr.toNat (byl (zw w).data w.size.toNat))))).set it (.arr (iI (setL tags w.addr.toNat (List.replicate w.size.toNat w.id)))) = H1
  intro hl0 two1 hfr1 hlen1 hlg1
  obtain ⟨j, H2, a1, a2, a3, a4, a5⟩ := log_app hlg1 (zw w) hlog [wrV (zw w), []] []
  have hp2 : H2[p]? = some (.arr [rmC (.rsl ib 0 bytes.length) (.rsl it 0 bytes.length) lv r]) := a3 p _ two1.obj h.bne.2.2
  have hp2l := get_lt hp2
  have hp3 : (H2.set p (.arr [rmC (.rsl ib 0 bytes.length) (.rsl it 0 bytes.length) (.osl true j (wsV (log ++ [zw w]))) r]))[p]? = some (.arr [rmC (.rsl ib 0 bytes.length) (.rsl it 0 bytes.length) (.osl true j (wsV (log ++ [zw w]))) r]) := by simp [hp2l]
  have hl1 := Store_loop1 hp3 hv (zw w)
  have hdr : dropO r hv (zw w) = dropO r hv w := rfl
  rw [hdr, List.set_set] at hl1
  have hp1 := two1.obj
  have e8 : IntKind.i64.wrap (8 * w.size) = 8 * w.size := wrap_i64 (by omega) (by omega)
  refine ⟨.osl true j (wsV (log ++ [zw w])), H2.set p (.arr [rmC (.rsl ib 0 bytes.length) (.rsl it 0 bytes.length) (.osl true j (wsV (log ++ [zw w]))) (dropO r hv w)]), ?_, ?_, ?_, ?_⟩
  · rw [s_fn fn_ram_Ram_Store]
    rw [hy1] at hm
    rw [hy3] at hH
    have hid : ¬ w.id < 0 := by omega
    obtain ⟨w1, w2, w3, w4⟩ := w
    unfold zw at *
    simp only [rmC, wrV, p3C] at hp hp1 hp2 hl0 hl1 hm hH hid e8 hz hB a1 ⊢
    have hpl := get_lt hp
    have hpl1 := get_lt hp1
    simp [ir_ram_Ram_Store, go_sem, hm, get_el hp, get_el hp1, get_el hp2, hpl, hpl1, hp2l, b2, t2, l2, hH, hid, e8, hz, hB, hl0, byV_len, byl_len, litParts, a1, hl1, -Int.ofNat_toNat]
  · have nb : ib ≠ p := two.n2
    have nt : it ≠ p := two.n3
    have lvb : ∀ id, vid lv = some id → ∃ n, H1[id]? = some (.tok n) := by
      intro id hid
      generalize wsV log = es at hlg1
      cases hlg1 with
      | nils => cases hid
      | tok j es hj hne => cases hid; exact ⟨_, hj⟩
    have n4 : vid lv ≠ some ib := fun e => by
      obtain ⟨n, hn⟩ := lvb _ e
      rw [two1.b] at hn; cases hn
    have n5 : vid lv ≠ some it := fun e => by
      obtain ⟨n, hn⟩ := lvb _ e
      rw [two1.t] at hn; cases hn
    have hbs : (setL bytes w.addr.toNat (byl (zw w).data w.size.toNat)).length = bytes.length := setL_len _ _ _
    have hts : (setL tags w.addr.toNat (List.replicate w.size.toNat w.id)).length = bytes.length := by rw [setL_len, h.lt]
    have get3 : ∀ id o, id ≠ p → H2[id]? = some o → (H2.set p (.arr [rmC (.rsl ib 0 bytes.length) (.rsl it 0 bytes.length) (.osl true j (wsV (log ++ [zw w]))) (dropO r hv w)]))[id]? = some o := by
      intro id o hid ho
      simp [Ne.symm hid, ho]
    refine ⟨by simp [hp2l], ?_, ?_, ?_, by rw [hts, hbs], by rw [hbs]; exact h.le, fun x hx => ?_⟩
    · have := Ow.rsl (H := H2.set p (.arr [rmC (.rsl ib 0 bytes.length) (.rsl it 0 bytes.length) (.osl true j (wsV (log ++ [zw w]))) (dropO r hv w)])) ib (byV (setL bytes w.addr.toNat (byl (zw w).data w.size.toNat))) (get3 _ _ nb (a3 _ _ two1.b n4)) (by
        intro e
        have : (byV (setL bytes w.addr.toNat (byl (zw w).data w.size.toNat))).length = 0 := by rw [e]; rfl
        rw [byV_len, hbs] at this
        exact hne (List.length_eq_zero_iff.1 this))
      rw [byV_len, hbs] at this
      exact this
    · have := Ow.rsl (H := H2.set p (.arr [rmC (.rsl ib 0 bytes.length) (.rsl it 0 bytes.length) (.osl true j (wsV (log ++ [zw w]))) (dropO r hv w)])) it (iI (setL tags w.addr.toNat (List.replicate w.size.toNat w.id))) (get3 _ _ nt (a3 _ _ two1.t n5)) (by
        intro e
        have : (iI (setL tags w.addr.toNat (List.replicate w.size.toNat w.id))).length = 0 := by rw [e]; rfl
        rw [iI_len, hts] at this
        exact hne (List.length_eq_zero_iff.1 this))
      rw [iI_len, hts] at this
      exact this
    · refine a2.frame fun id o hid ho => get3 id o ?_ ho
      rintro rfl
      cases a2 with
      | tok _ _ hj _ => cases hid; rw [hp2] at hj; cases hj
    · obtain ⟨i, hi⟩ := List.getElem?_of_mem hx
      rw [setL_get _ _ _ _ (by rw [byl_len]; omega)] at hi
      split at hi
      · exact byl_lt _ _ x (List.mem_of_getElem? hi)
      · exact h.by_ x (List.mem_of_getElem? hi)
  · refine ⟨fun id o ho hn => ?_, by simp; omega⟩
    unfold foot at hn
    have e1 : id ≠ p := fun e => hn (.inl e)
    have e2 : id ≠ ib := fun e => hn (.inr (.inl (by rw [e]; rfl)))
    have e3 : id ≠ it := fun e => hn (.inr (.inr (.inl (by rw [e]; rfl))))
    have e4 : vid lv ≠ some id := fun e => hn (.inr (.inr (.inr e)))
    have := a3 id o (hfr1 id o ho e2 e3) e4
    simp [Ne.symm e1, this]
  · rcases a5 with a5 | a5
    · left; rw [← a5]; rfl
    · right; rw [a5, hlen1]; rfl
end
end Go.Proofs.Ytbloiihagbcfpaa
