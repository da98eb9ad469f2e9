/- Layer 13: barriers, and entries that go (no claim; lemmas). -/
import Derived.Test.YtaedicechhbhdaaK13d
set_option linter.unusedSimpArgs false
set_option linter.unusedVariables false
namespace Go.Proofs.Ytaedicechhbhdaa
open Go Go.Vm

theorem Barrier_ok {H : List Vm.Obj} {p : Nat} {es : List En} {ep : Int} {ev : V} {ss : List V} {x : List (List V)} (h : BufAt H p es ep ev ss x) (ho : okE es) (hep : 0 ≤ ep ∧ ep ≤ 1000) :
    ∃ H', evI pg .heap n_sbuf_Buffer_Barrier [.ptr p 0 0] H = some (.tup [], H') ∧ BufAt H' p es (if es.any (fun e => decide (e.ep = ep)) = true then ep + 1 else ep) ev ss x ∧ H.length ≤ H'.length ∧ (∀ q, q < H.length → q ≠ p → H'[q]? = H[q]?) := by
  obtain ⟨u, hu, hui⟩ := h.imm
  have hp := h.obj
  have hpl := get_lt hp
  have hfr : BufAt (H ++ [Vm.Obj.arr [[.ptr p 0 0]]]) p es ep ev ss x := h.frame fun q hq => List.getElem?_append_left (h.lt hq)
  have hp2 := hfr.obj
  obtain ⟨u2, hu2, hui2⟩ := hfr.imm
  have hC := ContainsF_ok true u2 es ep hu2 ho true
  have hle : p < H.length + 1 := by omega
  have hpn : ¬ p = H.length := by omega
  have ew : IntKind.i64.wrap (ep + 1) = ep + 1 := wrap_i64 (by omega) (by omega)
  by_cases c : es.any (fun e => decide (e.ep = ep)) = true
  · rw [c] at hC
    rw [if_pos c]
    refine ⟨(H ++ [Vm.Obj.arr [[.ptr p 0 0]]]).set p (.arr [[ev, .int .i64 (ep + 1)]]), ?_, ?_, by simp, fun q hq hne => ?_⟩
    · rw [s_fn fn_sbuf_Buffer_Barrier]
      cases hz : toImm ⟨[], [], []⟩ false 8 ev <;> simp [ir_sbuf_Buffer_Barrier, go_sem, hp2, get_el hp2, hle, hpl, hpn, hui2, hC, ew, hz]
    · refine ⟨by rw [List.getElem?_set_self (by simp; omega)], ?_, h.len, h.sx, ?_, h.ds⟩
      · rcases hfr.ent with h1 | ⟨id, h1, h2, h3⟩
        · exact .inl h1
        · refine .inr ⟨id, h1, ?_, h3⟩
          have := hfr.vid_p
          rw [h1] at this
          rw [List.getElem?_set_ne (fun e => this (by rw [e]; rfl))]
          exact h2
      · intro i hi
        refine (hfr.lg i hi).frame fun id hid => ?_
        have := (hfr.vid_s (List.getElem_mem (by have := h.len; omega)) hid).1
        rw [List.getElem?_set_ne (Ne.symm this)]
    · rw [List.getElem?_set_ne (Ne.symm hne), List.getElem?_append_left hq]
  · have c' : es.any (fun e => decide (e.ep = ep)) = false := by simpa using c
    rw [c'] at hC
    rw [if_neg c]
    refine ⟨H ++ [Vm.Obj.arr [[.ptr p 0 0]]], ?_, hfr, by simp, fun q hq hne => List.getElem?_append_left hq⟩
    rw [s_fn fn_sbuf_Buffer_Barrier]
    cases hz : toImm ⟨[], [], []⟩ false 8 ev <;> simp [ir_sbuf_Buffer_Barrier, go_sem, hp2, get_el hp2, hle, hpl, hpn, hui2, hC, ew, hz]

/-! ### entries that go -/
theorem slc_rsl {m : Mem} {id off n : Nat} {R : List (List V)} (hR : m.H[id]? = some (.arr R)) (hle : off + n ≤ R.length) (hs : (R.headD []).length = 3) (lo hi : Option V) {l k : Nat} (hb : bnd n (R.length - off) lo hi = some (l, k)) :
    slcV 3 m (.rsl id off n) lo hi none = some (.rsl id (off + l) (k - l)) := by
  simp only [slcV, hR, hb]
  rw [if_neg (by omega), if_pos ⟨hle, .inr hs⟩]
theorem rdy_contains (m : Int) (k : Int) : ∀ (es : List En) (i : Nat), (rdy m es i).contains k = true ↔ ∃ j : Nat, ∃ hj : j < es.length, k = ((i + j : Nat) : Int) ∧ es[j].ep = m
  | [], i => by simp [rdy]
  | e :: es, i => by
    have ih := rdy_contains m k es (i + 1)
    unfold rdy
    constructor
    · intro h
      split at h
      · rename_i he
        rw [List.contains_cons, Bool.or_eq_true] at h
        rcases h with h | h
        · exact ⟨0, by simp, by simpa using h, he⟩
        · obtain ⟨j, hj, h1, h2⟩ := ih.1 h
          exact ⟨j + 1, by simpa using hj, by omega, h2⟩
      · obtain ⟨j, hj, h1, h2⟩ := ih.1 h
        exact ⟨j + 1, by simpa using hj, by omega, h2⟩
    · rintro ⟨j, hj, h1, h2⟩
      cases j with
      | zero =>
        simp only [List.getElem_cons_zero] at h2
        rw [if_pos h2, List.contains_cons]
        simp [h1]
      | succ j =>
        have : (rdy m es (i + 1)).contains k = true := ih.2 ⟨j, by simpa using hj, by omega, h2⟩
        split
        · rw [List.contains_cons, this, Bool.or_true]
        · exact this
theorem rowsH_erase : ∀ (es : List En) (ss : List V) (i : Nat), ss.length = es.length → rowsH (es.eraseIdx i) (ss.eraseIdx i) = (rowsH es ss).eraseIdx i
  | [], [], i, _ => by simp [rowsH]
  | [], s :: ss, i, h => by simp at h
  | e :: es, [], i, h => by simp at h
  | e :: es, s :: ss, 0, _ => by simp [rowsH]
  | e :: es, s :: ss, i + 1, h => by simp [rowsH, rowsH_erase es ss i (by simpa using h)]
def zR : List V := [.int .i64 0, .int .i64 0, .nils]
theorem Delete_ok {H : List Vm.Obj} {p : Nat} {es : List En} {ep : Int} {ev : V} {ss : List V} {x : List (List V)} (h : BufAt H p es ep ev ss x) (ho : okE es) (k : Nat) (hk : k < es.length) :
    ∃ id H', ev = .rsl id 0 es.length ∧ evI pg .heap n_slices_Delete_sbuf_entry_sbuf_entry [ev, .int .i64 (k : Int), .int .i64 ((k + 1 : Nat) : Int)] H = some (.rsl id 0 (es.length - 1), H') ∧
      H' = H.set id (.arr (rowsH (es.eraseIdx k) (ss.eraseIdx k) ++ zR :: x)) := by
  have h4 := ho.1
  rcases h.ent with ⟨_, c2, _⟩ | ⟨id, c1, c2, c3⟩
  · rw [c2] at hk; simp at hk
  have hl := rowsH_len es ss h.len
  obtain ⟨n, hn⟩ : ∃ n, es.length = n := ⟨_, rfl⟩
  have hidl := get_lt c2
  obtain ⟨R, hR⟩ : ∃ R, rowsH es ss ++ x = R := ⟨_, rfl⟩
  rw [hR] at c2
  have hRl : R.length = n + x.length := by rw [← hR]; simp; omega
  have hsz : ∀ r ∈ R, r.length = 3 := by
    intro r hr
    rw [← hR] at hr
    rcases List.mem_append.1 hr with hr | hr
    · exact rowsH_sz _ _ _ hr
    · exact h.sx _ hr
  have hhd : (R.headD []).length = 3 := by
    cases R with
    | nil => simp at hRl; omega
    | cons r R => exact hsz r (by simp)
  have hfl : ∀ r ∈ (R.take n).drop (k + 1), r.all V.flat = true := by
    intro r hr
    have hm : r ∈ rowsH es ss := by
      have := List.mem_of_mem_drop hr
      rw [← hR, List.take_append_of_le_length (by omega), List.take_of_length_le (by omega)] at this
      exact this
    obtain ⟨i, hi, rfl⟩ := List.mem_iff_getElem.1 hm
    have hi' : i < es.length := by omega
    have e := rowsH_get es ss h.len i hi'
    rw [List.getElem?_eq_getElem hi] at e
    rw [Option.some.inj e]
    simp only [rowH, List.all_cons, List.all_nil, e_flat_int, (h.lg i hi').flat, Bool.and_self]
  refine ⟨id, _, c1, ?_, rfl⟩
  rw [c1, hn]
  rw [hn] at hk h4
  have e0 : slcV 3 ⟨[], [0], H⟩ (.rsl id 0 n) (some (.int .i64 (k : Int))) (some (.int .i64 ((k + 1 : Nat) : Int))) (some (.int .i64 (n : Int))) = some .undef := by
    have b1 : bnd n n (some (.int .i64 (k : Int))) (some (.int .i64 ((k + 1 : Nat) : Int))) = some (k, k + 1) := bnd_nat (by omega) (by omega)
    have b2 : asNat n (.int .i64 (n : Int)) = some n := asNat_nat (Nat.le_refl n)
    simp only [slcV, slLen, b2, b1]
    simp [show n ≠ 0 by omega]
  have e1 : slcV 3 ⟨[], [0], H⟩ (.rsl id 0 n) none (some (.int .i64 (k : Int))) none = some (.rsl id 0 k) := by
    have := slc_rsl (m := ⟨[], [0], H⟩) c2 (off := 0) (n := n) (by omega) hhd none (some (.int .i64 (k : Int))) (l := 0) (k := k) (bnd_hi (by omega))
    simpa using this
  have e2 : slcV 3 ⟨[], [0], H⟩ (.rsl id 0 n) (some (.int .i64 ((k + 1 : Nat) : Int))) none none = some (.rsl id (k + 1) (n - (k + 1))) := by
    have := slc_rsl (m := ⟨[], [0], H⟩) c2 (off := 0) (n := n) (by omega) hhd (some (.int .i64 ((k + 1 : Nat) : Int))) none (l := k + 1) (k := n) (bnd_lo (by omega))
    simpa using this
  have e3 : appV 2 3 40 ⟨[], [0], H⟩ (.rsl id 0 k) (.rsl id (k + 1) (n - (k + 1))) = some (.rsl id 0 (n - 1), ⟨[], [0], H.set id (.arr (R.take k ++ (R.take n).drop (k + 1) ++ R.drop (n - 1)))⟩) := by
    have hsrc : srcV ⟨[], [0], H⟩ (.rsl id (k + 1) (n - (k + 1))) = some ((R.take n).drop (k + 1)) := by
      simp only [srcV, c2]
      rw [if_pos (by omega), List.drop_take]
    have hnl : ((R.take n).drop (k + 1)).length = n - (k + 1) := by simp; omega
    have hf1 : flatAll ((R.take n).drop (k + 1)) = true := by simp only [flatAll, List.all_eq_true]; intro r hr; exact List.all_eq_true.1 (hfl r hr)
    have hf2 : szAll 3 (R ++ (R.take n).drop (k + 1)) = true := by
      simp only [szAll, List.all_eq_true, List.mem_append, beq_iff_eq]
      rintro r (hr | hr)
      · exact hsz r hr
      · exact hsz r (List.mem_of_mem_take (List.mem_of_mem_drop hr))
    simp only [appV, hsrc, c2, hnl, hf1, hf2, fits_of (b := 40) (n := k + (n - (k + 1))) (by omega) (by omega)]
    rw [if_neg (by simp), if_pos (by omega)]
    rw [show 0 + k = k by omega, show k + (n - (k + 1)) = n - 1 by omega]
  obtain ⟨R2, hR2⟩ : ∃ R2, R.take k ++ (R.take n).drop (k + 1) ++ R.drop (n - 1) = R2 := ⟨_, rfl⟩
  rw [hR2] at e3
  have hR2l : R2.length = R.length := by rw [← hR2]; simp; omega
  have hhd2 : (R2.headD []).length = 3 := by
    cases hq : R2 with
    | nil => rw [hq] at hR2l; simp at hR2l; omega
    | cons r R' =>
      have : r ∈ R2 := by rw [hq]; simp
      rw [← hR2] at this
      simp only [List.mem_append] at this
      rcases this with (hr | hr) | hr
      · exact hsz r (List.mem_of_mem_take hr)
      · exact hsz r (List.mem_of_mem_take (List.mem_of_mem_drop hr))
      · exact hsz r (List.mem_of_mem_drop hr)
  have c4 : (H.set id (.arr R2))[id]? = some (.arr R2) := by simp [hidl]
  have e4 : slcV 3 ⟨[], [0], H.set id (.arr R2)⟩ (.rsl id 0 (n - 1)) (some (.int .i64 ((n - 1 : Nat) : Int))) (some (.int .i64 (n : Int))) none = some (.rsl id (n - 1) 1) := by
    have := slc_rsl (m := ⟨[], [0], H.set id (.arr R2)⟩) c4 (off := 0) (n := n - 1) (by omega) hhd2 (some (.int .i64 ((n - 1 : Nat) : Int))) (some (.int .i64 (n : Int))) (l := n - 1) (k := n) (bnd_nat (by omega) (by omega))
    rw [Nat.zero_add, show n - (n - 1) = 1 by omega] at this
    exact this
  have hne : ¬ k = k + 1 := by omega
  have fin_ : R2.take (n - 1) ++ [zR] ++ R2.drop n = rowsH (es.eraseIdx k) (ss.eraseIdx k) ++ zR :: x := by
    rw [rowsH_erase es ss k h.len, ← hR2, ← hR]
    have t1 : (rowsH es ss ++ x).take k = (rowsH es ss).take k := List.take_append_of_le_length (by omega)
    have t2 : (rowsH es ss ++ x).take n = rowsH es ss := by rw [List.take_append_of_le_length (by omega), List.take_of_length_le (by omega)]
    rw [t1, t2, List.eraseIdx_eq_take_drop_succ]
    have hA : ((rowsH es ss).take k ++ (rowsH es ss).drop (k + 1)).length = n - 1 := by simp; omega
    rw [List.take_append_of_le_length (by omega), List.take_of_length_le (by omega)]
    have hd : ((rowsH es ss).take k ++ (rowsH es ss).drop (k + 1) ++ (rowsH es ss ++ x).drop (n - 1)).drop n = x := by
      rw [List.drop_append, List.drop_of_length_le (by omega), List.nil_append, hA, List.drop_drop, show n - 1 + (n - (n - 1)) = n by omega]
      rw [List.drop_append, List.drop_of_length_le (by omega), hl, hn, Nat.sub_self]
      rfl
    rw [hd]
    simp
  rw [s_fn fn_slices_Delete_sbuf_entry_sbuf_entry]
  simp [ir_slices_Delete_sbuf_entry_sbuf_entry, go_sem, e0, e1, e2, e3, e4, c4, get_el c4, hidl, hne, -Int.natCast_add]
  have hhd3 : 3 = (R2.head?.getD []).length := by rw [← List.headD_eq_head?_getD]; exact hhd2.symm
  rw [if_pos ⟨by omega, hhd3⟩, ← fin_, show n - 1 + 1 = n by omega]
  simp [zR]
theorem clean_ils {es : List (List V)} (h : CleanR es) : clean 8 (ils es) = true := by
  refine e_clean_ils 7 es ?_
  simp only [List.all_eq_true]
  exact h
theorem ilsI_clean (l : List Int) : clean 8 (ils (iI l)) = true := clean_ils (iI_clean l)
theorem rdy_len (m : Int) : ∀ (l : List En) (i : Nat), (rdy m l i).length ≤ l.length
  | [], i => by simp [rdy]
  | e :: l, i => by
    have := rdy_len m l (i + 1)
    unfold rdy
    split <;> simp <;> omega
theorem Drain_no {H : List Vm.Obj} {p : Nat} {es : List En} {ep : Int} {ev : V} {ss : List V} {x : List (List V)} (h : BufAt H p es ep ev ss x) (ho : okE es) (k : Int) (hk : (rdy (lea ep es) es 0).contains k = false) :
    evI pg .heap n_sbuf_Buffer_Drain [.ptr p 0 0, .int .i64 k] H = some (.nils, H) := by
  obtain ⟨u, hu, hui⟩ := h.imm
  have hp := h.obj
  have hpl := get_lt hp
  have hR := Ready_ok true u es ep hu ho
  have hC := Contains_ok (ils (iI (rdy (lea ep es) es 0))) _ (.ils _) (by have := rdy_len (lea ep es) es 0; have := ho.1; omega) k
  have hcl := ilsI_clean (rdy (lea ep es) es 0)
  rw [hk] at hC
  rw [s_fn fn_sbuf_Buffer_Drain]
  simp [ir_sbuf_Buffer_Drain, go_sem, hp, get_el hp, hpl, hui, hu.is, hR, hC, hcl, unV]
theorem Drain_ok {H : List Vm.Obj} {p : Nat} {es : List En} {ep : Int} {ev : V} {ss : List V} {x : List (List V)} (h : BufAt H p es ep ev ss x) (ho : okE es) (k : Nat) (hk : k < es.length) (hl : es[k].ep = lea ep es) :
    ∃ H' ev' x', evI pg .heap n_sbuf_Buffer_Drain [.ptr p 0 0, .int .i64 (k : Int)] H = some (ss.getD k .undef, H') ∧ BufAt H' p (es.eraseIdx k) ep ev' (ss.eraseIdx k) x' ∧ Lg H' (ss.getD k .undef) (wsV es[k].st) ∧
      H'.length = H.length ∧ (∀ q, q < H.length → ¬ ft p ev ss q → H'[q]? = H[q]?) ∧ (∀ q, ft p ev' (ss.eraseIdx k) q → ft p ev ss q) := by
  obtain ⟨u, hu, hui⟩ := h.imm
  have hp := h.obj
  have hpl := get_lt hp
  have hsl := h.len
  have h4 := ho.1
  have hR := Ready_ok true u es ep hu ho
  have hC := Contains_ok (ils (iI (rdy (lea ep es) es 0))) _ (.ils _) (by have := rdy_len (lea ep es) es 0; omega) (k : Int)
  have hc : (rdy (lea ep es) es 0).contains (k : Int) = true := (rdy_contains _ _ _ _).2 ⟨k, hk, by simp, hl⟩
  rw [hc] at hC
  have hcl := ilsI_clean (rdy (lea ep es) es 0)
  obtain ⟨id, H1, c1, hD, hH1⟩ := Delete_ok h ho k hk
  have hks : k < ss.length := by omega
  have hgd : ss.getD k .undef = ss[k] := by simp [List.getD_eq_getElem?_getD, hks]
  rcases h.ent with ⟨_, c2, _⟩ | ⟨id', c1', c2, c3⟩
  · rw [c2] at hk; simp at hk
  have : id' = id := by rw [c1] at c1'; cases c1'; rfl
  subst this
  have hidl := get_lt c2
  have hidp : id' ≠ p := by have := h.vid_p; rw [c1] at this; intro e; exact this (by rw [e]; rfl)
  have hrl := rowsH_len es ss hsl
  have hrow : (rowsH es ss ++ x)[k]? = some [.int .i64 es[k].blk, .int .i64 es[k].ep, ss[k]] := by
    rw [List.getElem?_append_left (by omega), rowsH_get _ _ hsl _ hk]; rfl
  have hp1 : H1[p]? = some (.arr [[ev, .int .i64 ep]]) := by rw [hH1, List.getElem?_set_ne hidp]; exact hp
  have hp1l : p < H1.length := get_lt hp1
  have e3 : IntKind.i64.wrap ((k : Int) + 1) = ((k + 1 : Nat) : Int) := by rw [wrap_i64 (by omega) (by omega)]; rfl
  have hlen1 : H1.length = H.length := by rw [hH1]; simp
  have hlg := h.lg k hk
  have sub : ∀ s, s ∈ ss.eraseIdx k → s ∈ ss := fun s hs => (List.eraseIdx_sublist ss k).subset hs
  have hft : ∀ s ∈ ss, ∀ q, vid s = some q → (H1.set p (.arr [[.rsl id' 0 (es.length - 1), .int .i64 ep]]))[q]? = H[q]? := by
    intro s hs q hq
    obtain ⟨b1, b2⟩ := h.vid_s hs hq
    rw [List.getElem?_set_ne (Ne.symm b1), hH1, List.getElem?_set_ne (fun e => b2 (by rw [c1, e]; rfl))]
  have hel : (es.eraseIdx k).length = es.length - 1 := by rw [List.length_eraseIdx, if_pos hk]
  have hsel : (ss.eraseIdx k).length = es.length - 1 := by rw [List.length_eraseIdx, if_pos hks, hsl]
  have hB : BufAt (H1.set p (.arr [[.rsl id' 0 (es.length - 1), .int .i64 ep]])) p (es.eraseIdx k) ep (.rsl id' 0 (es.length - 1)) (ss.eraseIdx k) (zR :: x) := by
    refine ⟨by rw [List.getElem?_set_self hp1l], .inr ⟨id', by rw [hel], ?_, by simp⟩, by rw [hel, hsel], ?_, ?_, ?_⟩
    · rw [List.getElem?_set_ne (Ne.symm hidp), hH1, List.getElem?_set_self hidl]
    · intro r hr
      rcases List.mem_cons.1 hr with rfl | hr
      · rfl
      · exact h.sx r hr
    · intro i hi
      have hi1 : i < es.length - 1 := by omega
      have key : Lg H ((ss.eraseIdx k)[i]'(by omega)) (wsV (es.eraseIdx k)[i].st) := by
        rw [List.getElem_eraseIdx, List.getElem_eraseIdx]
        split
        · exact h.lg i (by omega)
        · exact h.lg (i + 1) (by omega)
      exact key.frame fun q hq => hft _ (sub _ (List.getElem_mem _)) q hq
    · intro i i2 hi hk2 j hj
      have hk2' : i2 < es.length - 1 := by omega
      rw [List.getElem_eraseIdx] at hj ⊢
      split at hj <;> split
      · exact h.ds i i2 hi (by omega) j hj
      · exact h.ds i (i2 + 1) (by omega) (by omega) j hj
      · omega
      · exact h.ds (i + 1) (i2 + 1) (by omega) (by omega) j hj
  refine ⟨_, _, _, ?_, hB, by rw [hgd]; exact hlg.frame fun q hq => hft _ (List.getElem_mem _) q hq, by simp [hlen1], ?_, ?_⟩
  · have hsh : ss[k] = .nils ∨ ∃ j l', ss[k] = .osl true j l' := by
      revert hlg
      generalize ss[k] = s
      intro hlg
      generalize wsV es[k].st = l at hlg
      cases hlg with
      | nils => exact .inl rfl
      | tok j l' _ _ => exact .inr ⟨j, _, rfl⟩
    rw [hgd]
    rw [c1] at hp hp1 hD
    obtain ⟨s, hs⟩ : ∃ s, s = ss[k] := ⟨_, rfl⟩
    rw [← hs] at hrow hsh ⊢
    rw [c1] at hui
    rw [s_fn fn_sbuf_Buffer_Drain]
    rcases hsh with rfl | ⟨j, l', rfl⟩
    · simp [ir_sbuf_Buffer_Drain, go_sem, hp, get_el hp, hpl, hui, hu.is, hR, hC, hcl, c2, get_el c2, hidl, hk, hrow, e3, hD, hp1, get_el hp1, hp1l, unV, -Int.natCast_add]
    · simp [ir_sbuf_Buffer_Drain, go_sem, hp, get_el hp, hpl, hui, hu.is, hR, hC, hcl, c2, get_el c2, hidl, hk, hrow, e3, hD, hp1, get_el hp1, hp1l, unV, -Int.natCast_add]
  · intro q hq hnf
    rw [List.getElem?_set_ne (fun e => hnf (.inl e.symm)), hH1, List.getElem?_set_ne (fun e => hnf (.inr (.inl (by rw [c1, e]; rfl))))]
  · intro q hq
    rcases hq with rfl | hq | ⟨s, hs, hq⟩
    · exact .inl rfl
    · cases hq; exact .inr (.inl (by rw [c1]; rfl))
    · exact .inr (.inr ⟨s, sub s hs, hq⟩)
end Go.Proofs.Ytaedicechhbhdaa
