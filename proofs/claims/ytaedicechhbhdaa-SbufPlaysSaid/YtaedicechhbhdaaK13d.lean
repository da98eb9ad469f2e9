/- Layer 13: a store into the program's buffer (no claim; lemmas). -/
import Derived.Test.YtaedicechhbhdaaK13c
set_option linter.unusedSimpArgs false
set_option linter.unusedVariables false
namespace Go.Proofs.Ytaedicechhbhdaa
open Go Go.Vm

/-- A store behind an entry's. -/
theorem Lg.push {H : List Vm.Obj} {s : V} {st : List Wr} (h : Lg H s (wsV st)) (hn : st.length ≤ 1000) (w : Wr) (vs : List (List V)) (tk : List Nat) :
    ∃ j H1, appV 2 4 32 ⟨vs, tk, H⟩ s (.els [wrV w]) = some (.osl true j (wsV (st ++ [w])), ⟨vs, tk, H1⟩) ∧ Lg H1 (.osl true j (wsV (st ++ [w]))) (wsV (st ++ [w])) ∧ H.length ≤ H1.length ∧ (∀ q, q < H.length → q ≠ j → H1[q]? = H[q]?) ∧
      (vid s = some j ∨ (s = .nils ∧ j = H.length)) := by
  have hfit : ∀ n, n ≤ 1001 → fits 32 n = true := fun n hn => fits_of (by omega) (by omega)
  have e : wsV (st ++ [w]) = wsV st ++ [wrV w] := by simp [wsV]
  have him : immAll (wsV st ++ [wrV w]) = true := by rw [← e]; exact wsV_imm _
  have hsz : szAll 4 (wsV st ++ [wrV w]) = true := by rw [← e]; exact wsV_szAll _
  have hl : (wsV (st ++ [w])).length = st.length + 1 := by rw [wsV_len]; simp
  have hne : wsV (st ++ [w]) ≠ [] := by rw [e]; simp
  have hwl := wsV_len st
  generalize hes : wsV st = es at h him hsz e hwl
  cases h with
  | nils =>
    have h0 : st.length = 0 := by simpa using hwl.symm
    have hst : st = [] := by simpa using h0
    subst hst
    refine ⟨H.length, H ++ [.tok 1], ?_, .tok _ _ (by rw [hl]; simp) hne, by simp, fun q hq _ => List.getElem?_append_left hq, .inr ⟨rfl, rfl⟩⟩
    rw [e]
    simp only [List.nil_append] at him hsz
    have hw4 : (wrV w).length = 4 := rfl
    simp [appV, srcV, hfit 1 (by omega), hsz, him]
  | tok j es hj hne' =>
    have hjl := get_lt hj
    refine ⟨j, H.set j (.tok (st.length + 1)), ?_, .tok _ _ (by rw [hl]; simp [hjl]) hne, by simp, fun q hq hqj => List.getElem?_set_ne (Ne.symm hqj), .inl rfl⟩
    simp only [appV, srcV, hwl, List.length_singleton, hfit (st.length + 1) (by omega), him, hsz, hj, Bool.and_self, if_true, e]
theorem Put_last (W : Wr) {H0 : List Vm.Obj} {p : Nat} {es0 : List En} {ep : Int} {ev0 : V} {ss0 : List V} {x0 : List (List V)} (h0 : BufAt H0 p es0 ep ev0 ss0 x0) (k : Nat) (hk : k < es0.length) (hlen8 : es0[k].st.length ≤ 8) :
    ∃ id j H1, ev0 = .rsl id 0 es0.length ∧ H0[id]? = some (.arr (rowsH es0 ss0 ++ x0)) ∧ appV 2 4 32 ⟨[wrV W], [], H0⟩ (ss0.getD k .undef) (.els [wrV W]) = some (.osl true j (wsV (es0[k].st ++ [W])), ⟨[wrV W], [], H1⟩) ∧
      H1[id]? = some (.arr (rowsH es0 ss0 ++ x0)) ∧ j ≠ p ∧ j ≠ id ∧ id ≠ p ∧ p < H0.length ∧ id < H0.length ∧ (vid (ss0.getD k .undef) = some j ∨ (ss0.getD k .undef = .nils ∧ j = H0.length)) ∧
      BufAt (H1.set id (.arr ((rowsH es0 ss0 ++ x0).set k (rowH es0[k] (.osl true j (wsV (es0[k].st ++ [W]))))))) p (es0.set k { es0[k] with st := es0[k].st ++ [W] }) ep ev0 (ss0.set k (.osl true j (wsV (es0[k].st ++ [W])))) x0 ∧
      H0.length ≤ H1.length ∧ (∀ q, q < H0.length → ¬ ft p ev0 ss0 q → (H1.set id (.arr ((rowsH es0 ss0 ++ x0).set k (rowH es0[k] (.osl true j (wsV (es0[k].st ++ [W])))))))[q]? = H0[q]?) ∧
      (∀ q, ft p ev0 (ss0.set k (.osl true j (wsV (es0[k].st ++ [W])))) q → ft p ev0 ss0 q ∨ H0.length ≤ q) := by
  have hsl := h0.len
  have hks : k < ss0.length := by omega
  have hgd : ss0.getD k .undef = ss0[k] := by simp [List.getD_eq_getElem?_getD, hks]
  obtain ⟨j, H1, a1, a2, a3, a4, a5⟩ := (h0.lg k hk).push (by omega) W [wrV W] []
  rcases h0.ent with ⟨_, c2, _⟩ | ⟨id, c1, c2, c3⟩
  · rw [c2] at hk; simp at hk
  have hidl := get_lt c2
  have hp0 := get_lt h0.obj
  have hidp : id ≠ p := by have := h0.vid_p; rw [c1] at this; intro e; exact this (by rw [e]; rfl)
  have hj : j ≠ p ∧ j ≠ id ∧ (ft p ev0 ss0 j ∨ H0.length ≤ j) ∧ (∀ i (hi : i < es0.length), i ≠ k → vid (ss0[i]'(by omega)) ≠ some j) := by
    rcases a5 with a5 | ⟨_, a5⟩
    · obtain ⟨b1, b2⟩ := h0.vid_s (List.getElem_mem hks) a5
      refine ⟨b1, fun e => b2 (by rw [c1, e]; rfl), .inl (.inr (.inr ⟨_, List.getElem_mem hks, a5⟩)), fun i hi hik => ?_⟩
      rcases Nat.lt_or_gt_of_ne hik with c | c
      · intro hc
        exact h0.ds i k c hk j hc a5
      · exact h0.ds k i c hi j a5
    · refine ⟨by omega, by omega, .inr (by omega), fun i hi hik hc => ?_⟩
      have := h0.lt (q := j) (.inr (.inr ⟨_, List.getElem_mem (by omega), hc⟩))
      omega
  obtain ⟨j1, j2, j3, j4⟩ := hj
  have h1id : H1[id]? = some (.arr (rowsH es0 ss0 ++ x0)) := by rw [a4 id hidl (Ne.symm j2)]; exact c2
  have hrl := rowsH_len es0 ss0 hsl
  have hset : (rowsH es0 ss0 ++ x0).set k (rowH es0[k] (.osl true j (wsV (es0[k].st ++ [W])))) = rowsH (es0.set k { es0[k] with st := es0[k].st ++ [W] }) (ss0.set k (.osl true j (wsV (es0[k].st ++ [W])))) ++ x0 := by
    rw [List.set_append_left _ _ (by omega), ← rowsH_set]
    rfl
  refine ⟨id, j, H1, c1, c2, by rw [hgd]; exact a1, h1id, j1, j2, hidp, hp0, hidl, by rw [hgd]; exact a5, ⟨?_, .inr ⟨id, by rw [c1]; simp, ?_, ?_⟩, by simp [hsl], h0.sx, ?_, ?_⟩, a3, ?_, ?_⟩
  · rw [List.getElem?_set_ne hidp, a4 p hp0 (Ne.symm j1)]; exact h0.obj
  · rw [← hset, List.getElem?_set_self (by omega)]
  · rw [← hset]; intro hc
    have := congrArg List.length hc
    simp at this
    exact c3 (by simpa using this)
  · intro i hi
    have hi' : i < es0.length := by simpa using hi
    by_cases c : i = k
    · subst c
      simp only [List.getElem_set_self]
      exact a2.frame fun id' hid' => by
        cases hid'
        rw [List.getElem?_set_ne (Ne.symm j2)]
    · simp only [List.getElem_set_ne (Ne.symm c)]
      refine (h0.lg i hi').frame fun id' hid' => ?_
      obtain ⟨b1, b2⟩ := h0.vid_s (List.getElem_mem (by omega)) hid'
      have b3 : id ≠ id' := fun e => b2 (by rw [c1, e]; rfl)
      have b4 : id' ≠ j := fun e => j4 i hi' c (by rw [← e]; exact hid')
      rw [List.getElem?_set_ne b3, a4 id' (h0.lt (.inr (.inr ⟨_, List.getElem_mem (by omega), hid'⟩))) b4]
  · intro i i2 hi hk2 j' hj'
    have hk2' : i2 < es0.length := by simpa using hk2
    by_cases c : i = k
    · subst c
      simp only [List.getElem_set_self] at hj'
      cases hj'
      rw [List.getElem_set_ne (by omega)]
      exact j4 i2 hk2' (by omega)
    · rw [List.getElem_set_ne (Ne.symm c)] at hj'
      by_cases c2 : i2 = k
      · subst c2
        simp only [List.getElem_set_self]
        intro hc
        cases hc
        exact j4 i (by omega) c hj'
      · rw [List.getElem_set_ne (Ne.symm c2)]
        exact h0.ds i i2 hi hk2' j' hj'
  · intro q hq hnf
    have q1 : id ≠ q := fun e => hnf (.inr (.inl (by rw [c1, e]; rfl)))
    have q2 : q ≠ j := by
      rintro rfl
      rcases j3 with j3 | j3
      · exact hnf j3
      · omega
    rw [List.getElem?_set_ne q1, a4 q hq q2]
  · intro q hq
    rcases hq with rfl | hq | ⟨s, hs, hq⟩
    · exact .inl (.inl rfl)
    · exact .inl (.inr (.inl hq))
    · rcases List.mem_or_eq_of_mem_set hs with hs | rfl
      · exact .inl (.inr (.inr ⟨s, hs, hq⟩))
      · cases hq; exact j3
theorem shape_of {H0 : List Vm.Obj} {s : V} {l : List (List V)} {j : Nat} (hl : Lg H0 s l) (hj : vid s = some j ∨ (s = .nils ∧ j = H0.length)) : s = .nils ∨ ∃ l', s = .osl true j l' := by
  cases hl with
  | nils => exact .inl rfl
  | tok j' es' h1 h2 =>
    rcases hj with hj | ⟨hj, _⟩
    · cases hj; exact .inr ⟨_, rfl⟩
    · cases hj
/-- The last piece of code of Put: the store goes behind an entry's. -/
def putTail : C := match ir_sbuf_Buffer_Put.body with
  | .seq _ (.seq _ (.seq _ (.seq _ (.seq _ c)))) => c
  | _ => .skip
def putHead (t : C) : C := match ir_sbuf_Buffer_Put.body with
  | .seq a (.seq b (.seq c (.seq d (.seq e _)))) => .seq a (.seq b (.seq c (.seq d (.seq e t))))
  | _ => .skip
theorem put_body : ir_sbuf_Buffer_Put.body = putHead putTail := rfl
theorem putTail_ok (W : Wr) {H0 : List Vm.Obj} {p : Nat} {es0 : List En} {ep : Int} {ev0 : V} {ss0 : List V} {x0 : List (List V)} (h0 : BufAt H0 p es0 ep ev0 ss0 x0) (k : Nat) (hk : k < es0.length) (hlen8 : es0[k].st.length ≤ 8) (c6 : V) :
    ∃ H' ss', evCI pg putTail ⟨[.ptr p 0 0, .undef, .lp 0 0, .undef, .int .i64 (k : Int), .undef, c6], ⟨[wrV W], [], H0⟩⟩ = some (.ret, ⟨[.undef, .undef, .undef, .bool true, .undef, .undef, .undef], ⟨[[]], [], H'⟩⟩) ∧
      BufAt H' p (es0.set k { es0[k] with st := es0[k].st ++ [W] }) ep ev0 ss' x0 ∧ H0.length ≤ H'.length ∧ (∀ q, q < H0.length → ¬ ft p ev0 ss0 q → H'[q]? = H0[q]?) ∧ (∀ q, ft p ev0 ss' q → ft p ev0 ss0 q ∨ H0.length ≤ q) := by
  obtain ⟨id, j, H3, q1, q2, q3, q4, q5, q6, q7, q8, q9, q10, q11, q12, q13, q14⟩ := Put_last W h0 k hk hlen8
  refine ⟨_, _, ?_, q11, by simpa using q12, q13, q14⟩
  have hsl := h0.len
  have hks : k < ss0.length := by omega
  have hgd : ss0.getD k .undef = ss0[k] := by simp [List.getD_eq_getElem?_getD, hks]
  rw [hgd] at q3 q10
  have hrl := rowsH_len es0 ss0 hsl
  have hrow : (rowsH es0 ss0 ++ x0)[k]? = some [.int .i64 es0[k].blk, .int .i64 es0[k].ep, ss0[k]] := by
    rw [List.getElem?_append_left (by omega), rowsH_get _ _ hsl _ hk]; rfl
  have hsh := shape_of (h0.lg k hk) q10
  have hobj := h0.obj
  have hflat := (h0.lg k hk).flat
  have hw4 : (wrV W).length = 4 := rfl
  have ht4 : (wrV W).take 4 = wrV W := rfl
  have hfl : (wrV W).all V.flat = true := rfl
  have idl3 := get_lt q4
  have hj0 : vid ss0[k] = some j → j < H0.length := fun hh => h0.lt (.inr (.inr ⟨_, List.getElem_mem hks, hh⟩))
  clear q11 q13 q14
  subst q1
  obtain ⟨s, hs⟩ : ∃ s, s = ss0[k] := ⟨_, rfl⟩
  rw [← hs] at q3 hrow hj0 hsh
  clear hs hflat q10 hgd
  rcases hsh with rfl | ⟨l', rfl⟩
  · simp [putTail, ir_sbuf_Buffer_Put, go_sem, hobj, get_el hobj, q8, q9, q2, get_el q2, hk, hrow, litParts, hw4, ht4, hfl, q3, q4, get_el q4, idl3, q5, q6, q7, q7.symm, q5.symm, q6.symm, rowH, unV, -Int.natCast_add]
  · have hjl : j < H0.length := hj0 rfl
    simp [putTail, ir_sbuf_Buffer_Put, go_sem, hobj, get_el hobj, q8, q9, hjl, q2, get_el q2, hk, hrow, litParts, hw4, ht4, hfl, q3, q4, get_el q4, idl3, q5, q6, q7, q7.symm, q5.symm, q6.symm, rowH, unV, -Int.natCast_add]
/-- A place for a new entry. -/
theorem putNew_ok {H : List Vm.Obj} {p : Nat} {es : List En} {ep : Int} {ev : V} {ss : List V} {x : List (List V)} (h : BufAt H p es ep ev ss x) (hn : es.length ≤ 4) (b : Int) (vs : List (List V)) :
    lenV ev = some es.length := by
  rcases h.ent with ⟨r1, r2, _⟩ | ⟨id0, r1, _⟩
  · rw [r1, r2]; rfl
  · rw [r1]; rfl
theorem Put_ok {H : List Vm.Obj} {p : Nat} {es : List En} {ep : Int} {ev : V} {ss : List V} {x : List (List V)} (h : BufAt H p es ep ev ss x) (ho : okE es) (w : Wr) (hd : w.data < 18446744073709551616) (hf : fits13 es ep w = true) :
    ∃ H' ev' ss' x', evI pg .heap n_sbuf_Buffer_Put [.ptr p 0 0, .agg (wrV w)] H = some (.bool true, H') ∧
      BufAt H' p (addS (w.addr / 8) ep { w with data := zx w.data (8 * w.size) } es) ep ev' ss' x' ∧ H.length ≤ H'.length ∧ (∀ q, q < H.length → ¬ ft p ev ss q → H'[q]? = H[q]?) ∧ (∀ q, ft p ev' ss' q → ft p ev ss q ∨ H.length ≤ q) := by
  obtain ⟨u, hu, hui⟩ := h.imm
  have hp := h.obj
  have hpl := get_lt hp
  have hF := Fits_ok true u es ep hu ho w
  rw [hf] at hF
  have hm : mayW w = true := by unfold fits13 at hf; rw [Bool.and_eq_true] at hf; exact hf.1
  have hb := may_addr hm
  have hZ := Zext_ok w.data (8 * w.size) hd
  have ez : IntKind.i64.wrap (8 * w.size) = 8 * w.size := wrap_i64 (by omega) (by omega)
  have hroom : (plc (w.addr / 8) ep es 0).2 = true := by unfold fits13 at hf; rw [Bool.and_eq_true] at hf; exact hf.2
  have e8 : w.addr.tdiv 8 = w.addr / 8 := by rw [Int.tdiv_eq_ediv_of_nonneg hb.1]
  have e9 : IntKind.i64.wrap (w.addr / 8) = w.addr / 8 := wrap_i64 (by omega) (by omega)
  obtain ⟨W, hW⟩ : ∃ W : Wr, W = { w with data := zx w.data (8 * w.size) } := ⟨_, rfl⟩
  have hP := place_ok true u es ep hu ho W (by rw [hW]; exact ⟨hb.1, hb.2.1⟩)
  have hWv : wrV W = [.int .i64 w.id, .int .i64 w.addr, .int .i64 w.size, .int .u64 (zx w.data (8 * w.size) : Nat)] := by rw [hW]; rfl
  have hwa : W.addr = w.addr := by rw [hW]
  rw [← hW]
  rw [hwa] at hP
  obtain ⟨k, hk1, hk2⟩ := plc_addS (w.addr / 8) ep W es 0
  rw [Nat.zero_add] at hk1
  simp only [hk1, hroom] at hP
  have hlev := putNew_ok h ho.1 0 []
  have hwv0 : wrV w = [.int .i64 w.id, .int .i64 w.addr, .int .i64 w.size, .int .u64 (w.data : Int)] := rfl
  rw [hwv0] at hF ⊢
  rw [s_fn fn_sbuf_Buffer_Put]
  rcases hk2 with ⟨hk, hadd⟩ | ⟨hk, hadd⟩
  · subst hk
    obtain ⟨ev1, x1, H1, p1, p2, p3, p4, p5, p6, p7, p8, p9⟩ := h.app ho.1 (w.addr / 8) [wrV W] []
    have hk0 : es.length < (es ++ [(⟨w.addr / 8, ep, []⟩ : En)]).length := by simp
    have hek : (es ++ [(⟨w.addr / 8, ep, []⟩ : En)])[es.length] = ⟨w.addr / 8, ep, []⟩ := by simp
    obtain ⟨H', ss', t1, t2, t3, t4, t5⟩ := putTail_ok W p6 es.length hk0 (by rw [hek]; simp) .undef
    have hpl1 : p < H1.length := by omega
    have hadd' : addS (w.addr / 8) ep W es = (es ++ [(⟨w.addr / 8, ep, []⟩ : En)]).set es.length { (es ++ [(⟨w.addr / 8, ep, []⟩ : En)])[es.length] with st := (es ++ [(⟨w.addr / 8, ep, []⟩ : En)])[es.length].st ++ [W] } := by
      rw [hadd, hek]; simp
    refine ⟨H', ev1, ss', x1, ?_, by rw [hadd']; exact t2, by simp at t3; omega, fun q hq hnf => ?_, fun q hq => ?_⟩
    · rw [hWv] at hP p1 t1
      rw [put_body]
      revert t1
      generalize putTail = B
      intro t1
      simp [putHead, ir_sbuf_Buffer_Put, go_sem, hp, get_el hp, hpl, hui, hu.is, hF, hZ, ez, hP, hlev, e8, e9, litParts, p1, p2, get_el p2, hpl1, p3, p4, p5, t1, unV, -Int.natCast_add]
    · have hne : p ≠ q := fun e => hnf (.inl e.symm)
      have := t4 q (by simp; omega) (fun hc => by rcases p9 q hc with hc | hc; exact hnf hc; omega)
      rw [this, List.getElem?_set_ne hne]
      exact p8 q hq (fun e => hnf (.inr (.inl e)))
    · rcases t5 q hq with hc | hc
      · exact p9 q hc
      · simp at hc; exact .inr (by omega)
  · obtain ⟨H', ss', t1, t2, t3, t4, t5⟩ := putTail_ok W h k hk ((ho.2 es[k] (List.getElem_mem _)).1) (.bool false)
    refine ⟨H', ev, ss', x, ?_, by rw [hadd]; exact t2, t3, t4, t5⟩
    rw [hWv] at hP t1
    have hne : ¬ k = es.length := by omega
    rw [put_body]
    revert t1
    generalize putTail = B
    intro t1
    simp [putHead, ir_sbuf_Buffer_Put, go_sem, hp, get_el hp, hpl, hui, hu.is, hF, hZ, ez, hP, hlev, e8, e9, litParts, hne, t1, unV, -Int.natCast_add]
theorem Put_no {H : List Vm.Obj} {p : Nat} {es : List En} {ep : Int} {ev : V} {ss : List V} {x : List (List V)} (h : BufAt H p es ep ev ss x) (ho : okE es) (w : Wr) (hf : fits13 es ep w = false) :
    evI pg .heap n_sbuf_Buffer_Put [.ptr p 0 0, .agg (wrV w)] H = some (.bool false, H) := by
  obtain ⟨u, hu, hui⟩ := h.imm
  have hp := h.obj
  have hpl := get_lt hp
  have hF := Fits_ok true u es ep hu ho w
  rw [hf] at hF
  have hwv0 : wrV w = [.int .i64 w.id, .int .i64 w.addr, .int .i64 w.size, .int .u64 (w.data : Int)] := rfl
  rw [hwv0] at hF ⊢
  rw [s_fn fn_sbuf_Buffer_Put]
  simp [ir_sbuf_Buffer_Put, go_sem, hp, get_el hp, hpl, hui, hu.is, hF, unV]
end Go.Proofs.Ytaedicechhbhdaa
