/- Layer 13: the buffer by all its stores (no claim; lemmas). -/
import Derived.Test.YtaedicechhbhdaaK13p
set_option linter.unusedSimpArgs false
set_option linter.unusedVariables false
namespace Go.Proofs.Ytaedicechhbhdaa
open Go Go.Vm

def zw (w : Wr) : Wr := { w with data := zx w.data (8 * w.size) }
/-- The buffer that stands at a place, by its stores; its objects. -/
def Lv (H : List Vm.Obj) (p : Nat) (L : List SE) (ep : Int) (F : Nat → Prop) : Prop := ∃ ev ss x, BufAt H p (grp L) ep ev ss x ∧ ∀ q, F q ↔ ft p ev ss q
section
variable {H : List Vm.Obj} {p : Nat} {L : List SE} {ep : Int} {F : Nat → Prop} (h : Lv H p L ep F)
include h
theorem Lv.frame {H' : List Vm.Obj} (hf : ∀ q, F q → H'[q]? = H[q]?) : Lv H' p L ep F := by
  obtain ⟨ev, ss, x, h1, h2⟩ := h
  exact ⟨ev, ss, x, h1.frame fun q hq => hf q ((h2 q).2 hq), h2⟩
theorem Lv.lt {q : Nat} (hq : F q) : q < H.length := by
  obtain ⟨ev, ss, x, h1, h2⟩ := h
  exact h1.lt ((h2 q).1 hq)
theorem Lv.plt : p < H.length := by
  obtain ⟨ev, ss, x, h1, h2⟩ := h
  exact get_lt h1.obj
theorem Lv.imm : ∃ ev u, H[p]? = some (.arr [[ev, .int .i64 ep]]) ∧ Sl u (enR (grp L)) ∧ ∀ vs tk d, toImm ⟨vs, tk, H⟩ true (d + 3) ev = some u := by
  obtain ⟨ev, ss, x, h1, h2⟩ := h
  obtain ⟨u, h3, h4⟩ := h1.imm
  exact ⟨ev, u, h1.obj, h3, h4⟩
variable (hi : Iv L ep)
include hi
theorem Lv.put (w : Wr) (hd : w.data < 18446744073709551616) (hf : fits13 (grp L) ep w = true) :
    ∃ H' F', evI pg .heap n_sbuf_Buffer_Put [.ptr p 0 0, .agg (wrV w)] H = some (.bool true, H') ∧ Lv H' p (L ++ [(zw w, ep)]) ep F' ∧ Iv (L ++ [(zw w, ep)]) ep ∧ H.length ≤ H'.length ∧ (∀ q, q < H.length → ¬ F q → H'[q]? = H[q]?) ∧ (∀ q, F' q → F q ∨ H.length ≤ q) := by
  obtain ⟨ev, ss, x, h1, h2⟩ := h
  obtain ⟨H', ev', ss', x', e1, e2, e3, e4, e5⟩ := Put_ok h1 hi.ok w hd hf
  refine ⟨H', ft p ev' ss', e1, ⟨ev', ss', x', ?_, fun q => Iff.rfl⟩, hi.put w hd hf, e3, fun q hq hn => e4 q hq fun hc => hn ((h2 q).2 hc), fun q hq => ?_⟩
  · rw [grp_snoc]; exact e2
  · rcases e5 q hq with h | h
    · exact .inl ((h2 q).2 h)
    · exact .inr h
theorem Lv.putno (w : Wr) (hf : fits13 (grp L) ep w = false) : evI pg .heap n_sbuf_Buffer_Put [.ptr p 0 0, .agg (wrV w)] H = some (.bool false, H) := by
  obtain ⟨ev, ss, x, h1, h2⟩ := h
  exact Put_no h1 hi.ok w hf
theorem Lv.bar (hep : ep ≤ 99) : ∃ H' ep', evI pg .heap n_sbuf_Buffer_Barrier [.ptr p 0 0] H = some (.tup [], H') ∧ Lv H' p L ep' F ∧ Iv L ep' ∧ ep ≤ ep' ∧ ep' ≤ ep + 1 ∧ H.length ≤ H'.length ∧ (∀ q, q < H.length → q ≠ p → H'[q]? = H[q]?) ∧ ((∃ x ∈ L, x.2 = ep) → ep < ep') := by
  obtain ⟨ev, ss, x, h1, h2⟩ := h
  have he := hi.ep0
  obtain ⟨H', e1, e2, e3, e4⟩ := Barrier_ok h1 hi.ok (by omega)
  refine ⟨H', _, e1, ⟨ev, ss, x, e2, h2⟩, hi.bar (by split <;> omega) (by split <;> omega), by split <;> omega, by split <;> omega, e3, e4, ?_⟩
  rintro ⟨y, hy, hye⟩
  obtain ⟨e, he1, he2⟩ := List.mem_map.1 (grp_cov L y hy)
  unfold ek key at he2
  simp only [Prod.mk.injEq] at he2
  rw [if_pos (by rw [List.any_eq_true]; exact ⟨e, he1, by simp; omega⟩)]
  omega
/-- An entry goes: the stores of its block and epoch. -/
theorem Lv.drain (k : Nat) (hk : k < (grp L).length) (hl : ((grp L)[k]).ep = lea ep (grp L)) :
    ∃ H' F' o κ, evI pg .heap n_sbuf_Buffer_Drain [.ptr p 0 0, .int .i64 (k : Int)] H = some (o, H') ∧ Lv H' p (L.filter fun x => decide (key x ≠ κ)) ep F' ∧ Iv (L.filter fun x => decide (key x ≠ κ)) ep ∧ κ = ek (grp L)[k] ∧ κ.2 = lea ep (grp L) ∧
      (grp (L.filter fun x => decide (key x ≠ κ))).length + 1 = (grp L).length ∧ (L.filter fun x => decide (key x = κ)) ≠ [] ∧ (L.filter fun x => decide (key x = κ)).length ≤ 8 ∧
      Lg H' o (wsV ((L.filter fun x => decide (key x = κ)).map Prod.fst)) ∧ (∀ j, vid o = some j → F j ∧ ¬ F' j) ∧ H'.length = H.length ∧ (∀ q, q < H.length → ¬ F q → H'[q]? = H[q]?) ∧ (∀ q, F' q → F q) := by
  obtain ⟨ev, ss, x, h1, h2⟩ := h
  obtain ⟨H', ev', x', e1, e2, e3, e4, e5, e6⟩ := Drain_ok h1 hi.ok k hk hl
  have hmem := List.getElem_mem hk
  have hst := grp_st L _ hmem
  have her := erase_filter (grp L) k hk (grp_nodup L)
  have hsl := h1.len
  have hks : k < ss.length := by omega
  have hgd : ss.getD k .undef = ss[k] := by simp [List.getD_eq_getElem?_getD, hks]
  refine ⟨H', ft p ev' (ss.eraseIdx k), ss.getD k .undef, ek (grp L)[k], e1, ⟨ev', ss.eraseIdx k, x', ?_, fun q => Iff.rfl⟩, hi.drain _, rfl, hl, ?_, ?_, ?_, ?_, ?_, e4, fun q hq hn => e5 q hq fun hc => hn ((h2 q).2 hc), fun q hq => (h2 q).2 (e6 q hq)⟩
  · rw [grp_filter, ← her]; exact e2
  · rw [grp_filter, ← her, List.length_eraseIdx, if_pos hk]; omega
  · intro hc
    rw [hc] at hst
    exact hst.2 hst.1
  · have := hi.n8 _ hmem
    rw [hst.1] at this
    simpa using this
  · rw [← hst.1]; exact e3
  · intro j hj
    rw [hgd] at hj
    refine ⟨(h2 j).2 (.inr (.inr ⟨_, List.getElem_mem hks, hj⟩)), ?_⟩
    obtain ⟨b1, b2⟩ := h1.vid_s (List.getElem_mem hks) hj
    obtain ⟨n, hn⟩ := (h1.lg k hk).vtok hj
    have hH' : ∃ n, H'[j]? = some (.tok n) := by
      rw [hgd] at e3
      exact e3.vtok hj
    rintro (hc | hc | ⟨s, hs, hc⟩)
    · exact b1 hc
    · rcases e2.ent with ⟨c1, _⟩ | ⟨id, c1, c2, _⟩
      · rw [c1] at hc; cases hc
      · rw [c1] at hc; cases hc
        obtain ⟨n, hn⟩ := hH'
        rw [c2] at hn; cases hn
    · obtain ⟨i, hi', rfl⟩ := List.mem_iff_getElem.1 hs
      have hsel : (ss.eraseIdx k).length = (grp L).length - 1 := by rw [List.length_eraseIdx, if_pos hks, hsl]
      rw [List.getElem_eraseIdx] at hc
      split at hc
      · rename_i hik
        exact h1.ds i k hik hk j hc hj
      · exact h1.ds k (i + 1) (by omega) (by omega) j hj hc
theorem Lv.drainno (k : Int) (hk : (rdy (lea ep (grp L)) (grp L) 0).contains k = false) : evI pg .heap n_sbuf_Buffer_Drain [.ptr p 0 0, .int .i64 k] H = some (.nils, H) := by
  obtain ⟨ev, ss, x, h1, h2⟩ := h
  exact Drain_no h1 hi.ok k hk
end
theorem Lv.new (H : List Vm.Obj) (p : Nat) (h : H[p]? = some (.arr [[.nils, .int .i64 0]])) : Lv H p [] 0 (fun q => q = p) :=
  ⟨.nils, [], [], ⟨h, .inl ⟨rfl, rfl, rfl⟩, rfl, by simp, fun i hi => by simp [grp] at hi, fun i k hi hk => by simp [grp] at hk⟩, fun q => by simp [ft, vid]⟩
theorem rdy_get (m : Int) : ∀ (es : List En) (i j : Nat) (h : j < (rdy m es i).length), ∃ k : Nat, ∃ hk : k < es.length, (rdy m es i)[j] = ((i + k : Nat) : Int) ∧ es[k].ep = m := by
  intro es i j h
  have := (rdy_contains m (rdy m es i)[j] es i).1 (by rw [List.contains_iff_mem]; exact List.getElem_mem h)
  obtain ⟨k, hk, h1, h2⟩ := this
  exact ⟨k, hk, h1, h2⟩
theorem rdy_pos {L : List SE} {ep : Int} (h : Iv L ep) (hne : grp L ≠ []) : 0 < (rdy (lea ep (grp L)) (grp L) 0).length := by
  obtain ⟨e, he, hl⟩ := rdy_ne h hne
  obtain ⟨k, hk, rfl⟩ := List.mem_iff_getElem.1 he
  have := (rdy_contains (lea ep (grp L)) (k : Int) (grp L) 0).2 ⟨k, hk, by simp, hl⟩
  rw [List.contains_iff_mem] at this
  exact List.length_pos_of_mem this

/-! ### acts -/
structure Ac where
  (kind : Int) (w : Wr)
def acV (a : Ac) : List V := [.int .i64 a.kind, .int .i64 a.w.id, .int .i64 a.w.addr, .int .i64 a.w.size, .int .u64 (a.w.data : Int)]
def acR (l : List Ac) : List (List V) := l.map acV
theorem acR_len (l : List Ac) : (acR l).length = l.length := by simp [acR]
theorem acR_el (l : List Ac) (i : Nat) (h : i < (acR l).length) : (acR l)[i] = acV (l[i]'(by simpa [acR] using h)) := by simp [acR]
theorem acR_sz (l : List Ac) : ∀ e ∈ acR l, e.length = 5 := by
  intro e he
  obtain ⟨w, _, rfl⟩ := List.mem_map.1 he
  rfl
def okA (l : List Ac) : Prop := ∀ a ∈ l, a.w.data < 18446744073709551616 ∧ (-9223372036854775808 ≤ a.w.addr ∧ a.w.addr ≤ 9223372036854775807)
theorem acg {v : V} {l : List Ac} (hv : Sl v (acR l)) {i : Nat} (h : i < l.length) (m : Mem) : iaSV 5 m v (.int .i64 (i : Int)) = some (.ip (tg v) (acV l[i]) 0) := by
  have := hv.ia (sz := 5) m .i64 (i := i) (by rw [acR_len]; exact h) (acR_sz _ _ (List.getElem_mem _))
  rwa [acR_el] at this
/-! ### what is handed -/
theorem pv_ac {n : Nat} {vs : List V} (h : PV Try.prog (n + 3) 33 vs) : ∃ a : Ac, vs = acV a ∧ a.w.data < 18446744073709551616 ∧ (-9223372036854775808 ≤ a.w.addr ∧ a.w.addr ≤ 9223372036854775807) := by
  obtain ⟨_, _, rfl, h1, _, _, rfl, h2, rfl⟩ := pv_struct Try.underlying33 h
  obtain ⟨k, rfl, _⟩ := pv_i64 Try.underlying3 h1
  obtain ⟨_, _, rfl, h3, _, _, rfl, h4, _, _, rfl, h5, _, _, rfl, h6, rfl⟩ := pv_struct Try.underlying31 h2
  obtain ⟨i, rfl, _⟩ := pv_i64 Try.underlying3 h3
  obtain ⟨a, rfl, ha⟩ := pv_i64 Try.underlying3 h4
  obtain ⟨s, rfl, _⟩ := pv_i64 Try.underlying3 h5
  obtain ⟨d, rfl, hd⟩ := pv_u64 Try.underlying29 h6
  exact ⟨⟨k, ⟨i, a, s, d⟩⟩, rfl, hd, ha⟩
theorem pv_acs {n : Nat} : ∀ es : List (List V), (∀ q ∈ es, PV Try.prog (n + 3) 33 q) → ∃ l : List Ac, es = acR l ∧ okA l
  | [], _ => ⟨[], rfl, by simp [okA]⟩
  | q :: es, h => by
    obtain ⟨w, rfl, hw⟩ := pv_ac (h q (by simp))
    obtain ⟨l, rfl, hl⟩ := pv_acs es fun q hq => h q (by simp [hq])
    refine ⟨w :: l, rfl, fun x hx => ?_⟩
    rcases List.mem_cons.1 hx with rfl | hx
    · exact hw
    · exact hl x hx
theorem arg_acs {n : Nat} {v : V} (h : ArgPV Try.prog (n + 4) 22 v) : ∃ l : List Ac, Sl v (acR l) ∧ okA l := by
  rcases arg_slice Try.underlying22 h with rfl | ⟨es, rfl, _, hes⟩
  · exact ⟨[], .nils, by simp [okA]⟩
  · obtain ⟨l, rfl, hok⟩ := pv_acs es hes
    exact ⟨l, .isl _ _, hok⟩
theorem pv_u8s {n : Nat} : ∀ es : List (List V), (∀ q ∈ es, PV Try.prog (n + 1) 5 q) → ∃ l : List Nat, es = byV l ∧ ∀ b ∈ l, b < 256
  | [], _ => ⟨[], rfl, by simp⟩
  | q :: es, h => by
    obtain ⟨w, rfl, hw⟩ := pv_u8 Try.underlying5 (h q (by simp))
    obtain ⟨l, rfl, hl⟩ := pv_u8s es fun q hq => h q (by simp [hq])
    refine ⟨w :: l, rfl, fun x hx => ?_⟩
    rcases List.mem_cons.1 hx with rfl | hx
    · exact hw
    · exact hl x hx
theorem arg_u8s {n : Nat} {v : V} (h : ArgPV Try.prog (n + 2) 41 v) : ∃ l : List Nat, Sl v (byV l) ∧ ∀ b ∈ l, b < 256 := by
  rcases arg_slice Try.underlying41 h with rfl | ⟨es, rfl, _, hes⟩
  · exact ⟨[], .nils, by simp⟩
  · obtain ⟨l, rfl, hok⟩ := pv_u8s es hes
    exact ⟨l, .isl _ _, hok⟩
theorem alive13 : evI pg .val n_undertowlaw13_alive [] [] = some (.bool true, []) := closed irL_ok 300 (by kernel_rfl)
end Go.Proofs.Ytaedicechhbhdaa
