/- Layer 13: the document's buffer: put, barriers (no claim; lemmas). -/
import Derived.Test.YtaedicechhbhdaaK13jf
set_option linter.unusedSimpArgs false
set_option linter.unusedVariables false
namespace Go.Proofs.Ytaedicechhbhdaa
open Go Go.Vm

theorem gR_clean (G : List (List SE)) : CleanR (gR G) := by
  intro q hq x hx
  obtain ⟨g, _, rfl⟩ := List.mem_map.1 hq
  simp only [List.mem_singleton] at hx
  subst hx
  rw [e_clean_isl]
  simp only [Bool.not_false, Bool.true_and, List.all_eq_true]
  intro r hr y hy
  obtain ⟨z, _, rfl⟩ := List.mem_map.1 hr
  simp only [seV, List.mem_cons, List.not_mem_nil, or_false] at hy
  rcases hy with rfl | rfl | rfl | rfl | rfl <;> rfl
section
variable {H : List Vm.Obj} {p : Nat} {L : List SE} {ep : Int} {F : Nat → Prop} (h : Dv H p L ep F) (hI : Iv L ep)
include h hI
theorem Dv.put (w : Wr) (hd : w.data < 18446744073709551616) (hb : -9223372036854775808 ≤ w.addr ∧ w.addr ≤ 9223372036854775807) :
    ∃ H' F', evI pg .heap n_undertowref13_Buffer_Put [.ptr p 0 0, .agg (wrV w)] H = some (.bool (fits13 (grp L) ep w), H') ∧ Dv H' p (if fits13 (grp L) ep w = true then L ++ [(zw w, ep)] else L) ep F' ∧ H.length ≤ H'.length ∧ (∀ q, q < H.length → ¬ F q → H'[q]? = H[q]?) ∧ (∀ q, F' q → F q ∨ H.length ≤ q) := by
  have hM := MayD_ok w hb
  have hL := hI.len
  cases c : mayW w with
  | false =>
    have hf : fits13 (grp L) ep w = false := by unfold fits13; rw [c]; rfl
    rw [hf, if_neg (by simp)]
    refine ⟨H, F, ?_, h, Nat.le_refl _, fun _ _ _ => rfl, fun q hq => .inl hq⟩
    rw [c] at hM
    have hwv0 : wrV w = [.int .i64 w.id, .int .i64 w.addr, .int .i64 w.size, .int .u64 (w.data : Int)] := rfl
    rw [hwv0] at hM ⊢
    rw [s_fn fn_undertowref13_Buffer_Put]
    simp [ir_undertowref13_Buffer_Put, go_sem, hM, unV, loadAt, V.cells, V.exp]
  | true =>
    rw [c] at hM
    have hma := may_addr c
    have h' := h
    obtain ⟨lv, o, hp, hr, ho, hF⟩ := h'
    obtain ⟨u, hu, hui⟩ := hr.imm
    have hpl := get_lt hp
    have hE := EntriesD_eq (t := true) (ep := ep) hu hI.adr (by omega)
    have hcl := clean_ils (gR_clean (ents L))
    have hgl := ents_glen L
    have hZ := refZext_ok w.data (8 * w.size) hd
    have ew : IntKind.i64.wrap (8 * w.size) = 8 * w.size := wrap_i64 (by omega) (by omega)
    have ha : adr (zw w, ep) := ⟨hma.1, hma.2.1⟩
    have hlp := PutD_loop (Sl.ils (gR (ents L))) (ents_ne L) (by omega) (fun g hg => by have := hgl.2 g hg; omega) (fun g hg => hI.adr _ (ents_sub L g hg _ (hd_mem (ents_ne L g hg)))) (zw w, ep) ha p H 0 (by omega) false
    have hpc := ptl_plc (zw w, ep) (ents L) 0 (ents_nodup L)
    rw [ents_toE] at hpc
    have hf : fits13 (grp L) ep w = (plc (w.addr / 8) ep (grp L) 0).2 := by unfold fits13; rw [c]; rfl
    have hpc' : fits13 (grp L) ep w = _ := hf.trans hpc
    clear hpc hf
    have hwv0 : wrV w = [.int .i64 w.id, .int .i64 w.addr, .int .i64 w.size, .int .u64 (w.data : Int)] := rfl
    have hsv : seV (zw w, ep) = [.int .i64 w.id, .int .i64 w.addr, .int .i64 w.size, .int .u64 (zx w.data (8 * w.size) : Nat), .int .i64 ep] := rfl
    rw [List.drop_zero, Int.natCast_zero] at hlp
    have hlen : lenV (ils (gR (ents L))) = some (ents L).length := by rw [(Sl.ils (gR (ents L))).len, gR_len]
    obtain ⟨H', a1, a2, a3, a4⟩ := hr.app (by omega) (zw w, ep)
    have hpH' : H'[p]? = some (.arr [[lv, .int .i64 ep]]) := by rw [a4 p hpl ho]; exact hp
    have hpl' := get_lt hpH'
    have hfin : Dv (H'.set p (.arr [[.rsl H.length 0 (L.length + 1), .int .i64 ep]])) p (L ++ [(zw w, ep)]) ep (fun q => q = p ∨ q = H.length) := by
      refine ⟨_, _, by rw [List.getElem?_set_self hpl'], a2.frame fun q hq => ?_, by simp; omega, fun q => by simp [eq_comm]⟩
      cases hq
      rw [List.getElem?_set_ne (by omega)]
    have g1 := get_el hp hpl
    have g2 := get_el hpH' hpl'
    have hzv : seV (zw w, ep) = seV (zw w, ep) := rfl
    rw [hwv0] at hM ⊢
    rw [hsv] at hlp a1
    cases q : ptl (zw w, ep) (ents L) false with
    | none =>
      rw [q] at hlp hpc'
      simp only at hpc' hlp
      rw [hpc', if_neg (by simp)]
      refine ⟨H, F, ?_, h, Nat.le_refl _, fun _ _ _ => rfl, fun q hq => .inl hq⟩
      rw [s_fn fn_undertowref13_Buffer_Put]
      simp [ir_undertowref13_Buffer_Put, go_sem, hM, hZ, ew, hp, g1, hpl, hui, hu.is, hE, hcl, hlp, unV, loadAt, V.cells, V.exp, evStore, splice]
    | some b =>
      rw [q] at hlp hpc'
      have hgo : ∀ bb : Bool, fits13 (grp L) ep w = true → evI pg .heap n_undertowref13_Buffer_Put [.ptr p 0 0, .agg [.int .i64 w.id, .int .i64 w.addr, .int .i64 w.size, .int .u64 (w.data : Int)]] H = some (.bool true, H'.set p (.arr [[.rsl H.length 0 (L.length + 1), .int .i64 ep]])) → ∃ H' F', evI pg .heap n_undertowref13_Buffer_Put [.ptr p 0 0, .agg [.int .i64 w.id, .int .i64 w.addr, .int .i64 w.size, .int .u64 (w.data : Int)]] H = some (.bool (fits13 (grp L) ep w), H') ∧ Dv H' p (if fits13 (grp L) ep w = true then L ++ [(zw w, ep)] else L) ep F' ∧ H.length ≤ H'.length ∧ (∀ q, q < H.length → ¬ F q → H'[q]? = H[q]?) ∧ (∀ q, F' q → F q ∨ H.length ≤ q) := by
        intro _ hff hev
        rw [hff, if_pos rfl]
        refine ⟨_, _, hev, hfin, by simp; omega, fun q hq hn => ?_, fun q hq => ?_⟩
        · have n1 : q ≠ p := fun e => hn ((hF q).2 (.inl e))
          have n2 : o ≠ some q := fun e => hn ((hF q).2 (.inr e))
          rw [List.getElem?_set_ne (Ne.symm n1), a4 q hq n2]
        · rcases hq with rfl | rfl
          · exact .inl ((hF q).2 (.inl rfl))
          · exact .inr (Nat.le_refl _)
      cases b with
      | true =>
        simp only at hpc' hlp
        refine hgo true hpc' ?_
        rw [s_fn fn_undertowref13_Buffer_Put]
        simp [ir_undertowref13_Buffer_Put, go_sem, hM, hZ, ew, hp, g1, hpl, hui, hu.is, hE, hcl, hlp, a1, hpH', hpl', g2, litParts, unV, loadAt, V.cells, V.exp, evStore, splice]
      | false =>
        simp only at hpc' hlp
        by_cases d : (ents L).length < 4
        · rw [decide_eq_true (by omega)] at hpc'
          have d1 : ¬ (3 : Int) < ((ents L).length : Int) := by omega
          have d2 : ((ents L).length : Int) ≤ 3 := by omega
          have d3 : ¬ 3 < (ents L).length := by omega
          have d4 : (ents L).length ≤ 3 := by omega
          refine hgo true hpc' ?_
          rw [s_fn fn_undertowref13_Buffer_Put]
          simp [ir_undertowref13_Buffer_Put, go_sem, hM, hZ, ew, hp, g1, hpl, hui, hu.is, hE, hcl, hlp, a1, hpH', hpl', g2, hlen, d1, d2, d3, d4, litParts, unV, loadAt, V.cells, V.exp, evStore, splice]
        · rw [decide_eq_false (by omega)] at hpc'
          have d1 : (3 : Int) < ((ents L).length : Int) := by omega
          have d2 : ¬ ((ents L).length : Int) ≤ 3 := by omega
          have d3 : 3 < (ents L).length := by omega
          have d4 : ¬ (ents L).length ≤ 3 := by omega
          rw [hpc', if_neg (by simp)]
          refine ⟨H, F, ?_, h, Nat.le_refl _, fun _ _ _ => rfl, fun q hq => .inl hq⟩
          rw [s_fn fn_undertowref13_Buffer_Put]
          simp [ir_undertowref13_Buffer_Put, go_sem, hM, hZ, ew, hp, g1, hpl, hui, hu.is, hE, hcl, hlp, hlen, d1, d2, d3, d4, unV, loadAt, V.cells, V.exp, evStore, splice]
omit hI in
theorem BarD_loop {lv : V} {u : V} (hp : H[p]? = some (.arr [[lv, .int .i64 ep]])) (hlv : ∃ o, Rs H lv o L ∧ o ≠ some p) (hep : 0 ≤ ep ∧ ep ≤ 1000) (hL : L.length ≤ 1000) (i : Nat) (hi : i ≤ L.length) :
    evCI pg (.loop ir_undertowref13_Buffer_Barrierl0) ⟨[.ptr p 0 0, .int .i64 (i : Int), .undef, .undef], ⟨[], [], H⟩⟩ =
      some (if (L.drop i).any (fun x => decide (x.2 = ep)) = true then (.ret, ⟨[.undef, .undef, .undef, .undef], ⟨[], [], H.set p (.arr [[lv, .int .i64 (ep + 1)]])⟩⟩)
        else (.exit 0, ⟨[.ptr p 0 0, .int .i64 (L.length : Int), .bool false, .undef], ⟨[], [], H⟩⟩)) := by
  obtain ⟨B, hB⟩ : ∃ B, B = C.loop ir_undertowref13_Buffer_Barrierl0 := ⟨_, rfl⟩
  have hpl := get_lt hp
  have g1 := get_el hp hpl
  obtain ⟨o, hr, ho⟩ := hlv
  have hlen := hr.len
  by_cases c : i < L.length
  · have ih := BarD_loop (u := u) hp ⟨o, hr, ho⟩ hep hL (i + 1) (by omega)
    have e3 := succ_i64 c (by omega)
    have ew : IntKind.i64.wrap (ep + 1) = ep + 1 := wrap_i64 (by omega) (by omega)
    rw [List.drop_eq_getElem_cons c, List.any_cons]
    rw [← hB] at ih
    rw [← hB, s_loop_at hB]
    cases hr with
    | nil => simp at c
    | one id l hne hH =>
      have hidl := get_lt hH
      have g2 := get_el hH hidl
      have hsl := seR_len L
      have hel : (seR L)[i]? = some (seV L[i]) := by rw [List.getElem?_eq_getElem (by omega), seR_el]
      have hel' : (seR L)[i]'(by omega) = seV L[i] := seR_el _ _ _
      have hlt : i < (seR L).length := by omega
      generalize L[i] = x at *
      simp only [seV] at hel hel'
      by_cases q : x.2 = ep
      · rw [decide_eq_true q, Bool.true_or, if_pos rfl]
        simp [ir_undertowref13_Buffer_Barrierl0, go_sem, hp, hpl, g1, hH, hidl, g2, hel, hel', hlt, c, q, ew, loadAt, evStore, splice, V.cells, V.exp]
      · rw [decide_eq_false q, Bool.false_or, ← ih]
        simp [ir_undertowref13_Buffer_Barrierl0, go_sem, hp, hpl, g1, hH, hidl, g2, hel, hel', hlt, c, q, e3, loadAt, evStore, splice, V.cells, V.exp, -Int.natCast_add]
  · obtain rfl : i = L.length := by omega
    rw [← hB, s_loop_at hB, List.drop_length]
    cases hr with
    | nil => simp [ir_undertowref13_Buffer_Barrierl0, go_sem, hp, hpl, g1, hlen]
    | one id l hne hH => simp [ir_undertowref13_Buffer_Barrierl0, go_sem, hp, hpl, g1, hlen]
termination_by L.length - i
/-- The epoch after a barrier. -/
def bar13 (L : List SE) (ep : Int) : Int := if L.any (fun x => decide (x.2 = ep)) = true then ep + 1 else ep
theorem Dv.bar : ∃ H', evI pg .heap n_undertowref13_Buffer_Barrier [.ptr p 0 0] H = some (.tup [], H') ∧ Dv H' p L (bar13 L ep) F ∧ H.length = H'.length ∧ (∀ q, q < H.length → q ≠ p → H'[q]? = H[q]?) := by
  obtain ⟨lv, o, hp, hr, ho, hF⟩ := h
  have hL := hI.len
  have he := hI.ep0
  have hl := BarD_loop (F := F) ⟨lv, o, hp, hr, ho, hF⟩ (u := .undef) hp ⟨o, hr, ho⟩ (by omega) (by omega) 0 (by omega)
  have hpl := get_lt hp
  rw [List.drop_zero, Int.natCast_zero] at hl
  unfold bar13
  by_cases c : L.any (fun x => decide (x.2 = ep)) = true
  · rw [if_pos c] at hl ⊢
    refine ⟨_, ?_, ⟨lv, o, by rw [List.getElem?_set_self hpl], hr.frame fun q hq => ?_, ho, hF⟩, by simp, fun q hq hne => by rw [List.getElem?_set_ne (Ne.symm hne)]⟩
    · rw [s_fn fn_undertowref13_Buffer_Barrier]
      simp [ir_undertowref13_Buffer_Barrier, go_sem, hl]
    · rw [List.getElem?_set_ne (fun e => ho (by rw [e, hq]))]
  · rw [if_neg c] at hl ⊢
    refine ⟨H, ?_, ⟨lv, o, hp, hr, ho, hF⟩, rfl, fun q hq hne => rfl⟩
    rw [s_fn fn_undertowref13_Buffer_Barrier]
    simp [ir_undertowref13_Buffer_Barrier, go_sem, hl]
end
end Go.Proofs.Ytaedicechhbhdaa
