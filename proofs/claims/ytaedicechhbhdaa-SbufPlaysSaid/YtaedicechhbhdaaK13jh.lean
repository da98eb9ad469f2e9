/- Layer 13: the document's buffer: an entry that goes (no claim; lemmas). -/
import Derived.Test.YtaedicechhbhdaaK13jg
set_option linter.unusedSimpArgs false
set_option linter.unusedVariables false
namespace Go.Proofs.Ytaedicechhbhdaa
open Go Go.Vm

theorem DrainD_l0 (l : List Int) (hl : l.length ≤ 1000) (p : Nat) (H : List Vm.Obj) (x : Int) (i : Nat) (hi : i ≤ l.length) (b : Bool) :
    evCI pg (.loop ir_undertowref13_Buffer_Drainl0) ⟨[.ptr p 0 0, .int .i64 x, .undef, ils (iI l), .bool b, .int .i64 (i : Int), .undef, .undef, .undef, .undef, .undef, .undef, .undef, .undef], ⟨[[]], [], H⟩⟩ =
      some (.exit 0, ⟨[.ptr p 0 0, .int .i64 x, .undef, ils (iI l), .bool (b || (l.drop i).contains x), .int .i64 (l.length : Int), .undef, .undef, .undef, .undef, .bool false, .undef, .undef, .undef], ⟨[[]], [], H⟩⟩) := by
  obtain ⟨B, hB⟩ : ∃ B, B = C.loop ir_undertowref13_Buffer_Drainl0 := ⟨_, rfl⟩
  have hv := Sl.ils (iI l)
  by_cases h : i < l.length
  · have e1 := fun m => hv.ia (sz := 1) m .i64 (i := i) (by rw [iI_len]; exact h) (by simp [iI])
    simp only [iI_el] at e1
    have e3 := succ_i64 h (by omega)
    have ih := DrainD_l0 l hl p H x (i + 1) (by omega) (b || decide (l[i] = x))
    have hd : (b || (l.drop i).contains x) = (b || decide (l[i] = x) || (l.drop (i + 1)).contains x) := by
      rw [List.drop_eq_getElem_cons h, List.contains_cons, Bool.or_assoc]
      congr 2
      by_cases c : l[i] = x
      · simp [c]
      · have c0 : ¬ x = l[i] := fun h => c h.symm
        simp [c, c0]
    rw [hd, ← ih, ← hB]
    conv => lhs; rw [s_loop_at hB]
    clear hd ih
    cases b with
    | true => simp [ir_undertowref13_Buffer_Drainl0, go_sem, hv.is, hv.rows, iI_len, h, e1, e3, loadAt, -Int.natCast_add]
    | false => simp [ir_undertowref13_Buffer_Drainl0, go_sem, hv.is, hv.rows, iI_len, h, e1, e3, loadAt, -Int.natCast_add]
  · obtain rfl : i = l.length := by omega
    rw [← hB, s_loop_at hB, List.drop_length]
    simp [ir_undertowref13_Buffer_Drainl0, go_sem, hv.is, hv.rows, iI_len]
termination_by l.length - i
theorem DrainD_l1 {p N : Nat} {L : List SE} {ep : Int} {lv : V} {o : Option Nat} (hL : L.length ≤ 1000) (hpN : p < N) (hoN : ∀ j, o = some j → j < N) (f : SE) (hf : adr f) (hadr : ∀ x ∈ L, adr x) {H : List Vm.Obj}
    (hp : H[p]? = some (.arr [[lv, .int .i64 ep]])) (hr : Rs H lv o L) (hN : N ≤ H.length) {ov fv : V} {fo : Option Nat} {O : List Wr} {M : List SE} (hO : Lg H ov (wsV O)) (hM : Rs H fv fo M) (hj : ∀ j, vid ov = some j → N ≤ j) (hk : ∀ j, fo = some j → N ≤ j ∧ vid ov ≠ some j) (i : Nat) (hi : i ≤ L.length) (hol : O.length ≤ i) (hml : M.length ≤ i) :
    ∃ H' ov' fv' fo', evCI pg (.loop ir_undertowref13_Buffer_Drainl1) ⟨[.ptr p 0 0, .undef, .undef, .undef, .undef, .undef, .lp 0 0, ov, fv, .int .i64 (i : Int), .undef, .undef, .undef, .undef], ⟨[seV f], [], H⟩⟩ =
      some (.exit 2, ⟨[.ptr p 0 0, .undef, .undef, .undef, .undef, .undef, .lp 0 0, ov', fv', .int .i64 (L.length : Int), .undef, .undef, .bool false, .undef], ⟨[seV f], [], H'⟩⟩) ∧
      Lg H' ov' (wsV (O ++ ((L.drop i).filter fun x => decide (key x = key f)).map Prod.fst)) ∧ Rs H' fv' fo' (M ++ (L.drop i).filter fun x => decide (key x ≠ key f)) ∧ (∀ j, vid ov' = some j → N ≤ j) ∧ (∀ j, fo' = some j → N ≤ j ∧ vid ov' ≠ some j) ∧ N ≤ H'.length ∧ (∀ q, q < N → H'[q]? = H[q]?) := by
  obtain ⟨B, hB⟩ : ∃ B, B = C.loop ir_undertowref13_Buffer_Drainl1 := ⟨_, rfl⟩
  have hpl := get_lt hp
  have g1 := get_el hp hpl
  by_cases c : i < L.length
  · have e3 := succ_i64 c (by omega)
    have hto := together_ok f L[i] hf (hadr _ (List.getElem_mem c))
    obtain ⟨id, rfl, rfl, hH⟩ : ∃ id, lv = .rsl id 0 L.length ∧ o = some id ∧ H[id]? = some (.arr (seR L)) := by
      cases hr with
      | nil => simp at c
      | one id l hne hH => exact ⟨id, rfl, rfl, hH⟩
    have hidl := get_lt hH
    have g2 := get_el hH hidl
    have hidN := hoN id rfl
    have hsl := seR_len L
    have hel : (seR L)[i]? = some (seV L[i]) := by rw [List.getElem?_eq_getElem (by omega), seR_el]
    have hel' : (seR L)[i]'(by omega) = seV L[i] := seR_el _ _ _
    have hlt : i < (seR L).length := by omega
    have hdr : L.drop i = L[i] :: L.drop (i + 1) := List.drop_eq_getElem_cons c
    by_cases q : key f = key L[i]
    · rw [decide_eq_true q] at hto
      obtain ⟨j, H1, a1, a2, a3, a4, a5⟩ := hO.push (by omega) L[i].1 [seV f] []
      have hjN : N ≤ j := by
        rcases a5 with a5 | ⟨_, a5⟩
        · exact hj j a5
        · omega
      have hfj : fo ≠ some j := by
        intro e
        rcases a5 with a5 | ⟨_, a5⟩
        · exact (hk j e).2 a5
        · have := hM.lt e; omega
      obtain ⟨H', ov', fv', fo', r1, r2, r3, r4, r5, r6, r7⟩ := DrainD_l1 hL hpN hoN f hf hadr (H := H1) (by rw [a4 p hpl (by omega)]; exact hp) (hr.frame fun q hq => by cases hq; rw [a4 id hidl (by omega)]) (by omega) a2 (hM.frame fun q hq => by rw [a4 q (hM.lt hq) (fun e => hfj (by rw [← e]; exact hq))]) (fun q hq => by cases hq; exact hjN) (fun q hq => ⟨(hk q hq).1, fun e => by cases e; exact hfj hq⟩) (i + 1) (by omega) (by simp; omega) (by omega)
      refine ⟨H', ov', fv', fo', ?_, ?_, ?_, r4, r5, r6, fun q hq => by rw [r7 q hq, a4 q (by omega) (by omega)]⟩
      · rw [← r1, ← hB]
        conv => lhs; rw [s_loop_at hB]
        clear r1 hdr
        generalize L[i] = x at *
        simp only [seV] at hel hel' hto a1
        have hw : wrV x.1 = [.int .i64 x.1.id, .int .i64 x.1.addr, .int .i64 x.1.size, .int .u64 (x.1.data : Int)] := rfl
        rw [hw] at a1
        simp [ir_undertowref13_Buffer_Drainl1, go_sem, hp, hpl, g1, hH, hidl, g2, hel, hel', hlt, c, e3, hto, a1, litParts, loadAt, V.cells, V.exp, seV, hM.slot, -Int.natCast_add]
      · rw [hdr, List.filter_cons, if_pos (by rw [decide_eq_true_eq]; exact q.symm)]
        rw [List.append_assoc] at r2
        exact r2
      · rw [hdr, List.filter_cons, if_neg (by rw [decide_eq_true_eq]; exact fun e => e q.symm)]
        exact r3
    · rw [decide_eq_false q] at hto
      obtain ⟨H1, a1, a2, a3, a4⟩ := hM.app (by omega) L[i]
      have a1 := a1 [seV f] []
      have hnf : ∀ q, q < N → fo ≠ some q := fun q hq e => by have := (hk q e).1; omega
      obtain ⟨H', ov', fv', fo', r1, r2, r3, r4, r5, r6, r7⟩ := DrainD_l1 hL hpN hoN f hf hadr (H := H1) (by rw [a4 p hpl (hnf p hpN)]; exact hp) (hr.frame fun q hq => by cases hq; rw [a4 id hidl (hnf id hidN)]) (by omega) (hO.frame fun q hq => by
        obtain ⟨n, hn⟩ := hO.vtok hq
        rw [a4 q (get_lt hn) (fun e => (hk q e).2 hq)]) a2 hj (fun q hq => by
          cases hq
          refine ⟨hN, fun e => ?_⟩
          obtain ⟨n, hn⟩ := hO.vtok e
          have := get_lt hn
          omega) (i + 1) (by omega) (by omega) (by simp; omega)
      refine ⟨H', ov', fv', fo', ?_, ?_, ?_, r4, r5, r6, fun q hq => by rw [r7 q hq, a4 q (by omega) (hnf q hq)]⟩
      · rw [← r1, ← hB]
        conv => lhs; rw [s_loop_at hB]
        clear r1 hdr
        generalize L[i] = x at *
        simp only [seV] at hel hel' hto a1
        simp [ir_undertowref13_Buffer_Drainl1, go_sem, hp, hpl, g1, hH, hidl, g2, hel, hel', hlt, c, e3, hto, a1, litParts, loadAt, V.cells, V.exp, seV, hM.slot, -Int.natCast_add]
      · rw [hdr, List.filter_cons, if_neg (by rw [decide_eq_true_eq]; exact fun e => q e.symm)]
        exact r2
      · rw [hdr, List.filter_cons, if_pos (by rw [decide_eq_true_eq]; exact fun e => q e.symm)]
        rw [List.append_assoc] at r3
        exact r3
  · obtain rfl : i = L.length := by omega
    rw [← hB, s_loop_at hB, List.drop_length]
    refine ⟨H, ov, fv, fo, ?_, by simpa using hO, by simpa using hM, hj, hk, hN, fun _ _ => rfl⟩
    have hlen := hr.len
    simp [ir_undertowref13_Buffer_Drainl1, go_sem, hp, hpl, g1, hlen]
termination_by L.length - i
section
variable {H : List Vm.Obj} {p : Nat} {L : List SE} {ep : Int} {F : Nat → Prop} (h : Dv H p L ep F) (hI : Iv L ep)
include h hI
theorem Dv.drainno (k : Int) (hk : (rdy (lea ep (grp L)) (grp L) 0).contains k = false) : evI pg .heap n_undertowref13_Buffer_Drain [.ptr p 0 0, .int .i64 k] H = some (.nils, H) := by
  obtain ⟨lv, o, hp, hr, ho, hF⟩ := h
  obtain ⟨u, hu, hui⟩ := hr.imm
  have hpl := get_lt hp
  have g1 := get_el hp hpl
  have hR := ReadyD_ok (t := true) hu hI
  have hcl := ilsI_clean (rdy (lea ep (grp L)) (grp L) 0)
  have h4 := hI.n4
  have hl := DrainD_l0 (rdy (lea ep (grp L)) (grp L) 0) (by have := rdy_len (lea ep (grp L)) (grp L) 0; omega) p H k 0 (by omega) false
  rw [List.drop_zero, Bool.false_or, hk, Int.natCast_zero] at hl
  rw [s_fn fn_undertowref13_Buffer_Drain]
  simp [ir_undertowref13_Buffer_Drain, go_sem, hp, hpl, g1, hui, hu.is, hR, hcl, hl, unV]
theorem Dv.drain (k : Nat) (hk : k < (grp L).length) (hle : ((grp L)[k]).ep = lea ep (grp L)) :
    ∃ H' F' r, evI pg .heap n_undertowref13_Buffer_Drain [.ptr p 0 0, .int .i64 (k : Int)] H = some (r, H') ∧ Dv H' p (L.filter fun x => decide (key x ≠ ek (grp L)[k])) ep F' ∧ Lg H' r (wsV ((L.filter fun x => decide (key x = ek (grp L)[k])).map Prod.fst)) ∧
      (∀ j, vid r = some j → H.length ≤ j ∧ ¬ F' j) ∧ H.length ≤ H'.length ∧ (∀ q, q < H.length → ¬ F q → H'[q]? = H[q]?) ∧ (∀ q, F' q → F q ∨ H.length ≤ q) := by
  obtain ⟨lv, o, hp, hr, ho, hF⟩ := h
  obtain ⟨u, hu, hui⟩ := hr.imm
  have hpl := get_lt hp
  have g1 := get_el hp hpl
  have hR := ReadyD_ok (t := true) hu hI
  have hcl := ilsI_clean (rdy (lea ep (grp L)) (grp L) 0)
  have h4 := hI.n4
  have hL := hI.len
  have hl := DrainD_l0 (rdy (lea ep (grp L)) (grp L) 0) (by have := rdy_len (lea ep (grp L)) (grp L) 0; omega) p H (k : Int) 0 (by omega) false
  have hc : (rdy (lea ep (grp L)) (grp L) 0).contains (k : Int) = true := (rdy_contains _ _ _ _).2 ⟨k, hk, by simp, hle⟩
  rw [List.drop_zero, Bool.false_or, hc, Int.natCast_zero] at hl
  have hE := EntriesD_eq (t := true) (ep := ep) hu hI.adr (by omega)
  have hcl2 := clean_ils (gR_clean (ents L))
  have hkE : k < (ents L).length := by rw [ents_len]; exact hk
  obtain ⟨b1, b2, b3⟩ := gR_facts (Sl.ils (gR (ents L))) (ents_ne L) hkE
  have hkey : ek (grp L)[k] = key (hdG (ents L)[k]) := by
    have : (grp L)[k] = toE (ents L)[k] := by simp only [← ents_toE, List.getElem_map]
    rw [this, ek_toE]
  have hmem := List.getElem_mem hkE
  have hfa : adr (hdG (ents L)[k]) := hI.adr _ (ents_sub L _ hmem _ (hd_mem (ents_ne L _ hmem)))
  obtain ⟨H', ov', fv', fo', r1, r2, r3, r4, r5, r6, r7⟩ := DrainD_l1 (N := H.length) (by omega) hpl (fun j hj => hr.lt hj) (hdG (ents L)[k]) hfa hI.adr hp hr (Nat.le_refl _) (O := []) (M := []) (ov := .nils) (fv := .nils) (fo := none) .nils .nil (by simp [vid]) (by simp) 0 (by omega) (by simp) (by simp)
  rw [hkey]
  rw [List.drop_zero, List.nil_append] at r2 r3
  rw [Int.natCast_zero] at r1
  have hp' : H'[p]? = some (.arr [[lv, .int .i64 ep]]) := by rw [r7 p hpl]; exact hp
  have hpl' := get_lt hp'
  have g1' := get_el hp' hpl'
  have hfp : fo' ≠ some p := fun e => by have := (r5 p e).1; omega
  refine ⟨H'.set p (.arr [[fv', .int .i64 ep]]), (fun q => q = p ∨ fo' = some q), ov', ?_, ⟨fv', fo', by rw [List.getElem?_set_self hpl'], r3.frame fun q hq => by rw [List.getElem?_set_ne (fun e => hfp (by rw [e]; exact hq))], hfp, fun q => Iff.rfl⟩, r2.frame fun q hq => by rw [List.getElem?_set_ne (fun e => by have := r4 q hq; omega)], fun j hj => ⟨r4 j hj, fun e => ?_⟩, by simpa using r6, fun q hq hn => ?_, fun q hq => ?_⟩
  · have hxx := hu.is
    generalize (ents L)[k] = g at *
    have b3' : (seR g)[0] = seV (hdG g) := by
      rw [List.getElem?_eq_getElem b2] at b3; exact Option.some.inj b3
    generalize seR g = sg at *
    generalize hdG g = f at *
    have hff := r3.flat
    have hsl := r3.slot
    simp only [seV] at b3 b3' r1
    have hsh : fv' = .nils ∨ ∃ id n, fv' = .rsl id 0 n := by
      generalize (L.filter fun x => decide (key x ≠ key f)) = M at r3
      cases r3 with
      | nil => exact .inl rfl
      | one id l _ _ => exact .inr ⟨id, _, rfl⟩
    have hos : ov' = .nils ∨ ∃ j es, ov' = .osl true j es := by
      generalize wsV ((L.filter fun x => decide (key x = key f)).map Prod.fst) = es at r2
      cases r2 with
      | nils => exact .inl rfl
      | tok j es _ _ => exact .inr ⟨j, es, rfl⟩
    clear r2 r3 r4 r5 r7
    rw [s_fn fn_undertowref13_Buffer_Drain]
    rcases hsh with rfl | ⟨id, n, rfl⟩ <;> rcases hos with rfl | ⟨j, es, rfl⟩ <;> simp [ir_undertowref13_Buffer_Drain, go_sem, hp, hpl, g1, hui, hu.is, hR, hcl, hl, hE, hcl2, b1, b2, b3, b3', r1, hp', hpl', g1', hff, hsl, unV, loadAt, evStore, splice, V.cells, V.exp]
  · rcases e with rfl | e
    · have := r4 _ hj; omega
    · exact (r5 j e).2 hj
  · have n1 : q ≠ p := fun e => hn ((hF q).2 (.inl e))
    rw [List.getElem?_set_ne (Ne.symm n1), r7 q hq]
  · rcases hq with rfl | hq
    · exact .inl ((hF q).2 (.inl rfl))
    · exact .inr (r5 q hq).1
end
end Go.Proofs.Ytaedicechhbhdaa
