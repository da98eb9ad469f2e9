/- Layer 13: the loop of the law on whatever is put and drained (no claim; lemmas). -/
import Derived.Test.YtaedicechhbhdaaK13ji
set_option linter.unusedSimpArgs false
set_option linter.unusedVariables false
namespace Go.Proofs.Ytaedicechhbhdaa
open Go Go.Vm

theorem any_ep (L : List SE) (ep : Int) : (grp L).any (fun e => decide (e.ep = ep)) = L.any fun x => decide (x.2 = ep) := by
  rw [Bool.eq_iff_iff, List.any_eq_true, List.any_eq_true]
  constructor
  · rintro ⟨e, he, h⟩
    obtain ⟨w, hw⟩ := List.exists_mem_of_ne_nil _ (grp_st L e he).2
    exact ⟨_, (grp_mem L he hw).1, h⟩
  · rintro ⟨x, hx, h⟩
    obtain ⟨e, he, hk⟩ := List.mem_map.1 (grp_cov L x hx)
    refine ⟨e, he, ?_⟩
    unfold ek key at hk
    simp only [Prod.mk.injEq] at hk
    rw [decide_eq_true_eq] at h ⊢
    omega
section
variable {H : List Vm.Obj} {p : Nat} {L : List SE} {ep : Int} {F : Nat → Prop} (h : Lv H p L ep F) (hi : Iv L ep)
include h hi
theorem Lv.barX (hep : ep ≤ 99) : ∃ H', evI pg .heap n_sbuf_Buffer_Barrier [.ptr p 0 0] H = some (.tup [], H') ∧ Lv H' p L (bar13 L ep) F ∧ Iv L (bar13 L ep) ∧ bar13 L ep ≤ ep + 1 ∧ H.length ≤ H'.length ∧ (∀ q, q < H.length → q ≠ p → H'[q]? = H[q]?) := by
  obtain ⟨ev, ss, x, h1, h2⟩ := h
  have he := hi.ep0
  obtain ⟨H', e1, e2, e3, e4⟩ := Barrier_ok h1 hi.ok (by omega)
  rw [any_ep] at e2
  refine ⟨H', e1, ⟨ev, ss, x, e2, h2⟩, hi.bar ?_ ?_, ?_, e3, e4⟩ <;> unfold bar13 <;> split <;> omega
end
/-- What is asked after each act. -/
theorem asked {H : List Vm.Obj} {L : List SE} {ep : Int} {F D : Nat → Prop} (hl : Lv H 0 L ep F) (hd : Dv H 1 L ep D) (hI : Iv L ep) (a n : Int) (hat : -9223372036854775808 ≤ a ∧ a ≤ 9223372036854775807) :
    ∃ ev u lv u' b id ok o, H[0]? = some (.arr [[ev, .int .i64 ep]]) ∧ (∀ vs tk d, toImm ⟨vs, tk, H⟩ true (d + 3) ev = some u) ∧ isS u = true ∧ H[1]? = some (.arr [[lv, .int .i64 ep]]) ∧ (∀ vs tk d, toImm ⟨vs, tk, H⟩ true (d + 3) lv = some u') ∧ isS u' = true ∧
      evI pg .val n_sbuf_Buffer_Find [.ip true [u, .int .i64 ep] 0, .int .i64 a] [] = some (.tup [.int .u8 b, .int .i64 id, .bool ok], []) ∧
      evI pg .val n_undertowref13_Buffer_Find [.ip true [u', .int .i64 ep] 0, .int .i64 a] [] = some (.tup [.int .u8 b, .int .i64 id, .bool ok], []) ∧
      evI pg .val n_sbuf_Buffer_Overlaps [.ip true [u, .int .i64 ep] 0, .int .i64 a, .int .i64 n] [] = some (.bool o, []) ∧
      evI pg .val n_undertowref13_Buffer_Overlaps [.ip true [u', .int .i64 ep] 0, .int .i64 a, .int .i64 n] [] = some (.bool o, []) ∧
      evI pg .val n_undertowlaw13_same [.ip true [u, .int .i64 ep] 0, .ip true [u', .int .i64 ep] 0] [] = some (.bool true, []) := by
  obtain ⟨ev, u, hp, hu, hui⟩ := hl.imm
  obtain ⟨lv, u', hq, hu', hui'⟩ := hd.imm
  have f1 := Find_ok true u (grp L) ep hu hI.ok a hat
  have f2 := FindD_ok (t := true) hu' hI a hat
  have hs := same_ok (t := true) (t' := true) hu hu' hI
  have hsh : ∃ b id ok, fndV (fndF a (zW, -1) (grp L)) a = .tup [.int .u8 b, .int .i64 id, .bool ok] := by
    unfold fndV
    split
    · exact ⟨_, _, _, rfl⟩
    · exact ⟨_, _, _, rfl⟩
  obtain ⟨b, id, ok, hsh⟩ := hsh
  rw [hsh] at f1 f2
  exact ⟨ev, u, lv, u', b, id, ok, over13 (grp L) a n, hp, hui, hu.is, hq, hui', hu'.is, f1, f2, Overlaps_ok true u (grp L) ep hu hI.ok a n, OverD_ok hu' hI a n, hs⟩
theorem Lv.root {H : List Vm.Obj} {p : Nat} {L : List SE} {ep : Int} {F : Nat → Prop} (h : Lv H p L ep F) : F p := by
  obtain ⟨ev, ss, x, y1, y2⟩ := h
  exact (y2 p).2 (.inl rfl)
theorem Dv.root {H : List Vm.Obj} {p : Nat} {L : List SE} {ep : Int} {F : Nat → Prop} (h : Dv H p L ep F) : F p := by
  obtain ⟨ev, o, h1, h2, h3, h4⟩ := h
  exact (h4 p).2 (.inl rfl)
section
variable (v : V) (acts : List Ac) (hv : Sl v (acR acts)) (hok : okA acts)
include hv hok
set_option maxHeartbeats 1000000 in
theorem Plays_loop (i : Nat) (hi : i ≤ min acts.length 60) (H : List Vm.Obj) (L : List SE) (ep : Int) (F D : Nat → Prop) (hl : Lv H 0 L ep F) (hd : Dv H 1 L ep D) (hI : Iv L ep) (hep : ep ≤ i) (hFD : ∀ q, F q → ¬ D q) :
    ∃ H' L' ep' F' D' c, evCI pg (.loop ir_undertowlaw13_SbufPlaysl0) ⟨[v, .undef, .ptr 0 0 0, .ptr 1 0 0, .int .i64 (i : Int), .undef, .undef, .undef, .undef, .undef, .undef, .undef, .undef, .undef, .undef, .undef, .undef, .undef, .undef, .undef, .undef, .undef, .undef], ⟨[[]], [], H⟩⟩ =
      some (.exit 0, ⟨[v, .undef, .ptr 0 0 0, .ptr 1 0 0, .int .i64 c, .undef, .undef, .undef, .undef, .undef, .undef, .undef, .undef, .undef, .undef, .bool false, .undef, .undef, .undef, .undef, .undef, .undef, .undef], ⟨[[]], [], H'⟩⟩) ∧ Lv H' 0 L' ep' F' ∧ Dv H' 1 L' ep' D' ∧ Iv L' ep' := by
  obtain ⟨B, hB⟩ : ∃ B, B = C.loop ir_undertowlaw13_SbufPlaysl0 := ⟨_, rfl⟩
  by_cases h : i < min acts.length 60
  · have ha : i < acts.length := by omega
    have h60 : (i : Int) < 60 := by omega
    have e1 := fun m => acg hv ha m
    have e3 := succ_i64 (n := 60) (i := i) (by omega) (by omega)
    have hdt := (hok acts[i] (List.getElem_mem _)).1
    have hadr := (hok acts[i] (List.getElem_mem _)).2
    have hav : acV acts[i] = .int .i64 acts[i].kind :: wrV acts[i].w := rfl
    have hwv : wrV acts[i].w = [.int .i64 acts[i].w.id, .int .i64 acts[i].w.addr, .int .i64 acts[i].w.size, .int .u64 (acts[i].w.data : Int)] := rfl
    rw [hav, hwv] at e1
    generalize acts[i] = A at *
    by_cases ck0 : A.kind = 0
    · obtain ⟨ev0, u0, hp0, hu0, hui0⟩ := hl.imm
      have hpl0 := get_lt hp0
      have hFits := Fits_ok true u0 (grp L) ep hu0 hI.ok A.w
      have hu0i := hu0.is
      have g0 := get_el hp0 hpl0
      rw [hwv] at hFits
      cases hf : fits13 (grp L) ep A.w with
      | false =>
        have p1 := hl.putno hI A.w hf
        obtain ⟨H2, D2, p2, p3, p4, p5, p6⟩ := hd.put hI A.w hdt hadr
        rw [hf] at p2 hFits
        rw [hf, if_neg (by simp)] at p3
        rw [hwv] at p1 p2
        have hl2 : Lv H2 0 L ep F := hl.frame fun q hq => p5 q (hl.lt hq) (hFD q hq)
        have hFD2 : ∀ q, F q → ¬ D2 q := fun q hq hc => by
          rcases p6 q hc with hc | hc
          · exact hFD q hq hc
          · have := hl.lt hq; omega
        obtain ⟨ev, u, lv, u', b, id, ok, o, q1, q2, q3, q4, q5, q6, q7, q8, q9, q10, q11⟩ := asked hl2 p3 hI A.w.addr A.w.size hadr
        have ql1 := get_lt q1
        have ql2 := get_lt q4
        obtain ⟨H', L', ep', F', D', c, ih, r1, r2, r3⟩ := Plays_loop (i + 1) (by omega) H2 L ep F D2 hl2 p3 hI (by omega) hFD2
        refine ⟨H', L', ep', F', D', c, ?_, r1, r2, r3⟩
        rw [← hB] at ih
        rw [← hB, s_loop_at hB, ← ih]
        simp [ir_undertowlaw13_SbufPlaysl0, go_sem, hv.is, hv.rows, acR_len, ha, h60, e1, e3, ck0, hp0, hpl0, hui0, hu0i, g0, hFits, p1, p2, q1, q2, q3, q4, q5, q6, q7, q8, q9, q10, q11, ql1, ql2, get_el q1 ql1, get_el q4 ql2, unV, loadAt, V.cells, V.exp, evStore, splice, -Int.natCast_add]
      | true =>
        obtain ⟨H1, F1, p1, b2, b3, b4, b5, b6⟩ := hl.put hI A.w hdt hf
        have hd1 : Dv H1 1 L ep D := hd.frame fun q hq => b5 q (hd.lt hq) (fun hc => hFD q hc hq)
        have hFD1 : ∀ q, F1 q → ¬ D q := fun q hq hc => by
          rcases b6 q hq with hq | hq
          · exact hFD q hq hc
          · have := hd.lt hc; omega
        obtain ⟨H2, D2, p2, p3, p4, p5, p6⟩ := hd1.put hI A.w hdt hadr
        rw [hf] at p2 hFits
        rw [hf, if_pos rfl] at p3
        rw [hwv] at p1 p2
        have hl2 : Lv H2 0 (L ++ [(zw A.w, ep)]) ep F1 := b2.frame fun q hq => p5 q (b2.lt hq) (hFD1 q hq)
        have hFD2 : ∀ q, F1 q → ¬ D2 q := fun q hq hc => by
          rcases p6 q hc with hc | hc
          · exact hFD1 q hq hc
          · have := b2.lt hq; omega
        obtain ⟨ev, u, lv, u', b, id, ok, o, q1, q2, q3, q4, q5, q6, q7, q8, q9, q10, q11⟩ := asked hl2 p3 b3 A.w.addr A.w.size hadr
        have ql1 := get_lt q1
        have ql2 := get_lt q4
        obtain ⟨H', L', ep', F', D', c, ih, r1, r2, r3⟩ := Plays_loop (i + 1) (by omega) H2 (L ++ [(zw A.w, ep)]) ep F1 D2 hl2 p3 b3 (by omega) hFD2
        refine ⟨H', L', ep', F', D', c, ?_, r1, r2, r3⟩
        rw [← hB] at ih
        rw [← hB, s_loop_at hB, ← ih]
        simp [ir_undertowlaw13_SbufPlaysl0, go_sem, hv.is, hv.rows, acR_len, ha, h60, e1, e3, ck0, hp0, hpl0, hui0, hu0i, g0, hFits, p1, p2, q1, q2, q3, q4, q5, q6, q7, q8, q9, q10, q11, ql1, ql2, get_el q1 ql1, get_el q4 ql2, unV, loadAt, V.cells, V.exp, evStore, splice, -Int.natCast_add]
    · by_cases ck1 : A.kind = 1
      · obtain ⟨H1, p1, b2, b3, b4, b5, b6⟩ := hl.barX hI (by omega)
        have hd1 : Dv H1 1 L ep D := hd.frame fun q hq => b6 q (hd.lt hq) (fun e => hFD q (e ▸ hl.root) hq)
        obtain ⟨H2, p2, p3, p4, p5⟩ := hd1.bar hI
        have hl2 : Lv H2 0 L (bar13 L ep) F := b2.frame fun q hq => p5 q (b2.lt hq) (fun e => hFD q hq (e ▸ hd.root))
        obtain ⟨ev, u, lv, u', b, id, ok, o, q1, q2, q3, q4, q5, q6, q7, q8, q9, q10, q11⟩ := asked hl2 p3 b3 A.w.addr A.w.size hadr
        have ql1 := get_lt q1
        have ql2 := get_lt q4
        obtain ⟨H', L', ep', F', D', c, ih, r1, r2, r3⟩ := Plays_loop (i + 1) (by omega) H2 L (bar13 L ep) F D hl2 p3 b3 (by omega) hFD
        refine ⟨H', L', ep', F', D', c, ?_, r1, r2, r3⟩
        rw [← hB] at ih
        rw [← hB, s_loop_at hB, ← ih]
        simp [ir_undertowlaw13_SbufPlaysl0, go_sem, hv.is, hv.rows, acR_len, ha, h60, e1, e3, ck1, p1, p2, q1, q2, q3, q4, q5, q6, q7, q8, q9, q10, q11, ql1, ql2, get_el q1 ql1, get_el q4 ql2, unV, loadAt, V.cells, V.exp, evStore, splice, -Int.natCast_add]
      · by_cases ck2 : A.kind = 2
        · cases hcn : (rdy (lea ep (grp L)) (grp L) 0).contains A.w.addr with
          | false =>
            have p1 := hl.drainno hI _ hcn
            have p2 := hd.drainno hI _ hcn
            have hS := SameWrites_ok .nils .nils [] [] .nils .nils (by simp)
            rw [decide_eq_true rfl] at hS
            obtain ⟨ev, u, lv, u', b, id, ok, o, q1, q2, q3, q4, q5, q6, q7, q8, q9, q10, q11⟩ := asked hl hd hI A.w.addr A.w.size hadr
            have ql1 := get_lt q1
            have ql2 := get_lt q4
            obtain ⟨H', L', ep', F', D', c, ih, r1, r2, r3⟩ := Plays_loop (i + 1) (by omega) H L ep F D hl hd hI (by omega) hFD
            refine ⟨H', L', ep', F', D', c, ?_, r1, r2, r3⟩
            rw [← hB] at ih
            rw [← hB, s_loop_at hB, ← ih]
            simp [ir_undertowlaw13_SbufPlaysl0, go_sem, hv.is, hv.rows, acR_len, ha, h60, e1, e3, ck2, p1, p2, hS, q1, q2, q3, q4, q5, q6, q7, q8, q9, q10, q11, ql1, ql2, get_el q1 ql1, get_el q4 ql2, unV, loadAt, V.cells, V.exp, evStore, splice, -Int.natCast_add]
          | true =>
            obtain ⟨kk, hkk, hke, hkl⟩ := (rdy_contains _ _ _ _).1 hcn
            rw [Nat.zero_add] at hke
            obtain ⟨H1, F1, o1, κ, p1, d2, d3, d4, d5, d6, d7, d8, d9, d10, d11, d12, d13⟩ := hl.drain hI kk hkk hkl
            have hd1 : Dv H1 1 L ep D := hd.frame fun q hq => d12 q (hd.lt hq) (fun hc => hFD q hc hq)
            obtain ⟨H2, D2, o2, p2, f2, f3, f4, f5, f6, f7⟩ := hd1.drain hI kk hkk hkl
            rw [← d4] at f2 f3
            have hl2 : Lv H2 0 (L.filter fun x => decide (key x ≠ κ)) ep F1 := d2.frame fun q hq => f6 q (d2.lt hq) (fun hc => hFD q (d13 q hq) hc)
            have hFD2 : ∀ q, F1 q → ¬ D2 q := fun q hq hc => by
              rcases f7 q hc with hc | hc
              · exact hFD q (d13 q hq) hc
              · have := d2.lt hq; omega
            rw [← hke] at p1 p2
            have hS := SameWrites_ok (ils (wsV ((L.filter fun x => decide (key x = κ)).map Prod.fst))) (ils (wsV ((L.filter fun x => decide (key x = κ)).map Prod.fst))) _ _ (.ils _) (.ils _) (by simp; omega)
            rw [decide_eq_true rfl] at hS
            have hne : wsV ((L.filter fun x => decide (key x = κ)).map Prod.fst) ≠ [] := fun e => d7 (by
              have := congrArg List.length e
              rw [wsV_len, List.length_map] at this
              exact List.length_eq_zero_iff.1 this)
            have s1 : ∃ j, o1 = .osl true j (wsV ((L.filter fun x => decide (key x = κ)).map Prod.fst)) := by
              generalize wsV ((L.filter fun x => decide (key x = κ)).map Prod.fst) = es at d9 hne
              cases d9 with
              | nils => exact absurd rfl hne
              | tok j es _ _ => exact ⟨j, rfl⟩
            have s2 : ∃ j, o2 = .osl true j (wsV ((L.filter fun x => decide (key x = κ)).map Prod.fst)) := by
              generalize wsV ((L.filter fun x => decide (key x = κ)).map Prod.fst) = es at f3 hne
              cases f3 with
              | nils => exact absurd rfl hne
              | tok j es _ _ => exact ⟨j, rfl⟩
            obtain ⟨ev, u, lv, u', b, id, ok, o, q1, q2, q3, q4, q5, q6, q7, q8, q9, q10, q11⟩ := asked hl2 f2 d3 A.w.addr A.w.size hadr
            have ql1 := get_lt q1
            have ql2 := get_lt q4
            obtain ⟨H', L', ep', F', D', c, ih, r1, r2, r3⟩ := Plays_loop (i + 1) (by omega) H2 _ ep F1 D2 hl2 f2 d3 (by omega) hFD2
            refine ⟨H', L', ep', F', D', c, ?_, r1, r2, r3⟩
            rw [← hB] at ih
            rw [← hB, s_loop_at hB, ← ih]
            clear d2 d3 d9 f2 f3 hl2 hFD2 ih r1 r2 r3
            obtain ⟨j1, rfl⟩ := s1
            obtain ⟨j2, rfl⟩ := s2
            simp [ir_undertowlaw13_SbufPlaysl0, go_sem, hv.is, hv.rows, acR_len, ha, h60, e1, e3, ck2, p1, p2, hS, q1, q2, q3, q4, q5, q6, q7, q8, q9, q10, q11, ql1, ql2, get_el q1 ql1, get_el q4 ql2, unV, loadAt, V.cells, V.exp, evStore, splice, -Int.natCast_add]
        · obtain ⟨ev, u, lv, u', b, id, ok, o, q1, q2, q3, q4, q5, q6, q7, q8, q9, q10, q11⟩ := asked hl hd hI A.w.addr A.w.size hadr
          have ql1 := get_lt q1
          have ql2 := get_lt q4
          obtain ⟨H', L', ep', F', D', c, ih, r1, r2, r3⟩ := Plays_loop (i + 1) (by omega) H L ep F D hl hd hI (by omega) hFD
          refine ⟨H', L', ep', F', D', c, ?_, r1, r2, r3⟩
          rw [← hB] at ih
          rw [← hB, s_loop_at hB, ← ih]
          simp [ir_undertowlaw13_SbufPlaysl0, go_sem, hv.is, hv.rows, acR_len, ha, h60, e1, e3, ck0, ck1, ck2, q1, q2, q3, q4, q5, q6, q7, q8, q9, q10, q11, ql1, ql2, get_el q1 ql1, get_el q4 ql2, unV, loadAt, V.cells, V.exp, evStore, splice, -Int.natCast_add]
  · have e : i = acts.length ∨ i = 60 := by omega
    refine ⟨H, L, ep, F, D, (i : Int), ?_, hl, hd, hI⟩
    rw [← hB, s_loop_at hB]
    rcases e with e | e
    · simp [ir_undertowlaw13_SbufPlaysl0, go_sem, hv.is, hv.rows, acR_len, e]
    · subst e
      by_cases c60 : 60 < acts.length
      · have c60' : (60 : Int) < (acts.length : Int) := by omega
        simp [ir_undertowlaw13_SbufPlaysl0, go_sem, hv.is, hv.rows, acR_len, c60, c60']
      · have c60' : ¬ (60 : Int) < (acts.length : Int) := by omega
        simp [ir_undertowlaw13_SbufPlaysl0, go_sem, hv.is, hv.rows, acR_len, c60, c60']
termination_by min acts.length 60 - i
end
end Go.Proofs.Ytaedicechhbhdaa
