/- Layer 13: the loops of the law on the order in which stores go (no claim; lemmas). -/
import Derived.Test.YtaedicechhbhdaaK13u
set_option linter.unusedSimpArgs false
set_option linter.unusedVariables false
namespace Go.Proofs.Ytaedicechhbhdaa
open Go Go.Vm

theorem app_wsF {j : Nat} {m : Mem} {l l' : List Wr} {y : V} (hy : srcV m y = some (wsV l')) (ht : m.tk[j]? = some l.length) (hl : l.length + l'.length ≤ 1000) :
    appV 2 4 32 m (.osl false j (wsV l)) y = some (.osl false j (wsV (l ++ l')), { m with tk := m.tk.set j (l.length + l'.length) }) := by
  have h1 : immAll (wsV l ++ wsV l') = true := by rw [← wsV_append]; exact wsV_imm _
  have h2 : szAll 4 (wsV l ++ wsV l') = true := by rw [← wsV_append]; exact wsV_szAll _
  unfold appV
  rw [hy]
  simp only [h1, h2, wsV_len, ht, wsV_append, fits_of (b := 32) (n := l.length + l'.length) (by omega) (by omega), Bool.and_self, if_true, Bool.false_eq_true, if_false]
theorem app_iIF {j : Nat} {m : Mem} {l : List Int} {x : Int} (ht : m.tk[j]? = some l.length) (hl : l.length ≤ 1000) :
    appV 2 1 8 m (.osl false j (iI l)) (.els [[.int .i64 x]]) = some (.osl false j (iI (l ++ [x])), { m with tk := m.tk.set j (l.length + 1) }) := by
  have e : iI (l ++ [x]) = iI l ++ [[.int .i64 x]] := by simp [iI]
  have h1 : immAll (iI l ++ [[.int .i64 x]]) = true := by simp [immAll, iI, V.imm]
  have h2 : szAll 1 (iI l ++ [[.int .i64 x]]) = true := by simp [szAll, iI]
  unfold appV
  simp only [srcV, List.length_singleton, e, h1, h2, iI_len, ht, fits_of (b := 8) (n := l.length + 1) (by omega) (by omega), Bool.and_self, if_true, Bool.false_eq_true, if_false]
theorem oslw_ia (hh : Bool) (jl : Nat) (st : List Wr) (m : Mem) {j : Nat} (h : j < st.length) : iaSV 4 m (.osl hh jl (wsV st)) (.int .i64 (j : Int)) = some (.ip false (wrV st[j]) 0) := by
  rw [e_ia_osl, asIx_nat (by rw [wsV_len]; exact h)]
  have : (wsV st)[j]? = some (wrV st[j]) := by simp [wsV, h]
  simp only [this]
  rfl
theorem osli_ia (hh : Bool) (jl : Nat) (st : List Int) (m : Mem) {j : Nat} (h : j < st.length) : iaSV 1 m (.osl hh jl (iI st)) (.int .i64 (j : Int)) = some (.ip false [.int .i64 st[j]] 0) := by
  rw [e_ia_osl, asIx_nat (by rw [iI_len]; exact h)]
  have : (iI st)[j]? = some [.int .i64 st[j]] := by simp [iI, h]
  simp only [this]
  rfl
section
variable (v pv : V) (acts : List Ac) (picks : List Nat) (hv : Sl v (acR acts)) (hpv : Sl pv (byV picks)) (hok : okA acts) (hpk : ∀ b ∈ picks, b < 256)
include hv hpv hok
theorem Order_loop0 (i : Nat) (hi : i ≤ min acts.length 60) (H : List Vm.Obj) (K : List Ka) (b ep : Int) (hb : 0 ≤ b ∧ b ≤ i) (F : Nat → Prop) (hl : Lv H 0 (K.map Ka.se) ep F) (hk : IvK K i b ep) (hep : ep ≤ i) :
    ∃ H' K' b' ep' F' c c' i', evCI pg (.loop ir_undertowlaw13_SbufOrderl0) ⟨[v, pv, .undef, .ptr 0 0 0, .osl false 0 (wsV (K.map Ka.w)), .osl false 2 [], .osl false 1 (iI (K.map Ka.age)), .int .i64 b, .int .i64 (i : Int), .undef, .undef, .undef, .undef, .undef, .undef, .undef, .undef, .undef, .undef, .undef, .undef, .undef, .undef, .undef, .undef, .undef, .undef, .undef, .undef, .undef, .undef, .undef, .undef], ⟨[[]], [K.length, K.length, 0], H⟩⟩ =
      some (.exit 0, ⟨[v, pv, .undef, .ptr 0 0 0, .osl false 0 (wsV (K'.map Ka.w)), .osl false 2 [], .osl false 1 (iI (K'.map Ka.age)), .int .i64 c, .int .i64 c', .undef, .undef, .undef, .undef, .undef, .undef, .undef, .undef, .undef, .undef, .bool false, .undef, .undef, .undef, .undef, .undef, .undef, .undef, .undef, .undef, .undef, .undef, .undef, .undef], ⟨[[]], [K'.length, K'.length, 0], H'⟩⟩) ∧
      Lv H' 0 (K'.map Ka.se) ep' F' ∧ IvK K' i' b' ep' ∧ i' ≤ 60 := by
  obtain ⟨B, hB⟩ : ∃ B, B = C.loop ir_undertowlaw13_SbufOrderl0 := ⟨_, rfl⟩
  by_cases h : i < min acts.length 60
  · have ha : i < acts.length := by omega
    have h60 : (i : Int) < 60 := by omega
    have e1 := fun m => acg hv ha m
    have e3 := succ_i64 (n := 60) (i := i) (by omega) (by omega)
    have hd := (hok acts[i] (List.getElem_mem _)).1
    obtain ⟨w, hw⟩ : ∃ w : Wr, w = { acts[i].w with id := (i : Int) } := ⟨_, rfl⟩
    have hav : acV acts[i] = .int .i64 acts[i].kind :: wrV acts[i].w := rfl
    have hav2 : wrV acts[i].w = [.int .i64 acts[i].w.id, .int .i64 acts[i].w.addr, .int .i64 acts[i].w.size, .int .u64 (acts[i].w.data : Int)] := rfl
    have hwv : wrV w = [.int .i64 (i : Int), .int .i64 acts[i].w.addr, .int .i64 acts[i].w.size, .int .u64 (acts[i].w.data : Int)] := by rw [hw]; rfl
    have hdw : w.data < 18446744073709551616 := by rw [hw]; exact hd
    rw [hav, hav2] at e1
    have hiv := hk.iv
    by_cases ck : acts[i].kind = 1
    · obtain ⟨H1, ep1, b1, b2, b3, b4, b5, b6, b7, b8⟩ := hl.bar hiv (by omega)
      obtain ⟨H', K', b', ep', F', c, c', i', ih, r⟩ := Order_loop0 (i + 1) (by omega) H1 K (b + 1) ep1 (by omega) F b2 (hk.bar b3 b4 b8) (by omega)
      refine ⟨H', K', b', ep', F', c, c', i', ?_, r⟩
      have eb : IntKind.i64.wrap (b + 1) = b + 1 := wrap_i64 (by omega) (by omega)
      rw [← hB] at ih
      rw [← hB, s_loop_at hB, ← ih]
      simp [ir_undertowlaw13_SbufOrderl0, go_sem, hv.is, hpv.is, hv.rows, acR_len, ha, h60, e1, e3, ck, b1, eb, -Int.natCast_add]
    · cases hf : fits13 (grp (K.map Ka.se)) ep w with
      | false =>
        have hp := hl.putno hiv w hf
        rw [hwv] at hp
        obtain ⟨H', K', b', ep', F', c, c', i', ih, r⟩ := Order_loop0 (i + 1) (by omega) H K b ep (by omega) F hl hk.next (by omega)
        refine ⟨H', K', b', ep', F', c, c', i', ?_, r⟩
        rw [← hB] at ih
        rw [← hB, s_loop_at hB, ← ih]
        simp [ir_undertowlaw13_SbufOrderl0, go_sem, hv.is, hpv.is, hv.rows, acR_len, ha, h60, e1, e3, ck, hp, -Int.natCast_add]
      | true =>
        obtain ⟨H1, F1, b1, b2, b3, b4, b5, b6⟩ := hl.put hiv w hdw hf
        have hK := hk.put w (by rw [hw]) b3
        have hse : (K ++ [(⟨w, b, ep⟩ : Ka)]).map Ka.se = K.map Ka.se ++ [(zw w, ep)] := by rw [List.map_append]; rfl
        obtain ⟨H', K', b', ep', F', c, c', i', ih, r⟩ := Order_loop0 (i + 1) (by omega) H1 (K ++ [⟨w, b, ep⟩]) b ep (by omega) F1 (by rw [hse]; exact b2) hK (by omega)
        refine ⟨H', K', b', ep', F', c, c', i', ?_, r⟩
        have hlen := hk.len
        have a1 := app_wsF (j := 0) (m := ⟨[wrV w], [K.length, K.length, 0], H1⟩) (l := K.map Ka.w) (l' := [w]) (y := .els [wrV w]) rfl (by simp) (by simp; omega)
        have a2 := app_iIF (j := 1) (m := ⟨[[]], [K.length + 1, K.length, 0], H1⟩) (l := K.map Ka.age) (x := b) (by simp) (by simp; omega)
        have m1 : (K ++ [(⟨w, b, ep⟩ : Ka)]).map Ka.w = K.map Ka.w ++ [w] := by simp
        have m2 : (K ++ [(⟨w, b, ep⟩ : Ka)]).map Ka.age = K.map Ka.age ++ [b] := by simp
        have m3 : (K ++ [(⟨w, b, ep⟩ : Ka)]).length = K.length + 1 := by simp
        simp only [List.length_map, List.length_singleton, List.set_cons_zero, List.set_cons_succ] at a1 a2
        rw [hwv] at a1 b1
        rw [m1, m2, m3] at ih
        rw [← hB] at ih
        rw [← hB, s_loop_at hB, ← ih]
        simp [ir_undertowlaw13_SbufOrderl0, go_sem, hv.is, hpv.is, hv.rows, acR_len, ha, h60, e1, e3, ck, b1, litParts, a1, a2, -Int.natCast_add]
  · refine ⟨H, K, b, ep, F, b, (i : Int), i, ?_, hl, hk, by omega⟩
    rw [← hB, s_loop_at hB]
    by_cases c1 : i < acts.length
    · have c2 : ¬ (i : Int) < 60 := by omega
      simp [ir_undertowlaw13_SbufOrderl0, go_sem, hv.is, hpv.is, hv.rows, acR_len, c1, c2]
    · simp [ir_undertowlaw13_SbufOrderl0, go_sem, hv.is, hpv.is, hv.rows, acR_len, c1]
termination_by 60 - i
end
theorem filter_perm (κ : Int × Int) (L : List SE) : ((L.filter fun x => decide (key x = κ)) ++ L.filter fun x => decide (key x ≠ κ)).Perm L := by
  have := List.filter_append_perm (fun x : SE => decide (key x = κ)) L
  have e : (L.filter fun x => decide (key x ≠ κ)) = L.filter fun x => !decide (key x = κ) := by
    apply List.filter_congr; intro x _; simp
  rw [e]
  exact this
section
variable (pv : V) (picks : List Nat) (hpv : Sl pv (byV picks)) (hpk : ∀ b ∈ picks, b < 256)
include hpv hpk
theorem Order_loop1 (cw : List Wr) (ag : List Int) (t0 t1 : Nat) (n0 : Nat) (H : List Vm.Obj) (L L0 : List SE) (ep : Int) (F : Nat → Prop) (hl : Lv H 0 L ep F) (hiv : Iv L ep) (hn : n0 + (grp L).length ≤ 60) (W : List SE) (hW : (W ++ L).Perm L0) (hlen : L0.length ≤ 60) (hO : ∀ x y, rel13 x y → [x, y].Sublist L0 → [x, y].Sublist (W ++ L)) :
    ∃ H' W' c, evCI pg (.loop ir_undertowlaw13_SbufOrderl1) ⟨[.undef, pv, .undef, .ptr 0 0 0, .osl false 0 (wsV cw), .osl false 2 (wsV (W.map Prod.fst)), .osl false 1 (iI ag), .undef, .undef, .undef, .int .i64 (n0 : Int), .undef, .undef, .undef, .undef, .undef, .undef, .undef, .undef, .undef, .undef, .undef, .undef, .undef, .undef, .undef, .undef, .undef, .undef, .undef, .undef, .undef, .undef], ⟨[[]], [t0, t1, W.length], H⟩⟩ =
      some (.exit 2, ⟨[.undef, pv, .undef, .ptr 0 0 0, .osl false 0 (wsV cw), .osl false 2 (wsV (W'.map Prod.fst)), .osl false 1 (iI ag), .undef, .undef, .undef, .int .i64 c, .undef, .undef, .undef, .undef, .undef, .undef, .undef, .undef, .undef, .undef, .undef, .bool false, .undef, .undef, .undef, .undef, .undef, .undef, .undef, .undef, .undef, .undef], ⟨[[]], [t0, t1, W'.length], H'⟩⟩) ∧
      W'.Perm L0 ∧ ∀ x y, rel13 x y → [x, y].Sublist L0 → [x, y].Sublist W' := by
  obtain ⟨B, hB⟩ : ∃ B, B = C.loop ir_undertowlaw13_SbufOrderl1 := ⟨_, rfl⟩
  obtain ⟨ev, u, hp, hu, hui⟩ := hl.imm
  have hpl := get_lt hp
  have hE := Empty_ok true u (grp L) ep hu
  by_cases hne : grp L = []
  · have hL : L = [] := by
      cases L with
      | nil => rfl
      | cons x L =>
        have := grp_cov (x :: L) x (by simp)
        rw [hne] at this
        simp at this
    subst hL
    rw [List.append_nil] at hW hO
    refine ⟨H, W, (n0 : Int), ?_, hW, hO⟩
    rw [decide_eq_true (by rw [hne]; rfl)] at hE
    rw [← hB, s_loop_at hB]
    have hlt : (n0 : Int) < 60 ∨ ¬ (n0 : Int) < 60 := by omega
    rcases hlt with hlt | hlt
    · simp [ir_undertowlaw13_SbufOrderl1, go_sem, hpv.is, hlt, hp, get_el hp, hpl, hui, hu.is, hE, unV]
    · simp [ir_undertowlaw13_SbufOrderl1, go_sem, hpv.is, hlt, unV]
  · have hpos : 0 < (grp L).length := List.length_pos_iff.2 hne
    rw [decide_eq_false (by omega)] at hE
    have hR := Ready_ok true u (grp L) ep hu hiv.ok
    have hRl := rdy_len (lea ep (grp L)) (grp L) 0
    have hRp := rdy_pos hiv hne
    have h4 := hiv.n4
    have hcl := ilsI_clean (rdy (lea ep (grp L)) (grp L) 0)
    obtain ⟨k, hk, hkv⟩ : ∃ k : Nat, k < (rdy (lea ep (grp L)) (grp L) 0).length ∧ k = (if n0 < picks.length then picks.getD n0 0 % (rdy (lea ep (grp L)) (grp L) 0).length else 0) := by
      refine ⟨_, ?_, rfl⟩
      split
      · exact Nat.mod_lt _ hRp
      · exact hRp
    obtain ⟨q, hq, hq1, hq2⟩ := rdy_get (lea ep (grp L)) (grp L) 0 k hk
    rw [Nat.zero_add] at hq1
    obtain ⟨H1, F1, o, κ, d1, d2, d3, d4, d5, d6, d7, d8, d9, d10, d11, d12, d13⟩ := hl.drain hiv q hq hq2
    have hlW : W.length + L.length = L0.length := by have := hW.length_eq; simpa using this
    obtain ⟨D, hD⟩ : ∃ D, (L.filter fun x => decide (key x = κ)) = D := ⟨_, rfl⟩
    have hgo := fun x y hr hs => go_order (x := x) (y := y) hiv κ d5 hr hs
    have hpm := filter_perm κ L
    rw [hD] at d7 d8 d9 hgo hpm
    have hDl : D.length ≤ L.length := by rw [← hD]; exact List.length_filter_le _ _
    obtain ⟨jl, ho⟩ : ∃ jl, o = .osl true jl (wsV (D.map Prod.fst)) := by
      have hne2 : wsV (D.map Prod.fst) ≠ [] := by
        intro hc
        have := congrArg List.length hc
        rw [wsV_len] at this
        simp at this
        exact d7 this
      generalize wsV (D.map Prod.fst) = ws at d9 hne2
      cases d9 with
      | nils => exact absurd rfl hne2
      | tok j es _ _ => exact ⟨j, rfl⟩
    obtain ⟨H', W', c, ih, r1, r2⟩ := Order_loop1 cw ag t0 t1 (n0 + 1) H1 _ L0 ep F1 d2 d3 (by omega) (W ++ D) (by
        rw [List.append_assoc]
        exact (hpm.append_left W).trans hW) hlen (fun x y hr hs => by
        have := hO x y hr hs
        rw [List.append_assoc, pair_app]
        rw [pair_app] at this
        rcases this with h | ⟨h1, h2⟩ | h
        · exact .inl h
        · exact .inr (.inl ⟨h1, hpm.symm.subset h2⟩)
        · exact .inr (.inr (hgo x y hr h)))
    refine ⟨H', W', c, ?_, r1, r2⟩
    have a1 := app_wsF (j := 2) (m := ⟨[[]], [t0, t1, W.length], H1⟩) (l := W.map Prod.fst) (l' := D.map Prod.fst) (y := .osl true jl (wsV (D.map Prod.fst))) rfl (by simp) (by simp; omega)
    simp only [List.length_map, List.set_cons_zero, List.set_cons_succ] at a1
    rw [List.map_append, List.length_append] at ih
    rw [← hB] at ih
    rw [← hB, s_loop_at hB, ← ih]
    have h60 : (n0 : Int) < 60 := by omega
    have e3 := succ_i64 (n := 60) (i := n0) (by omega) (by omega)
    subst ho
    obtain ⟨R, hRe⟩ : ∃ R, rdy (lea ep (grp L)) (grp L) 0 = R := ⟨_, rfl⟩
    have hq1' : R[k]? = some (q : Int) := by
      rw [← hRe, List.getElem?_eq_getElem hk, hq1]
    rw [hRe] at hR hRl hRp hcl hk hkv
    have hRk : R[k] = (q : Int) := by rw [List.getElem?_eq_getElem hk] at hq1'; exact Option.some.inj hq1'
    have er := fun m => (Sl.ils (iI R)).ia (sz := 1) m .i64 (i := k) (by rw [iI_len]; exact hk) (by simp [iI])
    simp only [iI_el, hRk] at er
    have hRne : ¬ R = [] := by intro hc; rw [hc] at hRp; simp at hRp
    by_cases cp : n0 < picks.length
    · rw [if_pos cp] at hkv
      have ep1 := fun m => hpv.ia (sz := 1) m .i64 (i := n0) (by rw [byV_len]; exact cp) (by simp [byV])
      simp only [byV_el] at ep1
      have hpkn := hpk picks[n0] (List.getElem_mem _)
      have hgd : picks.getD n0 0 = picks[n0] := by simp [List.getD_eq_getElem?_getD, cp]
      rw [hgd] at hkv
      have e5 : IntKind.i64.wrap (picks[n0] : Int) = (picks[n0] : Int) := wrap_i64 (by omega) (by omega)
      have em : ((picks[n0] : Nat) : Int).tmod (R.length : Int) = (k : Int) := by rw [hkv]; rfl
      have hR0 : ¬ R.length = 0 := by omega
      simp [ir_undertowlaw13_SbufOrderl1, go_sem, hpv.is, hpv.rows, byV_len, h60, hp, get_el hp, hpl, hui, hu.is, hE, hR, hcl, iI_len, hRne, hR0, cp, ep1, e5, em, er, d1, e3, a1, unV, -Int.natCast_add]
    · rw [if_neg cp] at hkv
      subst hkv
      rw [Int.natCast_zero] at er
      simp [ir_undertowlaw13_SbufOrderl1, go_sem, hpv.is, hpv.rows, byV_len, h60, hp, get_el hp, hpl, hui, hu.is, hE, hR, hcl, iI_len, hRne, cp, er, d1, e3, a1, unV, -Int.natCast_add]
termination_by (grp L).length
decreasing_by omega
end
end Go.Proofs.Ytaedicechhbhdaa
