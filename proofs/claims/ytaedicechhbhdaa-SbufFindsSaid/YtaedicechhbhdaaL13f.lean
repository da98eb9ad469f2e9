/- What is put and not drained is found, byte by byte, and nothing else: the law SbufFinds returns true whatever it is handed. No condition. -/
import Derived.Test.YtaedicechhbhdaaK13y
import Derived.Test.YtaedicechhbhdaaRows
set_option linter.unusedSimpArgs false
set_option linter.unusedVariables false
namespace Go.Proofs.Ytaedicechhbhdaa
open Go Go.Vm

theorem Lg.vlt {H : List Vm.Obj} {v : V} {es : List (List V)} (h : Lg H v es) {j : Nat} (hj : vid v = some j) : j < H.length := by
  obtain ⟨n, hn⟩ := h.vtok hj
  exact get_lt hn
theorem Finds_loop1 (v : V) (hvs : isS v = true) (jo : Nat) (O : List Wr) (hO : O.length ≤ 60) (i : Nat) (k : Nat) (hk : k ≤ O.length) (H : List Vm.Obj) (iv : V) (I : List Wr) (hI : ∀ w ∈ I, okS w) (hIl : I.length ≤ 60) (hiv : Lg H iv (wsV I)) (I' : List Wr) (hr : remA (O.drop k) I = some I') :
    ∃ H' iv', evCI pg (.loop ir_undertowlaw13_SbufFindsl1) ⟨[v, .undef, .ptr 0 0 0, iv, .int .i64 (i : Int), .undef, .osl true jo (wsV O), .int .i64 (k : Int), .undef, .undef, .undef, .undef, .undef, .undef, .undef, .undef, .undef, .undef, .undef, .undef, .undef, .undef, .undef, .undef, .undef, .undef, .undef, .undef, .undef, .undef, .undef, .undef, .undef, .undef], ⟨[[]], [], H⟩⟩ =
      some (.exit 3, ⟨[v, .undef, .ptr 0 0 0, iv', .int .i64 (i : Int), .undef, .osl true jo (wsV O), .int .i64 (O.length : Int), .undef, .undef, .undef, .undef, .undef, .undef, .undef, .undef, .undef, .undef, .undef, .undef, .undef, .undef, .undef, .undef, .undef, .undef, .bool false, .undef, .undef, .undef, .undef, .undef, .undef, .undef], ⟨[[]], [], H'⟩⟩) ∧
      Lg H' iv' (wsV I') ∧ H.length ≤ H'.length ∧ (∀ q, q < H.length → H'[q]? = H[q]?) ∧ (∀ q, vid iv' = some q → vid iv = some q ∨ H.length ≤ q) := by
  obtain ⟨B, hB⟩ : ∃ B, B = C.loop ir_undertowlaw13_SbufFindsl1 := ⟨_, rfl⟩
  have hivs := hiv.ivs
  by_cases h : k < O.length
  · rw [List.drop_eq_getElem_cons h, remA] at hr
    cases q1 : rem1 O[k] I with
    | none => rw [q1] at hr; cases hr
    | some I1 =>
      rw [q1] at hr
      simp only at hr
      have hne : I ≠ [] := by intro hc; rw [hc] at q1; simp [rem1] at q1
      obtain ⟨ji, rfl⟩ : ∃ ji, iv = .osl true ji (wsV I) := by
        rcases hivs with ⟨_, hc⟩ | hc
        · exact absurd hc hne
        · exact hc
      obtain ⟨H1, lv, l0, l1, l2, l3, l4⟩ := Finds_loop0 v hvs ji jo I O hI hIl i k h 0 (by omega) H .nils [] (by simpa using hIl) false .nils
      rw [List.drop_zero, rm_false, q1, Int.natCast_zero] at l0
      rw [List.drop_zero, rm_false, q1, List.nil_append] at l1
      simp only at l0 l1
      have sub : ∀ (l l' : List Wr), rem1 O[k] l = some l' → (∀ w ∈ l', w ∈ l) ∧ l'.length ≤ l.length := by
        intro l
        induction l with
        | nil => intro l' h; simp [rem1] at h
        | cons a l ih =>
          intro l' h
          rw [rem1] at h
          split at h
          · cases h; exact ⟨fun w hw => List.mem_cons_of_mem _ hw, by simp⟩
          · rw [Option.map_eq_some_iff] at h
            obtain ⟨l2, h1, rfl⟩ := h
            obtain ⟨x1, x2⟩ := ih l2 h1
            refine ⟨fun w hw => ?_, by simpa using x2⟩
            rcases List.mem_cons.1 hw with rfl | hw
            · simp
            · exact List.mem_cons_of_mem _ (x1 w hw)
      obtain ⟨s1, s2⟩ := sub I I1 q1
      obtain ⟨H2, iv2, ih, r1, r2, r3, r4⟩ := Finds_loop1 v hvs jo O hO i (k + 1) (by omega) H1 lv I1 (fun w hw => hI w (s1 w hw)) (by omega) l1 I' hr
      have e3 := succ_i64 h (by omega)
      refine ⟨H2, iv2, ?_, r1, by omega, fun q hq => ?_, fun q hq => ?_⟩
      · rw [← ih, ← hB]
        conv => lhs; rw [s_loop_at hB]
        rcases l1.ivs with ⟨rfl, _⟩ | ⟨jl, rfl⟩
        · simp [ir_undertowlaw13_SbufFindsl1, go_sem, hvs, wsV_len, h, e3, l0, unV, -Int.natCast_add]
        · simp [ir_undertowlaw13_SbufFindsl1, go_sem, hvs, wsV_len, h, e3, l0, unV, -Int.natCast_add]
      · rw [r3 q (by omega), l3 q hq (by simp [vid])]
      · rcases r4 q hq with hc | hc
        · rcases l4 q hc with hc | hc
          · simp [vid] at hc
          · exact .inr hc
        · exact .inr (by omega)
  · obtain rfl : k = O.length := by omega
    rw [List.drop_length] at hr
    cases hr
    refine ⟨H, iv, ?_, hiv, Nat.le_refl _, fun _ _ => rfl, fun q hq => .inl hq⟩
    rw [← hB, s_loop_at hB]
    rcases hivs with ⟨rfl, _⟩ | ⟨ji, rfl⟩
    · simp [ir_undertowlaw13_SbufFindsl1, go_sem, hvs, wsV_len]
    · simp [ir_undertowlaw13_SbufFindsl1, go_sem, hvs, wsV_len]
termination_by O.length - k
theorem Finds_loop1n (v iv : V) (hvs : isS v = true) (I : List Wr) (hiv : ivs iv I) (i : Nat) (H : List Vm.Obj) :
    evCI pg (.loop ir_undertowlaw13_SbufFindsl1) ⟨[v, .undef, .ptr 0 0 0, iv, .int .i64 (i : Int), .undef, .nils, .int .i64 (0 : Int), .undef, .undef, .undef, .undef, .undef, .undef, .undef, .undef, .undef, .undef, .undef, .undef, .undef, .undef, .undef, .undef, .undef, .undef, .undef, .undef, .undef, .undef, .undef, .undef, .undef, .undef], ⟨[[]], [], H⟩⟩ = some (.exit 3, ⟨[v, .undef, .ptr 0 0 0, iv, .int .i64 (i : Int), .undef, .nils, .int .i64 (0 : Int), .undef, .undef, .undef, .undef, .undef, .undef, .undef, .undef, .undef, .undef, .undef, .undef, .undef, .undef, .undef, .undef, .undef, .undef, .bool false, .undef, .undef, .undef, .undef, .undef, .undef, .undef], ⟨[[]], [], H⟩⟩) := by
  rw [s_loop]
  rcases hiv with ⟨rfl, _⟩ | ⟨ji, rfl⟩
  · simp [ir_undertowlaw13_SbufFindsl1, go_sem, hvs]
  · simp [ir_undertowlaw13_SbufFindsl1, go_sem, hvs]
section
variable (v : V) (acts : List Ac) (hv : Sl v (acR acts)) (hok : okA acts)
include hv hok
theorem Finds_loop4 (i : Nat) (hi : i ≤ min acts.length 60) (H : List Vm.Obj) (R : List SE) (ep : Int) (F : Nat → Prop) (hl : Lv H 0 (R.map hz) ep F) (hiv : Iv (R.map hz) ep) (hep : ep ≤ i) (hRl : R.length ≤ i) (hR : ∀ x ∈ R, okS x.1) (iv : V) (hlg : Lg H iv (wsV (R.map Prod.fst))) (hF : ∀ q, vid iv = some q → ¬ F q) :
    ∃ H' iv' c, (iv' = .nils ∨ ∃ j es, iv' = .osl true j es) ∧ evCI pg (.loop ir_undertowlaw13_SbufFindsl4) ⟨[v, .undef, .ptr 0 0 0, iv, .int .i64 (i : Int), .undef, .undef, .undef, .undef, .undef, .undef, .undef, .undef, .undef, .undef, .undef, .undef, .undef, .undef, .undef, .undef, .undef, .undef, .undef, .undef, .undef, .undef, .undef, .undef, .undef, .undef, .undef, .undef, .undef], ⟨[[]], [], H⟩⟩ =
      some (.exit 0, ⟨[v, .undef, .ptr 0 0 0, iv', .int .i64 c, .undef, .undef, .undef, .undef, .undef, .undef, .undef, .undef, .undef, .undef, .undef, .undef, .undef, .undef, .undef, .bool false, .undef, .undef, .undef, .undef, .undef, .undef, .undef, .undef, .undef, .undef, .undef, .undef, .undef], ⟨[[]], [], H'⟩⟩) := by
  obtain ⟨B, hB⟩ : ∃ B, B = C.loop ir_undertowlaw13_SbufFindsl4 := ⟨_, rfl⟩
  have hivs := hlg.ivs
  by_cases h : i < min acts.length 60
  · have ha : i < acts.length := by omega
    have h60 : (i : Int) < 60 := by omega
    have e1 := fun m => acg hv ha m
    have e3 := succ_i64 (n := 60) (i := i) (by omega) (by omega)
    have hd := (hok acts[i] (List.getElem_mem _)).1
    have hadr := (hok acts[i] (List.getElem_mem _)).2
    have hav : acV acts[i] = .int .i64 acts[i].kind :: wrV acts[i].w := rfl
    have hwv : wrV acts[i].w = [.int .i64 acts[i].w.id, .int .i64 acts[i].w.addr, .int .i64 acts[i].w.size, .int .u64 (acts[i].w.data : Int)] := rfl
    rw [hav, hwv] at e1
    have hz1 : ((0 : Nat) : Int) - 1 = -1 := by omega
    by_cases ck0 : acts[i].kind = 0
    · cases hf : fits13 (grp (R.map hz)) ep acts[i].w with
      | false =>
        have hp := hl.putno hiv acts[i].w hf
        rw [hwv] at hp
        have h3 := Finds_loop3 v iv hv.is R hivs hR (by omega) i H ep F hl hiv 0 (by omega)
        rw [hz1] at h3
        obtain ⟨H', iv', c, hc, ih⟩ := Finds_loop4 (i + 1) (by omega) H R ep F hl hiv (by omega) (by omega) hR iv hlg hF
        refine ⟨H', iv', c, hc, ?_⟩
        rw [← hB] at ih
        rw [← hB, s_loop_at hB, ← ih]
        rcases hivs with ⟨rfl, _⟩ | ⟨ji, rfl⟩
        · simp [ir_undertowlaw13_SbufFindsl4, go_sem, hv.is, hv.rows, acR_len, ha, h60, e1, e3, ck0, hp, h3, -Int.natCast_add]
        · simp [ir_undertowlaw13_SbufFindsl4, go_sem, hv.is, hv.rows, acR_len, ha, h60, e1, e3, ck0, hp, h3, -Int.natCast_add]
      | true =>
        obtain ⟨H1, F1, b1, b2, b3, b4, b5, b6⟩ := hl.put hiv acts[i].w hd hf
        have hm : mayW acts[i].w = true := by unfold fits13 at hf; rw [Bool.and_eq_true] at hf; exact hf.1
        have hokw := okS_may hm hd
        have hlg1 : Lg H1 iv (wsV (R.map Prod.fst)) := hlg.frame fun q hq => b5 q (hlg.vlt hq) (hF q hq)
        obtain ⟨j2, H2, p1, p2, p3, p4, p5⟩ := hlg1.push (by simp; omega) acts[i].w [wrV acts[i].w] []
        have hse : (R ++ [(acts[i].w, ep)]).map hz = R.map hz ++ [(zw acts[i].w, ep)] := by rw [List.map_append]; rfl
        have hfs : (R ++ [(acts[i].w, ep)]).map Prod.fst = R.map Prod.fst ++ [acts[i].w] := by rw [List.map_append]; rfl
        have hj2 : ¬ F1 j2 := by
          rcases p5 with p5 | ⟨_, p5⟩
          · intro hc
            rcases b6 j2 hc with hc | hc
            · exact hF j2 p5 hc
            · have := hlg.vlt p5; omega
          · intro hc
            have := b2.lt hc
            omega
        have hl2 : Lv H2 0 ((R ++ [(acts[i].w, ep)]).map hz) ep F1 := by
          rw [hse]
          exact b2.frame fun q hq => p4 q (b2.lt hq) (fun e => hj2 (e ▸ hq))
        have hR2 : ∀ x ∈ R ++ [(acts[i].w, ep)], okS x.1 := by
          intro x hx
          rcases List.mem_append.1 hx with hx | hx
          · exact hR x hx
          · simp at hx; subst hx; exact hokw
        have hlg2 : Lg H2 (.osl true j2 (wsV ((R ++ [(acts[i].w, ep)]).map Prod.fst))) (wsV ((R ++ [(acts[i].w, ep)]).map Prod.fst)) := by rw [hfs]; exact p2
        have h3 := Finds_loop3 v (.osl true j2 (wsV ((R ++ [(acts[i].w, ep)]).map Prod.fst))) hv.is (R ++ [(acts[i].w, ep)]) (.inr ⟨j2, rfl⟩) hR2 (by simp; omega) i H2 ep F1 hl2 (by rw [hse]; exact b3) 0 (by omega)
        rw [hz1] at h3
        obtain ⟨H', iv', c, hc, ih⟩ := Finds_loop4 (i + 1) (by omega) H2 (R ++ [(acts[i].w, ep)]) ep F1 hl2 (by rw [hse]; exact b3) (by omega) (by simp; omega) hR2 _ hlg2 (fun q hq => by cases hq; exact hj2)
        refine ⟨H', iv', c, hc, ?_⟩
        rw [← hB] at ih
        rw [← hB, s_loop_at hB, ← ih]
        rw [hwv] at b1 p1
        rw [hfs] at h3 ⊢
        rcases hivs with ⟨rfl, _⟩ | ⟨ji, rfl⟩
        · simp [ir_undertowlaw13_SbufFindsl4, go_sem, hv.is, hv.rows, acR_len, ha, h60, e1, e3, ck0, b1, litParts, p1, h3, -Int.natCast_add]
        · simp [ir_undertowlaw13_SbufFindsl4, go_sem, hv.is, hv.rows, acR_len, ha, h60, e1, e3, ck0, b1, litParts, p1, h3, -Int.natCast_add]
    · by_cases ck1 : acts[i].kind = 1
      · obtain ⟨H1, ep1, b1, b2, b3, b4, b5, b6, b7, _⟩ := hl.bar hiv (by omega)
        have h0F : F 0 := by
          obtain ⟨ev, ss, x, y1, y2⟩ := hl
          exact (y2 0).2 (.inl rfl)
        have hlg1 : Lg H1 iv (wsV (R.map Prod.fst)) := hlg.frame fun q hq => b7 q (hlg.vlt hq) (fun e => hF q hq (e ▸ h0F))
        have h3 := Finds_loop3 v iv hv.is R hivs hR (by omega) i H1 ep1 F b2 b3 0 (by omega)
        rw [hz1] at h3
        obtain ⟨H', iv', c, hc, ih⟩ := Finds_loop4 (i + 1) (by omega) H1 R ep1 F b2 b3 (by omega) (by omega) hR iv hlg1 hF
        refine ⟨H', iv', c, hc, ?_⟩
        rw [← hB] at ih
        rw [← hB, s_loop_at hB, ← ih]
        rcases hivs with ⟨rfl, _⟩ | ⟨ji, rfl⟩
        · simp [ir_undertowlaw13_SbufFindsl4, go_sem, hv.is, hv.rows, acR_len, ha, h60, e1, e3, ck1, b1, h3, -Int.natCast_add]
        · simp [ir_undertowlaw13_SbufFindsl4, go_sem, hv.is, hv.rows, acR_len, ha, h60, e1, e3, ck1, b1, h3, -Int.natCast_add]
      · by_cases ck2 : acts[i].kind = 2
        · cases hcn : (rdy (lea ep (grp (R.map hz))) (grp (R.map hz)) 0).contains acts[i].w.addr with
          | false =>
            have hp := hl.drainno hiv _ hcn
            have h1n := Finds_loop1n v iv hv.is (R.map Prod.fst) hivs i H
            have h3 := Finds_loop3 v iv hv.is R hivs hR (by omega) i H ep F hl hiv 0 (by omega)
            rw [hz1] at h3
            obtain ⟨H', iv', c, hc, ih⟩ := Finds_loop4 (i + 1) (by omega) H R ep F hl hiv (by omega) (by omega) hR iv hlg hF
            refine ⟨H', iv', c, hc, ?_⟩
            rw [← hB] at ih
            rw [← hB, s_loop_at hB, ← ih]
            rcases hivs with ⟨rfl, _⟩ | ⟨ji, rfl⟩
            · simp [ir_undertowlaw13_SbufFindsl4, go_sem, hv.is, hv.rows, acR_len, ha, h60, e1, e3, ck2, hp, h1n, h3, -Int.natCast_add]
            · simp [ir_undertowlaw13_SbufFindsl4, go_sem, hv.is, hv.rows, acR_len, ha, h60, e1, e3, ck2, hp, h1n, h3, -Int.natCast_add]
          | true =>
            obtain ⟨kk, hkk, hke, hkl⟩ := (rdy_contains _ _ _ _).1 hcn
            rw [Nat.zero_add] at hke
            obtain ⟨H1, F1, o, κ, d1, d2, d3, d4, d5, d6, d7, d8, d9, d10, d11, d12, d13⟩ := hl.drain hiv kk hkk hkl
            obtain ⟨g1, g2⟩ := remA_go hiv κ d5
            rw [g2] at d2 d3
            obtain ⟨R2, hR2e⟩ : ∃ R2, (R.filter fun x => decide (key x ≠ κ)) = R2 := ⟨_, rfl⟩
            have hR2 : ∀ x ∈ R2, okS x.1 := fun x hx => hR x (List.mem_filter.1 (hR2e ▸ hx)).1
            have hR2l : R2.length ≤ R.length := by rw [← hR2e]; exact List.length_filter_le _ _
            rw [hR2e] at d2 d3 g1
            obtain ⟨D, hD⟩ : ∃ D, (((R.map hz).filter fun x => decide (key x = κ)).map Prod.fst) = D := ⟨_, rfl⟩
            rw [hD] at d9 g1
            have hDl : D.length ≤ 60 := by rw [← hD]; simp only [List.length_map]; omega
            obtain ⟨jo, ho⟩ : ∃ jo, o = .osl true jo (wsV D) := by
              rcases d9.ivs with ⟨_, hc⟩ | hc
              · exfalso
                rw [hc] at hD
                apply d7
                simpa using hD
              · exact hc
            subst ho
            have hlg1 : Lg H1 iv (wsV (R.map Prod.fst)) := hlg.frame fun q hq => d12 q (hlg.vlt hq) (hF q hq)
            have hI : ∀ w ∈ R.map Prod.fst, okS w := by
              intro w hw
              obtain ⟨x, hx, rfl⟩ := List.mem_map.1 hw
              exact hR x hx
            obtain ⟨H2, iv2, l1, l2, l3, l4, l5⟩ := Finds_loop1 v hv.is jo D hDl i 0 (by omega) H1 iv (R.map Prod.fst) hI (by simp; omega) hlg1 _ (by rw [List.drop_zero]; exact g1)
            rw [Int.natCast_zero] at l1
            have hl2 : Lv H2 0 (R2.map hz) ep F1 := d2.frame fun q hq => l4 q (d2.lt hq)
            have hF2 : ∀ q, vid iv2 = some q → ¬ F1 q := by
              intro q hq hc
              rcases l5 q hq with h5 | h5
              · exact hF q h5 (d13 q hc)
              · have := d2.lt hc; omega
            have h3 := Finds_loop3 v iv2 hv.is _ l2.ivs hR2 (by omega) i H2 ep F1 hl2 d3 0 (by omega)
            rw [hz1] at h3
            obtain ⟨H', iv', c, hc, ih⟩ := Finds_loop4 (i + 1) (by omega) H2 _ ep F1 hl2 d3 (by omega) (by omega) hR2 iv2 l2 hF2
            refine ⟨H', iv', c, hc, ?_⟩
            rw [← hB] at ih
            rw [← hB, s_loop_at hB, ← ih]
            rw [hke] at e1
            rcases hivs with ⟨rfl, _⟩ | ⟨ji, rfl⟩
            · rcases l2.ivs with ⟨rfl, _⟩ | ⟨j3, rfl⟩
              · simp [ir_undertowlaw13_SbufFindsl4, go_sem, hv.is, hv.rows, acR_len, ha, h60, e1, e3, ck2, d1, l1, h3, -Int.natCast_add]
              · simp [ir_undertowlaw13_SbufFindsl4, go_sem, hv.is, hv.rows, acR_len, ha, h60, e1, e3, ck2, d1, l1, h3, -Int.natCast_add]
            · rcases l2.ivs with ⟨rfl, _⟩ | ⟨j3, rfl⟩
              · simp [ir_undertowlaw13_SbufFindsl4, go_sem, hv.is, hv.rows, acR_len, ha, h60, e1, e3, ck2, d1, l1, h3, -Int.natCast_add]
              · simp [ir_undertowlaw13_SbufFindsl4, go_sem, hv.is, hv.rows, acR_len, ha, h60, e1, e3, ck2, d1, l1, h3, -Int.natCast_add]
        · have h3 := Finds_loop3 v iv hv.is R hivs hR (by omega) i H ep F hl hiv 0 (by omega)
          rw [hz1] at h3
          obtain ⟨H', iv', c, hc, ih⟩ := Finds_loop4 (i + 1) (by omega) H R ep F hl hiv (by omega) (by omega) hR iv hlg hF
          refine ⟨H', iv', c, hc, ?_⟩
          rw [← hB] at ih
          rw [← hB, s_loop_at hB, ← ih]
          rcases hivs with ⟨rfl, _⟩ | ⟨ji, rfl⟩
          · simp [ir_undertowlaw13_SbufFindsl4, go_sem, hv.is, hv.rows, acR_len, ha, h60, e1, e3, ck0, ck1, ck2, h3, -Int.natCast_add]
          · simp [ir_undertowlaw13_SbufFindsl4, go_sem, hv.is, hv.rows, acR_len, ha, h60, e1, e3, ck0, ck1, ck2, h3, -Int.natCast_add]
  · refine ⟨H, iv, (i : Int), ?_, ?_⟩
    · rcases hivs with ⟨h1, _⟩ | ⟨j, h1⟩
      · exact .inl h1
      · exact .inr ⟨j, _, h1⟩
    · rw [← hB, s_loop_at hB]
      by_cases c1 : i < acts.length
      · have c2 : ¬ (i : Int) < 60 := by omega
        rcases hivs with ⟨rfl, _⟩ | ⟨ji, rfl⟩
        · simp [ir_undertowlaw13_SbufFindsl4, go_sem, hv.is, hv.rows, acR_len, c1, c2]
        · simp [ir_undertowlaw13_SbufFindsl4, go_sem, hv.is, hv.rows, acR_len, c1, c2]
      · rcases hivs with ⟨rfl, _⟩ | ⟨ji, rfl⟩
        · simp [ir_undertowlaw13_SbufFindsl4, go_sem, hv.is, hv.rows, acR_len, c1]
        · simp [ir_undertowlaw13_SbufFindsl4, go_sem, hv.is, hv.rows, acR_len, c1]
termination_by 60 - i
theorem SbufFinds_true : evI pg .val n_undertowlaw13_SbufFinds [v] [] = some (.bool true, []) := by
  have h0 := Lv.new [Vm.Obj.arr [[.nils, .int .i64 0]]] 0 rfl
  obtain ⟨H1, iv, c, hc, l1⟩ := Finds_loop4 v acts hv hok 0 (by omega) _ [] 0 _ h0 Iv.nil (by omega) (by simp) (by simp) .nils .nils (fun q hq => by cases hq)
  rw [Int.natCast_zero] at l1
  rw [s_fn fn_undertowlaw13_SbufFinds]
  rcases hc with rfl | ⟨j, es, rfl⟩
  · simp [ir_undertowlaw13_SbufFinds, go_sem, alive13, hv.is, l1, unV]
  · simp [ir_undertowlaw13_SbufFinds, go_sem, alive13, hv.is, l1, unV]
end
theorem law_finds : ∀ vs, PArgs Try.prog 8 Try.f3.params.toList vs → ∃ k, evF pg k .val 3 vs [] = some (.bool true, []) := by
  intro vs h
  obtain ⟨v1, _, rfl, h1, rfl⟩ := h
  obtain ⟨l, hl, hok⟩ := arg_acs (n := 4) h1
  exact (evI_iff (hx _ _)).1 (SbufFinds_true v1 l hl hok)
end Go.Proofs.Ytaedicechhbhdaa
