/- Stores that overlap, and stores with a barrier between, are drained in the order in which they came, whichever entries go: the law SbufOrder returns true whatever it is handed. No condition. -/
import Derived.Test.YtaedicechhbhdaaK13v
import Derived.Test.YtaedicechhbhdaaRows
set_option linter.unusedSimpArgs false
set_option linter.unusedVariables false
namespace Go.Proofs.Ytaedicechhbhdaa
open Go Go.Vm

theorem Order_loop2 (cw ww : List Wr) (ag : List Int) (tk : List Nat) (H : List Vm.Obj) (i k : Nat) (hi : i < cw.length) (hk : k < cw.length) (hw : ww.length ≤ 60) (j : Nat) (hj : j ≤ ww.length) (a c : Int) :
    evCI pg (.loop ir_undertowlaw13_SbufOrderl2) ⟨[.undef, .undef, .undef, .undef, .osl false 0 (wsV cw), .osl false 2 (wsV ww), .osl false 1 (iI ag), .undef, .undef, .undef, .undef, .undef, .undef, .int .i64 (i : Int), .int .i64 (k : Int), .int .i64 a, .int .i64 c, .int .i64 (j : Int), .undef, .undef, .undef, .undef, .undef, .undef, .undef, .undef, .undef, .undef, .undef, .undef, .undef, .undef, .undef], ⟨[[]], tk, H⟩⟩ =
      some (.exit 8, ⟨[.undef, .undef, .undef, .undef, .osl false 0 (wsV cw), .osl false 2 (wsV ww), .osl false 1 (iI ag), .undef, .undef, .undef, .undef, .undef, .undef, .int .i64 (i : Int), .int .i64 (k : Int), .int .i64 (lx ww cw[i].id j a), .int .i64 (lx ww cw[k].id j c), .int .i64 (ww.length : Int), .undef, .undef, .undef, .undef, .undef, .undef, .undef, .undef, .undef, .undef, .undef, .bool false, .undef, .undef, .undef], ⟨[[]], tk, H⟩⟩) := by
  obtain ⟨B, hB⟩ : ∃ B, B = C.loop ir_undertowlaw13_SbufOrderl2 := ⟨_, rfl⟩
  by_cases h : j < ww.length
  · have ih := Order_loop2 cw ww ag tk H i k hi hk hw (j + 1) (by omega) (if ww[j].id = cw[i].id then (j : Int) else a) (if ww[j].id = cw[k].id then (j : Int) else c)
    have e1 := fun m => oslw_ia false 2 ww m h
    have e2 := fun m => oslw_ia false 0 cw m hi
    have e4 := fun m => oslw_ia false 0 cw m hk
    have hp1 : wrV ww[j] = [.int .i64 ww[j].id, .int .i64 ww[j].addr, .int .i64 ww[j].size, .int .u64 (ww[j].data : Int)] := rfl
    have hp2 : wrV cw[i] = [.int .i64 cw[i].id, .int .i64 cw[i].addr, .int .i64 cw[i].size, .int .u64 (cw[i].data : Int)] := rfl
    have hp3 : wrV cw[k] = [.int .i64 cw[k].id, .int .i64 cw[k].addr, .int .i64 cw[k].size, .int .u64 (cw[k].data : Int)] := rfl
    rw [hp1] at e1
    rw [hp2] at e2
    rw [hp3] at e4
    have e3 := succ_i64 h (by omega)
    rw [lx_at h, lx_at h, ← ih, ← hB]
    conv => lhs; rw [s_loop_at hB]
    by_cases c1 : ww[j].id = cw[i].id
    · by_cases c2 : ww[j].id = cw[k].id
      · rw [if_pos c1, if_pos c2]
        rw [← c1] at e2
        rw [← c2] at e4
        simp [ir_undertowlaw13_SbufOrderl2, go_sem, wsV_len, h, e1, e2, e3, e4, -Int.natCast_add]
      · rw [if_pos c1, if_neg c2]
        rw [← c1] at e2
        simp [ir_undertowlaw13_SbufOrderl2, go_sem, wsV_len, h, e1, e2, e3, e4, c2, -Int.natCast_add]
    · by_cases c2 : ww[j].id = cw[k].id
      · rw [if_neg c1, if_pos c2]
        rw [← c2] at e4
        simp [ir_undertowlaw13_SbufOrderl2, go_sem, wsV_len, h, e1, e2, e3, e4, c1, -Int.natCast_add]
      · rw [if_neg c1, if_neg c2]
        simp [ir_undertowlaw13_SbufOrderl2, go_sem, wsV_len, h, e1, e2, e3, e4, c1, c2, -Int.natCast_add]
  · obtain rfl : j = ww.length := by omega
    rw [lx_end, lx_end, ← hB, s_loop_at hB]
    simp [ir_undertowlaw13_SbufOrderl2, go_sem, wsV_len]
termination_by ww.length - j
theorem pair_of_lt {α : Type} {l : List α} {i k : Nat} (h : i < k) (hk : k < l.length) : [l[i], l[k]].Sublist l := by
  have h1 : l.drop i = l[i] :: l.drop (i + 1) := List.drop_eq_getElem_cons (by omega)
  have h2 : l[k] ∈ l.drop (i + 1) := by
    rw [List.mem_iff_getElem]
    exact ⟨k - (i + 1), by simp; omega, by rw [List.getElem_drop]; congr 1; omega⟩
  have h3 : [l[i], l[k]].Sublist (l.drop i) := by
    rw [h1]
    exact List.Sublist.cons_cons _ (List.singleton_sublist.2 h2)
  exact h3.trans (List.drop_sublist i l)
section
variable (K : List Ka) (W : List SE) (tk : List Nat) (H : List Vm.Obj) (hlen : K.length ≤ 60) (hW : W.Perm (K.map Ka.se)) (hO : ∀ x y, rel13 x y → [x, y].Sublist (K.map Ka.se) → [x, y].Sublist W) (hid : K.Pairwise fun x y => x.w.id < y.w.id) (hag : K.Pairwise fun x y => x.age ≠ y.age → x.ep ≠ y.ep)
include hlen hW hO hid hag
omit hlen hO hag in
theorem W_nodup : ((W.map Prod.fst).map Wr.id).Nodup := by
  have h1 : ((K.map Ka.se).map fun x => x.1.id).Nodup := by
    rw [List.map_map]
    have : (K.map (fun x => x.w.id)).Nodup := by
      rw [List.Nodup, List.pairwise_map]
      exact hid.imp fun {a b} hab => by omega
    exact this
  rw [List.map_map]
  exact (hW.map fun x : SE => x.1.id).nodup_iff.2 h1
omit hlen in
theorem Order_ix (i k : Nat) (hik : i < k) (hk : k < K.length) (hr : ovl K[i].w.addr K[i].w.size K[k].w.addr K[k].w.size = true ∨ K[i].age ≠ K[k].age) :
    ∃ p q : Nat, p < q ∧ lx (W.map Prod.fst) K[i].w.id 0 (-1) = (p : Int) ∧ lx (W.map Prod.fst) K[k].w.id 0 (-1) = (q : Int) := by
  have hrel : rel13 (Ka.se K[i]) (Ka.se K[k]) := by
    rcases hr with hr | hr
    · exact .inl hr
    · right
      exact List.pairwise_iff_getElem.1 hag i k (by omega) hk hik hr
  have hs : [Ka.se K[i], Ka.se K[k]].Sublist (K.map Ka.se) := by
    have := pair_of_lt (l := K.map Ka.se) hik (by simpa using hk)
    simpa using this
  obtain ⟨p, q, hp, hq, h1, h2, h3⟩ := pair_ix (hO _ _ hrel hs)
  have nd := W_nodup K W hW hid
  refine ⟨p, q, h1, ?_, ?_⟩
  · have := lx_found (W.map Prod.fst) nd p (by simpa using hp) 0 (by omega) (-1)
    have e : (W.map Prod.fst)[p]'(by simpa using hp) = zw K[i].w := by rw [List.getElem_map, h2]; rfl
    rw [e] at this
    exact this
  · have := lx_found (W.map Prod.fst) nd q (by simpa using hq) 0 (by omega) (-1)
    have e : (W.map Prod.fst)[q]'(by simpa using hq) = zw K[k].w := by rw [List.getElem_map, h3]; rfl
    rw [e] at this
    exact this
theorem Order_loop3 (i : Nat) (hi : i < K.length) (k : Nat) (hik : i < k) (hk : k ≤ K.length) :
    evCI pg (.loop ir_undertowlaw13_SbufOrderl3) ⟨[.undef, .undef, .undef, .undef, .osl false 0 (wsV (K.map Ka.w)), .osl false 2 (wsV (W.map Prod.fst)), .osl false 1 (iI (K.map Ka.age)), .undef, .undef, .undef, .undef, .undef, .undef, .int .i64 (i : Int), .int .i64 (k : Int), .undef, .undef, .undef, .undef, .undef, .undef, .undef, .undef, .undef, .undef, .undef, .undef, .undef, .undef, .undef, .undef, .undef, .undef], ⟨[[]], tk, H⟩⟩ =
      some (.exit 6, ⟨[.undef, .undef, .undef, .undef, .osl false 0 (wsV (K.map Ka.w)), .osl false 2 (wsV (W.map Prod.fst)), .osl false 1 (iI (K.map Ka.age)), .undef, .undef, .undef, .undef, .undef, .undef, .int .i64 (i : Int), .int .i64 (K.length : Int), .undef, .undef, .undef, .undef, .undef, .undef, .undef, .undef, .undef, .undef, .undef, .undef, .bool false, .undef, .undef, .undef, .undef, .undef], ⟨[[]], tk, H⟩⟩) := by
  obtain ⟨B, hB⟩ : ∃ B, B = C.loop ir_undertowlaw13_SbufOrderl3 := ⟨_, rfl⟩
  by_cases h : k < K.length
  · have ih := Order_loop3 i hi (k + 1) (by omega) (by omega)
    have hi' : i < (K.map Ka.w).length := by simpa using hi
    have hk' : k < (K.map Ka.w).length := by simpa using h
    have hWl : (W.map Prod.fst).length ≤ 60 := by have := hW.length_eq; simp at this ⊢; omega
    have e1 := fun m => oslw_ia false 0 (K.map Ka.w) m hi'
    have e2 := fun m => oslw_ia false 0 (K.map Ka.w) m hk'
    have e4 := fun m => osli_ia false 1 (K.map Ka.age) m (j := i) (by simpa using hi)
    have e5 := fun m => osli_ia false 1 (K.map Ka.age) m (j := k) (by simpa using h)
    have h0 := Order_loop2 (K.map Ka.w) (W.map Prod.fst) (K.map Ka.age) tk H i k hi' hk' hWl 0 (by omega) (-1) (-1)
    simp only [List.getElem_map] at e1 e2 e4 e5 h0
    have hp1 : wrV K[i].w = [.int .i64 K[i].w.id, .int .i64 K[i].w.addr, .int .i64 K[i].w.size, .int .u64 (K[i].w.data : Int)] := rfl
    have hp2 : wrV K[k].w = [.int .i64 K[k].w.id, .int .i64 K[k].w.addr, .int .i64 K[k].w.size, .int .u64 (K[k].w.data : Int)] := rfl
    rw [hp1] at e1
    rw [hp2] at e2
    have hOv := refOverlap_ok K[i].w.addr K[i].w.size K[k].w.addr K[k].w.size
    have e3 := succ_i64 h (by omega)
    rw [← hB] at ih
    rw [← hB, s_loop_at hB, ← ih]
    cases co : ovl K[i].w.addr K[i].w.size K[k].w.addr K[k].w.size with
    | true =>
      rw [co] at hOv
      obtain ⟨p, q, hpq, x1, x2⟩ := Order_ix K W hW hO hid hag i k hik h (.inl co)
      rw [x1, x2, Int.natCast_zero] at h0
      have c1 : ¬ (p : Int) < 0 := by omega
      have c2 : ¬ (q : Int) < 0 := by omega
      have c3 : ¬ q < p := by omega
      simp [ir_undertowlaw13_SbufOrderl3, go_sem, wsV_len, h, e1, e2, e3, e4, e5, hOv, h0, c1, c2, c3, unV, -Int.natCast_add]
    | false =>
      rw [co] at hOv
      by_cases ca : K[i].age = K[k].age
      · simp [ir_undertowlaw13_SbufOrderl3, go_sem, wsV_len, h, e1, e2, e3, e4, e5, hOv, ca, unV, -Int.natCast_add]
      · obtain ⟨p, q, hpq, x1, x2⟩ := Order_ix K W hW hO hid hag i k hik h (.inr ca)
        rw [x1, x2, Int.natCast_zero] at h0
        have c1 : ¬ (p : Int) < 0 := by omega
        have c2 : ¬ (q : Int) < 0 := by omega
        have c3 : ¬ q < p := by omega
        simp [ir_undertowlaw13_SbufOrderl3, go_sem, wsV_len, h, e1, e2, e3, e4, e5, hOv, ca, h0, c1, c2, c3, unV, -Int.natCast_add]
  · obtain rfl : k = K.length := by omega
    rw [← hB, s_loop_at hB]
    simp [ir_undertowlaw13_SbufOrderl3, go_sem, wsV_len]
termination_by K.length - k
theorem Order_loop4 (i : Nat) (hi : i ≤ K.length) :
    evCI pg (.loop ir_undertowlaw13_SbufOrderl4) ⟨[.undef, .undef, .undef, .undef, .osl false 0 (wsV (K.map Ka.w)), .osl false 2 (wsV (W.map Prod.fst)), .osl false 1 (iI (K.map Ka.age)), .undef, .undef, .undef, .undef, .undef, .undef, .int .i64 (i : Int), .undef, .undef, .undef, .undef, .undef, .undef, .undef, .undef, .undef, .undef, .undef, .undef, .undef, .undef, .undef, .undef, .undef, .undef, .undef], ⟨[[]], tk, H⟩⟩ =
      some (.exit 4, ⟨[.undef, .undef, .undef, .undef, .osl false 0 (wsV (K.map Ka.w)), .osl false 2 (wsV (W.map Prod.fst)), .osl false 1 (iI (K.map Ka.age)), .undef, .undef, .undef, .undef, .undef, .undef, .int .i64 (K.length : Int), .undef, .undef, .undef, .undef, .undef, .undef, .undef, .undef, .undef, .undef, .undef, .undef, .bool false, .undef, .undef, .undef, .undef, .undef, .undef], ⟨[[]], tk, H⟩⟩) := by
  obtain ⟨B, hB⟩ : ∃ B, B = C.loop ir_undertowlaw13_SbufOrderl4 := ⟨_, rfl⟩
  by_cases h : i < K.length
  · have ih := Order_loop4 (i + 1) (by omega)
    have h0 := Order_loop3 K W tk H hlen hW hO hid hag i h (i + 1) (by omega) (by omega)
    have e3 := succ_i64 h (by omega)
    rw [← hB] at ih
    rw [← hB, s_loop_at hB, ← ih]
    simp [ir_undertowlaw13_SbufOrderl4, go_sem, wsV_len, h, e3, h0, -Int.natCast_add]
  · obtain rfl : i = K.length := by omega
    rw [← hB, s_loop_at hB]
    simp [ir_undertowlaw13_SbufOrderl4, go_sem, wsV_len]
termination_by K.length - i
end
theorem SbufOrder_true (v pv : V) (acts : List Ac) (picks : List Nat) (hv : Sl v (acR acts)) (hpv : Sl pv (byV picks)) (hok : okA acts) (hpk : ∀ b ∈ picks, b < 256) : evI pg .val n_undertowlaw13_SbufOrder [v, pv] [] = some (.bool true, []) := by
  have h0 := Lv.new [Vm.Obj.arr [[.nils, .int .i64 0]]] 0 rfl
  obtain ⟨H1, K, b, ep, F, c, c', i', l1, b1, b2, b3⟩ := Order_loop0 v pv acts picks hv hpv hok 0 (by omega) _ [] 0 0 (by omega) _ h0 IvK.nil (by omega)
  have hK60 : K.length ≤ 60 := Nat.le_trans b2.len b3
  obtain ⟨H2, W, c2, l2, d1, d2⟩ := Order_loop1 pv picks hpv hpk (K.map Ka.w) (K.map Ka.age) K.length K.length 0 H1 (K.map Ka.se) (K.map Ka.se) ep F b1 b2.iv (by have := b2.iv.n4; omega) [] (List.Perm.refl _) (by simpa using hK60) (fun x y _ h => h)
  have hl4 := Order_loop4 K W [K.length, K.length, W.length] H2 hK60 d1 d2 b2.ids b2.age 0 (by omega)
  have hWl : W.length = K.length := by have := d1.length_eq; simpa using this
  rw [hWl] at hl4
  have e1 : wsV [] = [] := rfl
  have e2 : iI [] = [] := rfl
  have e3 : K.map Ka.w = K.map Ka.w := rfl
  simp only [List.map_nil, List.length_nil, e1, e2, Int.natCast_zero, Int.cast_ofNat_Int] at l1 l2 hl4
  rw [s_fn fn_undertowlaw13_SbufOrder]
  simp [ir_undertowlaw13_SbufOrder, go_sem, alive13, hv.is, hpv.is, l1, l2, hl4, wsV_len, hWl, unV]
theorem law_order : ∀ vs, PArgs Try.prog 8 Try.f4.params.toList vs → ∃ k, evF pg k .val 4 vs [] = some (.bool true, []) := by
  intro vs h
  obtain ⟨v1, _, rfl, h1, v2, _, rfl, h2, rfl⟩ := h
  obtain ⟨l, hl, hok⟩ := arg_acs (n := 4) h1
  obtain ⟨p, hp, hpk⟩ := arg_u8s (n := 6) h2
  exact (evI_iff (hx _ _)).1 (SbufOrder_true v1 v2 l p hl hp hok hpk)
end Go.Proofs.Ytaedicechhbhdaa
