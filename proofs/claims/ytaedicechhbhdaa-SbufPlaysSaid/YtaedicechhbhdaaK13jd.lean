/- Layer 13: the document's buffer, looked at (no claim; lemmas). -/
import Derived.Test.YtaedicechhbhdaaK13jc
set_option linter.unusedSimpArgs false
set_option linter.unusedVariables false
namespace Go.Proofs.Ytaedicechhbhdaa
open Go Go.Vm

theorem MayD_ok (w : Wr) (hb : -9223372036854775808 ≤ w.addr ∧ w.addr ≤ 9223372036854775807) : evI pg .val n_undertowref13_May [.agg (wrV w)] [] = some (.bool (mayW w), []) := by
  have h := refAligned_ok w.addr w.size hb.1 hb.2
  obtain ⟨a, b, c, d⟩ := w
  unfold mayW
  rw [s_fn fn_undertowref13_May]
  simp only at h ⊢
  by_cases c1 : 0 ≤ a
  · cases q : algn b c with
    | true => rw [q] at h; simp [ir_undertowref13_May, go_sem, wrV, c1, h, V.cells, V.exp, loadAt]
    | false => rw [q] at h; simp [ir_undertowref13_May, go_sem, wrV, c1, h, V.cells, V.exp, loadAt]
  · simp [ir_undertowref13_May, go_sem, wrV, c1, V.cells, V.exp, loadAt]
/-- What is read of a group. -/
theorem gR_facts {u : V} {G : List (List SE)} (hu : Sl u (gR G)) (hne : ∀ g ∈ G, g ≠ []) {i : Nat} (hi : i < G.length) :
    (∀ m, iaSV 1 m u (.int .i64 (i : Int)) = some (.ip (tg u) [.isl false (seR G[i])] 0)) ∧ 0 < (seR G[i]).length ∧ (seR G[i])[0]? = some (seV (hdG G[i])) := by
  refine ⟨fun m => ?_, ?_, ?_⟩
  · have := hu.ia (sz := 1) m .i64 (i := i) (by rw [gR_len]; exact hi) (gR_all _ _ (List.getElem_mem _))
    rwa [gR_el] at this
  · rw [seR_len]; exact List.length_pos_iff.2 (hne _ (List.getElem_mem hi))
  · obtain ⟨y, r, hy⟩ := List.exists_cons_of_ne_nil (hne _ (List.getElem_mem hi))
    rw [hy]; simp [seR, hdG]
/-- Is an entry of the least epoch? -/
def lst (G : List (List SE)) (e : Int) : Bool := G.all fun g => decide (e ≤ (hdG g).2)
def rdyL (P : List SE → Bool) : List (List SE) → Nat → List Int
  | [], _ => []
  | g :: G, i => if P g then (i : Int) :: rdyL P G (i + 1) else rdyL P G (i + 1)
section
variable {u : V} {G : List (List SE)} (hu : Sl u (gR G)) (hne : ∀ g ∈ G, g ≠ []) (hG : G.length ≤ 1000)
include hu hne hG
theorem ReadyD_l0 (l : List Int) (i : Nat) (hi : i < G.length) (k : Nat) (hk : k ≤ G.length) (b : Bool) :
    evCI pg (.loop ir_undertowref13_Buffer_Readyl0) ⟨[.undef, .undef, u, .osl false 0 (iI l), .int .i64 (i : Int), .bool b, .int .i64 (k : Int), .undef, .undef, .undef], ⟨[], [l.length], []⟩⟩ =
      some (.exit 2, ⟨[.undef, .undef, u, .osl false 0 (iI l), .int .i64 (i : Int), .bool (b && lst (G.drop k) (hdG G[i]).2), .int .i64 (G.length : Int), .undef, .bool false, .undef], ⟨[], [l.length], []⟩⟩) := by
  obtain ⟨B, hB⟩ : ∃ B, B = C.loop ir_undertowref13_Buffer_Readyl0 := ⟨_, rfl⟩
  by_cases c : k < G.length
  · obtain ⟨a1, a2, a3⟩ := gR_facts hu hne hi
    obtain ⟨b1, b2, b3⟩ := gR_facts hu hne c
    have e3 := succ_i64 c (by omega)
    have hd : lst (G.drop k) (hdG G[i]).2 = (decide ((hdG G[i]).2 ≤ (hdG G[k]).2) && lst (G.drop (k + 1)) (hdG G[i]).2) := by
      rw [List.drop_eq_getElem_cons c]; rfl
    have ih := ReadyD_l0 l i hi (k + 1) (by omega) (b && decide ((hdG G[i]).2 ≤ (hdG G[k]).2))
    rw [Bool.and_assoc, ← hd] at ih
    rw [← ih, ← hB]
    conv => lhs; rw [s_loop_at hB]
    clear hd ih
    generalize hdG G[i] = x at *
    generalize hdG G[k] = y at *
    generalize seR G[i] = sx at *
    generalize seR G[k] = sy at *
    have a3' : sx[0] = seV x := by
      rw [List.getElem?_eq_getElem a2] at a3; exact Option.some.inj a3
    have b3' : sy[0] = seV y := by
      rw [List.getElem?_eq_getElem b2] at b3; exact Option.some.inj b3
    simp only [seV] at a3 b3 a3' b3'
    cases b with
    | true => simp [ir_undertowref13_Buffer_Readyl0, go_sem, hu.is, hu.rows, gR_len, c, e3, a1, a2, a3, a3', b1, b2, b3, b3', loadAt, -Int.natCast_add]
    | false => simp [ir_undertowref13_Buffer_Readyl0, go_sem, hu.is, hu.rows, gR_len, c, e3, -Int.natCast_add]
  · obtain rfl : k = G.length := by omega
    rw [← hB, s_loop_at hB, List.drop_length]
    simp [ir_undertowref13_Buffer_Readyl0, go_sem, hu.is, hu.rows, gR_len, lst]
termination_by G.length - k
theorem ReadyD_l1 (i : Nat) (hi : i ≤ G.length) (l : List Int) (hl : l.length ≤ i) :
    evCI pg (.loop ir_undertowref13_Buffer_Readyl1) ⟨[.undef, .undef, u, .osl false 0 (iI l), .int .i64 (i : Int), .undef, .undef, .undef, .undef, .undef], ⟨[], [l.length], []⟩⟩ =
      some (.exit 0, ⟨[.undef, .undef, u, .osl false 0 (iI (l ++ rdyL (fun g => lst G (hdG g).2) (G.drop i) i)), .int .i64 (G.length : Int), .undef, .undef, .bool false, .undef, .undef], ⟨[], [(l ++ rdyL (fun g => lst G (hdG g).2) (G.drop i) i).length], []⟩⟩) := by
  obtain ⟨B, hB⟩ : ∃ B, B = C.loop ir_undertowref13_Buffer_Readyl1 := ⟨_, rfl⟩
  by_cases c : i < G.length
  · have e3 := succ_i64 c (by omega)
    have h0 := ReadyD_l0 hu hne hG l i c 0 (by omega) true
    rw [List.drop_zero, Bool.true_and, Int.natCast_zero] at h0
    have hd : rdyL (fun g => lst G (hdG g).2) (G.drop i) i = (if lst G (hdG G[i]).2 then (i : Int) :: rdyL (fun g => lst G (hdG g).2) (G.drop (i + 1)) (i + 1) else rdyL (fun g => lst G (hdG g).2) (G.drop (i + 1)) (i + 1)) := by
      rw [List.drop_eq_getElem_cons c]; rfl
    rw [hd]
    cases q : lst G (hdG G[i]).2 with
    | true =>
      rw [q] at h0
      have ea := app_oneI (m := ⟨[], [l.length], []⟩) (l := l) (x := (i : Int)) rfl (by omega)
      simp only [List.set_cons_zero] at ea
      have ih := ReadyD_l1 (i + 1) (by omega) (l ++ [(i : Int)]) (by simp; omega)
      rw [List.length_append, List.length_singleton] at ih
      rw [if_pos rfl, List.append_cons, ← ih, ← hB]
      conv => lhs; rw [s_loop_at hB]
      simp [ir_undertowref13_Buffer_Readyl1, go_sem, hu.is, hu.rows, gR_len, c, e3, h0, ea, litParts, -Int.natCast_add]
    | false =>
      rw [q] at h0
      have ih := ReadyD_l1 (i + 1) (by omega) l (by omega)
      rw [if_neg (by simp), ← ih, ← hB]
      conv => lhs; rw [s_loop_at hB]
      simp [ir_undertowref13_Buffer_Readyl1, go_sem, hu.is, hu.rows, gR_len, c, e3, h0, -Int.natCast_add]
  · obtain rfl : i = G.length := by omega
    rw [← hB, s_loop_at hB, List.drop_length]
    simp [ir_undertowref13_Buffer_Readyl1, go_sem, hu.is, hu.rows, gR_len, rdyL]
termination_by G.length - i
end
theorem rdyL_eq (P : List SE → Bool) (m : Int) : ∀ (G : List (List SE)) (i : Nat), (∀ g ∈ G, P g = decide ((toE g).ep = m)) → rdyL P G i = rdy m (G.map toE) i
  | [], _, _ => rfl
  | g :: G, i, h => by
    have ih := rdyL_eq P m G (i + 1) fun g hg => h g (List.mem_cons_of_mem _ hg)
    have hg := h g (by simp)
    unfold rdyL
    rw [List.map_cons]
    unfold rdy
    rw [hg, ih]
    by_cases c : (toE g).ep = m
    · simp [c]
    · simp [c]
section
variable {t : Bool} {lv : V} {L : List SE} {ep : Int} (hv : Sl lv (seR L)) (hI : Iv L ep)
include hv hI
omit hv in
theorem Iv.adr : ∀ x ∈ L, adr x := fun x hx => by
  have := may_addr (hI.may x hx).1
  exact ⟨this.1, this.2.1⟩
omit hv in
theorem Iv.len : L.length ≤ 32 := by
  have h4 := hI.n4
  have h8 := hI.n8
  -- each store is in an entry
  have key : ∀ (M : List SE), M.length = ((grp M).map fun e => e.st.length).sum := by
    intro M
    induction M using snoc_ind with
    | h0 => rfl
    | hs l a ih =>
      rw [grp_snoc, List.length_append, List.length_singleton, ih]
      have : ∀ (es : List En), ((addS (a.1.addr / 8) a.2 a.1 es).map fun e => e.st.length).sum = (es.map fun e => e.st.length).sum + 1 := by
        intro es
        induction es with
        | nil => rfl
        | cons e es ih =>
          rw [addS_cons]
          split
          · simp; omega
          · simp [ih]; omega
      rw [this]
  have hs : ∀ (es : List En), (∀ e ∈ es, e.st.length ≤ 8) → (es.map fun e => e.st.length).sum ≤ 8 * es.length := by
    intro es h
    induction es with
    | nil => simp
    | cons e es ih =>
      have h1 := h e (by simp)
      have h2 := ih fun e he => h e (List.mem_cons_of_mem _ he)
      simp; omega
  have := hs (grp L) h8
  have := key L
  omega
omit hv in
theorem lst_lea : ∀ g ∈ ents L, lst (ents L) (hdG g).2 = decide ((toE g).ep = lea ep (grp L)) := by
  intro g hg
  obtain ⟨h1, h2, h3⟩ := lea_spec ep (grp L)
  have hall : ∀ e ∈ grp L, e.ep ≤ ep := fun e he => by
    obtain ⟨w, hw⟩ := List.exists_mem_of_ne_nil _ (grp_st L e he).2
    have := (hI.le _ (grp_mem L he hw).1).2
    exact this
  have hge : toE g ∈ grp L := by rw [← ents_toE]; exact List.mem_map_of_mem hg
  have hep : (toE g).ep = (hdG g).2 := rfl
  rw [Bool.eq_iff_iff, decide_eq_true_eq]
  unfold lst
  rw [List.all_eq_true]
  constructor
  · intro h
    have hmin : ∀ e ∈ grp L, (hdG g).2 ≤ e.ep := by
      intro e he
      rw [← ents_toE] at he
      obtain ⟨g', hg', rfl⟩ := List.mem_map.1 he
      have := h g' hg'
      rw [decide_eq_true_eq] at this
      exact this
    have a1 := h2 _ hge
    rcases h3 with h3 | ⟨e, he, h3⟩
    · have := hall _ hge
      omega
    · have := hmin e he
      omega
  · intro h g' hg'
    rw [decide_eq_true_eq]
    have := h2 (toE g') (by rw [← ents_toE]; exact List.mem_map_of_mem hg')
    have e2 : (toE g').ep = (hdG g').2 := rfl
    omega
theorem ReadyD_ok : evI pg .val n_undertowref13_Buffer_Ready [.ip t [lv, .int .i64 ep] 0] [] = some (ils (iI (rdy (lea ep (grp L)) (grp L) 0)), []) := by
  have hl := hI.len
  obtain ⟨u, E, hu⟩ := EntriesD_ok (t := t) (ep := ep) hv hI.adr (by omega)
  have hgl := (ents_glen L).1
  have h := ReadyD_l1 hu (ents_ne L) (by omega) 0 (by omega) [] (by simp)
  rw [List.drop_zero, List.nil_append, List.length_nil, Int.natCast_zero, rdyL_eq _ (lea ep (grp L)) (ents L) 0 (lst_lea hI), ents_toE] at h
  have e0 : iI [] = [] := rfl
  rw [e0] at h
  rw [s_fn fn_undertowref13_Buffer_Ready]
  simp [ir_undertowref13_Buffer_Ready, go_sem, E, hu.is, h]
theorem ElderD_loop (i : Nat) (hi : i ≤ L.length) :
    evCI pg (.loop ir_undertowref13_Buffer_Elderl0) ⟨[.ip t [lv, .int .i64 ep] 0, .undef, .int .i64 (i : Int), .undef, .undef], ⟨[], [], []⟩⟩ =
      some (if (L.drop i).any (fun x => decide (x.2 < ep)) = true then (.ret, ⟨[.undef, .bool true, .undef, .undef, .undef], ⟨[], [], []⟩⟩)
        else (.exit 0, ⟨[.ip t [lv, .int .i64 ep] 0, .undef, .int .i64 (L.length : Int), .bool false, .undef], ⟨[], [], []⟩⟩)) := by
  obtain ⟨B, hB⟩ : ∃ B, B = C.loop ir_undertowref13_Buffer_Elderl0 := ⟨_, rfl⟩
  have hl := hI.len
  by_cases c : i < L.length
  · have e1 := fun m => hv.ia (sz := 5) m .i64 (i := i) (by rw [seR_len]; exact c) (seR_all _ _ (List.getElem_mem _))
    simp only [seR_el, seV] at e1
    have e3 := succ_i64 c (by omega)
    have ih := ElderD_loop (i + 1) (by omega)
    rw [List.drop_eq_getElem_cons c, List.any_cons]
    rw [← hB] at ih
    rw [← hB, s_loop_at hB]
    by_cases q : L[i].2 < ep
    · rw [decide_eq_true q, Bool.true_or, if_pos rfl]
      simp [ir_undertowref13_Buffer_Elderl0, go_sem, hv.is, hv.rows, seR_len, c, e1, q, loadAt]
    · rw [decide_eq_false q, Bool.false_or]
      simp [ir_undertowref13_Buffer_Elderl0, go_sem, hv.is, hv.rows, seR_len, c, e1, e3, q, ih, loadAt, -Int.natCast_add]
  · obtain rfl : i = L.length := by omega
    rw [← hB, s_loop_at hB, List.drop_length]
    simp [ir_undertowref13_Buffer_Elderl0, go_sem, hv.is, hv.rows, seR_len]
termination_by L.length - i
omit hv hI in
theorem elder_eq : L.any (fun x => decide (x.2 < ep)) = decide (lea ep (grp L) < ep) := by
  obtain ⟨h1, h2, h3⟩ := lea_spec ep (grp L)
  rw [Bool.eq_iff_iff, decide_eq_true_eq, List.any_eq_true]
  constructor
  · rintro ⟨x, hx, h⟩
    rw [decide_eq_true_eq] at h
    have := lea_le L ep x hx
    omega
  · intro h
    rcases h3 with h3 | ⟨e, he, h3⟩
    · omega
    · obtain ⟨w, hw⟩ := List.exists_mem_of_ne_nil _ (grp_st L e he).2
      exact ⟨_, (grp_mem L he hw).1, by simp only [decide_eq_true_eq]; omega⟩
theorem ElderD_ok : evI pg .val n_undertowref13_Buffer_Elder [.ip t [lv, .int .i64 ep] 0] [] = some (.bool (decide (lea ep (grp L) < ep)), []) := by
  have h := ElderD_loop (t := t) hv hI 0 (by omega)
  rw [List.drop_zero, Int.natCast_zero, elder_eq] at h
  rw [s_fn fn_undertowref13_Buffer_Elder]
  by_cases c : lea ep (grp L) < ep
  · rw [decide_eq_true c, if_pos rfl] at h
    rw [decide_eq_true c]
    simp [ir_undertowref13_Buffer_Elder, go_sem, h]
  · rw [decide_eq_false c, if_neg (by simp)] at h
    rw [decide_eq_false c]
    simp [ir_undertowref13_Buffer_Elder, go_sem, h]
theorem OverD_loop (a n : Int) (i : Nat) (hi : i ≤ L.length) :
    evCI pg (.loop ir_undertowref13_Buffer_Overlapsl0) ⟨[.ip t [lv, .int .i64 ep] 0, .int .i64 a, .int .i64 n, .undef, .int .i64 (i : Int), .undef, .undef], ⟨[], [], []⟩⟩ =
      some (if (L.drop i).any (fun x => ovl x.1.addr x.1.size a n) = true then (.ret, ⟨[.undef, .undef, .undef, .bool true, .undef, .undef, .undef], ⟨[], [], []⟩⟩)
        else (.exit 0, ⟨[.ip t [lv, .int .i64 ep] 0, .int .i64 a, .int .i64 n, .undef, .int .i64 (L.length : Int), .bool false, .undef], ⟨[], [], []⟩⟩)) := by
  obtain ⟨B, hB⟩ : ∃ B, B = C.loop ir_undertowref13_Buffer_Overlapsl0 := ⟨_, rfl⟩
  have hl := hI.len
  by_cases c : i < L.length
  · have e1 := fun m => hv.ia (sz := 5) m .i64 (i := i) (by rw [seR_len]; exact c) (seR_all _ _ (List.getElem_mem _))
    simp only [seR_el, seV] at e1
    have e3 := succ_i64 c (by omega)
    have hO := refOverlap_ok L[i].1.addr L[i].1.size a n
    have ih := OverD_loop a n (i + 1) (by omega)
    rw [List.drop_eq_getElem_cons c, List.any_cons]
    rw [← hB] at ih
    rw [← hB, s_loop_at hB]
    cases q : ovl L[i].1.addr L[i].1.size a n with
    | true =>
      rw [q] at hO
      simp [ir_undertowref13_Buffer_Overlapsl0, go_sem, hv.is, hv.rows, seR_len, c, e1, hO, loadAt]
    | false =>
      rw [q] at hO
      rw [Bool.false_or, ← ih]
      simp [ir_undertowref13_Buffer_Overlapsl0, go_sem, hv.is, hv.rows, seR_len, c, e1, e3, hO, loadAt, -Int.natCast_add]
  · obtain rfl : i = L.length := by omega
    rw [← hB, s_loop_at hB, List.drop_length]
    simp [ir_undertowref13_Buffer_Overlapsl0, go_sem, hv.is, hv.rows, seR_len]
termination_by L.length - i
omit hv hI in
theorem over_eq (a n : Int) : L.any (fun x => ovl x.1.addr x.1.size a n) = over13 (grp L) a n := by
  unfold over13
  rw [Bool.eq_iff_iff, List.any_eq_true, List.any_eq_true]
  constructor
  · rintro ⟨x, hx, h⟩
    obtain ⟨e, he, hk⟩ := List.mem_map.1 (grp_cov L x hx)
    refine ⟨e, he, ?_⟩
    rw [List.any_eq_true]
    refine ⟨x.1, ?_, h⟩
    rw [(grp_st L e he).1]
    refine List.mem_map_of_mem (List.mem_filter.2 ⟨hx, ?_⟩)
    simp [hk]
  · rintro ⟨e, he, h⟩
    rw [List.any_eq_true] at h
    obtain ⟨w, hw, h⟩ := h
    exact ⟨_, (grp_mem L he hw).1, h⟩
theorem OverD_ok (a n : Int) : evI pg .val n_undertowref13_Buffer_Overlaps [.ip t [lv, .int .i64 ep] 0, .int .i64 a, .int .i64 n] [] = some (.bool (over13 (grp L) a n), []) := by
  have h := OverD_loop (t := t) hv hI a n 0 (by omega)
  rw [List.drop_zero, Int.natCast_zero, over_eq] at h
  rw [s_fn fn_undertowref13_Buffer_Overlaps]
  cases c : over13 (grp L) a n with
  | true =>
    rw [c, if_pos rfl] at h
    simp [ir_undertowref13_Buffer_Overlaps, go_sem, h]
  | false =>
    rw [c, if_neg (by simp)] at h
    simp [ir_undertowref13_Buffer_Overlaps, go_sem, h]
end
end Go.Proofs.Ytaedicechhbhdaa
