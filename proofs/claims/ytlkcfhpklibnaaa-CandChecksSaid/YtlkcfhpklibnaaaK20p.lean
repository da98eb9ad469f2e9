/- Layer 20: which hart is which turns nothing (no claim; plain lemmas). -/
import Derived.Test.YtlkcfhpklibnaaaK20o
set_option linter.unusedSimpArgs false
set_option linter.unusedVariables false
namespace Go.Proofs.Ytlkcfhpklibnaaa
open Go Go.Vm

/-- An event of nobody's. -/
def e0 (r : Rt) : Ev := ⟨0, 0, r⟩
theorem evH_r (h : Nat) : ∀ (l : List Rt) (i : Nat), (evH h l i).map Ev.r = l.filter isE
  | [], _ => rfl
  | r :: l, i => by
    have ih := evH_r h l (i + 1)
    unfold evH
    rw [List.filter_cons]
    split
    · rw [List.map_cons, ih]
    · exact ih
/-- All that retired. -/
def allR (R : Nat → List Rt) : List Rt := R 0 ++ (R 1 ++ R 2)
theorem evs_r (R : Nat → List Rt) : (evs R).map Ev.r = (allR R).filter isE := by
  unfold evs allR
  simp only [List.map_append, evH_r, List.filter_append]
theorem idsR_all (R : Nat → List Rt) : idsR R 0 ++ (idsR R 1 ++ idsR R 2) = (allR R).map Rt.id := by simp [idsR, allR]
theorem idw_iff : ∀ (l s : List Int), (idw l s).isSome = true ↔ (∀ n ∈ l, 0 ≤ n) ∧ l.Nodup ∧ ∀ n ∈ l, n ∉ s
  | [], s => by simp [idw]
  | n :: l, s => by
    unfold idw
    by_cases c : n < 0 ∨ n ∈ s
    · rw [if_pos c]
      simp only [Option.isSome_none, Bool.false_eq_true, List.mem_cons, false_iff, not_and]
      intro h1 h2 h3
      rcases c with c | c
      · have := h1 n (.inl rfl); omega
      · exact h3 n (.inl rfl) c
    · rw [if_neg c, idw_iff l (s ++ [n])]
      simp only [not_or, Int.not_lt] at c
      simp only [List.mem_cons, List.mem_append, List.not_mem_nil, or_false, not_or, List.nodup_cons, forall_eq_or_imp]
      constructor
      · rintro ⟨h1, h2, h3⟩
        exact ⟨⟨c.1, h1⟩, ⟨fun h => (h3 n h).2 rfl, h2⟩, c.2, fun m hm => (h3 m hm).1⟩
      · rintro ⟨⟨_, h1⟩, ⟨h2, h3⟩, h4, h5⟩
        exact ⟨h1, h3, fun m hm => ⟨h5 m hm, fun e => h2 (e ▸ hm)⟩⟩
theorem idsB_iff (R : Nat → List Rt) : idsB R = false ↔ (∀ r ∈ allR R, 0 ≤ r.id) ∧ ((allR R).map Rt.id).Nodup := by
  unfold idsB
  rw [idsR_all]
  have h := idw_iff ((allR R).map Rt.id) []
  constructor
  · intro q
    have : (idw ((allR R).map Rt.id) []).isSome = true := by
      cases e : idw ((allR R).map Rt.id) [] with
      | none => rw [e] at q; cases q
      | some t => rfl
    obtain ⟨h1, h2, _⟩ := h.1 this
    exact ⟨fun r hr => h1 _ (List.mem_map_of_mem hr), h2⟩
  · rintro ⟨h1, h2⟩
    have := h.2 ⟨fun n hn => by obtain ⟨r, hr, rfl⟩ := List.mem_map.1 hn; exact h1 r hr, h2, fun n _ => by simp⟩
    cases e : idw ((allR R).map Rt.id) [] with
    | none => rw [e] at this; cases this
    | some t => rfl
/-! ### who wrote it -/
theorem lixTo_none {E : List Ev} {n : Int} : ∀ {k : Nat}, lixTo E n k = none → ∀ j, j < k → (E[j]?).map (fun e => e.r.id) ≠ some n
  | 0, _, j, hj => by omega
  | k + 1, h, j, hj => by
    unfold lixTo at h
    split at h
    · cases h
    · rename_i hne
      rcases Nat.lt_succ_iff_lt_or_eq.1 hj with hj | rfl
      · exact lixTo_none h j hj
      · exact hne
theorem find_iff {T : List Rt} (hn : (T.map Rt.id).Nodup) {n : Int} {r : Rt} : T.find? (fun r => decide (r.id = n)) = some r ↔ r ∈ T ∧ r.id = n := by
  constructor
  · intro h
    exact ⟨List.mem_of_find?_eq_some h, by simpa using List.find?_some h⟩
  · rintro ⟨h1, rfl⟩
    induction T with
    | nil => cases h1
    | cons q T ih =>
      rw [List.map_cons, List.nodup_cons] at hn
      rw [List.find?_cons]
      rcases List.mem_cons.1 h1 with rfl | h1
      · simp
      · have : ¬ q.id = r.id := fun e => hn.1 (e ▸ List.mem_map_of_mem h1)
        simp only [this, decide_false]
        exact ih hn.2 h1
theorem find_perm {T T' : List Rt} (hp : T.Perm T') (hn : (T.map Rt.id).Nodup) (n : Int) : T.find? (fun r => decide (r.id = n)) = T'.find? (fun r => decide (r.id = n)) := by
  have hn' : (T'.map Rt.id).Nodup := (hp.map Rt.id).nodup_iff.1 hn
  cases h : T'.find? (fun r => decide (r.id = n)) with
  | some r =>
    obtain ⟨h1, h2⟩ := (find_iff hn').1 h
    exact (find_iff hn).2 ⟨hp.mem_iff.2 h1, h2⟩
  | none =>
    cases g : T.find? (fun r => decide (r.id = n)) with
    | none => rfl
    | some r =>
      obtain ⟨h1, h2⟩ := (find_iff hn).1 g
      rw [(find_iff hn').2 ⟨hp.mem_iff.1 h1, h2⟩] at h
      cases h
theorem lix_find {E : List Ev} (hn : ((E.map Ev.r).map Rt.id).Nodup) (n : Int) :
    (lix E n = none ∧ (E.map Ev.r).find? (fun r => decide (r.id = n)) = none) ∨
    ∃ i e, lix E n = some i ∧ E[i]? = some e ∧ (E.map Ev.r).find? (fun r => decide (r.id = n)) = some e.r := by
  cases q : lix E n with
  | none =>
    left
    refine ⟨rfl, ?_⟩
    rw [List.find?_eq_none]
    intro r hr hc
    obtain ⟨e, he, rfl⟩ := List.mem_map.1 hr
    obtain ⟨j, hj⟩ := List.getElem?_of_mem he
    have hlt := (List.getElem?_eq_some_iff.1 hj).1
    have := lixTo_none q j hlt
    rw [hj] at this
    exact this (by simpa using hc)
  | some i =>
    right
    obtain ⟨hi, hid⟩ := lix_some q
    exact ⟨i, E[i], rfl, List.getElem?_eq_getElem hi, (find_iff hn).2 ⟨List.mem_map_of_mem (List.getElem_mem hi), hid⟩⟩
def wrBr (T : List Rt) (n at_ : Int) : Bool := match T.find? (fun r => decide (r.id = n)) with
  | some r => bh (e0 r) at_
  | none => false
def wrVr (T : List Rt) (n at_ : Int) : Nat := match T.find? (fun r => decide (r.id = n)) with
  | some r => bytE (e0 r) at_
  | none => 0
theorem wrB_r {E : List Ev} (hn : ((E.map Ev.r).map Rt.id).Nodup) (n at_ : Int) : wrB E n at_ = wrBr (E.map Ev.r) n at_ := by
  unfold wrB wrBr
  rcases lix_find hn n with ⟨h1, h2⟩ | ⟨i, e, h1, h2, h3⟩
  · rw [h1, h2]
  · rw [h1, h3]
    simp only [h2]
    rfl
theorem wrV_r {E : List Ev} (hn : ((E.map Ev.r).map Rt.id).Nodup) (n at_ : Int) : wrVl E n at_ = wrVr (E.map Ev.r) n at_ := by
  unfold wrVl wrVr
  rcases lix_find hn n with ⟨h1, h2⟩ | ⟨i, e, h1, h2, h3⟩
  · rw [h1, h2]
  · rw [h1, h3]
    simp only [h2]
    rfl
def tgEr (T : List Rt) (r : Rt) : Bool := (List.range' 0 (szO r.ins.op)).any fun k => lod r.ins.op && (decide (r.tg k ≠ -1) && !wrBr T (r.tg k) (adE r + k))
theorem tgE_r {E : List Ev} (hn : ((E.map Ev.r).map Rt.id).Nodup) (e : Ev) : tgE E e = tgEr (E.map Ev.r) e.r := by
  unfold tgE tgEr tgB
  simp only [wrB_r hn]
def wantr (img : List Nat) (T : List Rt) (r : Rt) (k : Nat) : Nat := if r.tg k = -1 then img.getD (adE r + k).toNat 0 else wrVr T (r.tg k) (adE r + k)
def bytEr (img : List Nat) (T : List Rt) (r : Rt) : Bool := lod r.ins.op && (decide (zx r.rdd.toNat ((8 * szO r.ins.op : Nat) : Int) ≠ r.rdd.toNat) || (List.range' 0 (szO r.ins.op)).any fun k => decide ((byl r.rdd.toNat (szO r.ins.op)).getD k 0 ≠ wantr img T r k))
theorem bytE_r {img : List Nat} {E : List Ev} (hn : ((E.map Ev.r).map Rt.id).Nodup) (e : Ev) : bytE' img E e = bytEr img (E.map Ev.r) e.r := by
  unfold bytE' bytEr bytK wantB wantr
  simp only [wrV_r hn]
/-! ### orders -/
def lftr (a : Int) (T : List Rt) : List Int := (T.filter fun r => bh (e0 r) a).map Rt.id
theorem lft_r (a : Int) : ∀ (E : List Ev) (s : List Int), (s ++ (E.map Ev.r).map Rt.id).Nodup → lft a E s = s ++ lftr a (E.map Ev.r)
  | [], s, _ => by simp [lft, lftr]
  | e :: E, s, h => by
    have hb : bh (e0 e.r) a = bh e a := rfl
    unfold lft lftr
    rw [List.map_cons, List.filter_cons, hb]
    simp only [List.map_cons] at h
    have hns : e.r.id ∉ s := by
      intro hm
      rw [List.nodup_append] at h
      exact h.2.2 _ hm _ (by simp) rfl
    cases q : bh e a with
    | true =>
      simp only [if_true, List.map_cons]
      have hi : insF s e.r.id = s ++ [e.r.id] := by unfold insF; rw [if_neg hns]
      rw [hi, lft_r a E (s ++ [e.r.id]) (by rw [List.append_assoc]; exact h)]
      simp [lftr]
    | false =>
      simp only [Bool.false_eq_true, if_false]
      rw [lft_r a E s (by
        rw [List.nodup_append] at h ⊢
        exact ⟨h.1, (List.nodup_cons.1 h.2.1).2, fun x hx y hy => h.2.2 x hx y (List.mem_cons_of_mem _ hy)⟩)]
      rfl
theorem odw_perm : ∀ (l : List Int) {s s' : List Int}, s.Perm s' → (odw l s = none ∧ odw l s' = none) ∨ ∃ t t', odw l s = some t ∧ odw l s' = some t' ∧ t.Perm t'
  | [], s, s', h => .inr ⟨s, s', rfl, rfl, h⟩
  | n :: l, s, s', h => by
    unfold odw
    by_cases c : n ∈ s
    · rw [if_pos c, if_pos (h.mem_iff.1 c)]
      exact odw_perm l (h.erase n)
    · rw [if_neg c, if_neg (fun q => c (h.mem_iff.2 q))]
      exact .inl ⟨rfl, rfl⟩
def ordKr (T : List Rt) (a : Nat) (l : List Int) : Bool := match odw l (lftr (a : Int) T) with
  | none => true
  | some t => decide (t ≠ [])
theorem ordK_r {E : List Ev} (hn : ((E.map Ev.r).map Rt.id).Nodup) (a : Nat) (l : List Int) : ordK E a l = ordKr (E.map Ev.r) a l := by
  unfold ordK ordKr
  rw [lft_r (a : Int) E [] (by simpa using hn), List.nil_append]
  rfl
theorem ordKr_perm {T T' : List Rt} (hp : T.Perm T') (a : Nat) (l : List Int) : ordKr T a l = ordKr T' a l := by
  unfold ordKr
  have h : (lftr (a : Int) T).Perm (lftr (a : Int) T') := (hp.filter _).map _
  rcases odw_perm l h with ⟨h1, h2⟩ | ⟨t, t', h1, h2, h3⟩
  · rw [h1, h2]
  · rw [h1, h2]
    simp only
    cases t with
    | nil =>
      cases t' with
      | nil => rfl
      | cons y t' => have := h3.length_eq; simp at this
    | cons x t =>
      cases t' with
      | nil => have := h3.length_eq; simp at this
      | cons y t' => rfl
theorem ordF_congr {E E' : List Ev} (h : ∀ a l, ordK E a l = ordK E' a l) : ∀ (co : List (List Int)) (a : Nat), ordF E a co = ordF E' a co
  | [], _ => rfl
  | l :: co, a => by
    unfold ordF
    rw [h, ordF_congr h co]
theorem any_perm {α : Type} {p : α → Bool} {l l' : List α} (h : l.Perm l') : l.any p = l'.any p := by
  rw [Bool.eq_iff_iff, List.any_eq_true, List.any_eq_true]
  exact ⟨fun ⟨x, hx, hp⟩ => ⟨x, h.mem_iff.1 hx, hp⟩, fun ⟨x, hx, hp⟩ => ⟨x, h.mem_iff.2 hx, hp⟩⟩
theorem any_r {E : List Ev} {p : Ev → Bool} {q : Rt → Bool} (h : ∀ e, p e = q e.r) : E.any p = (E.map Ev.r).any q := by
  rw [List.any_map]
  congr 1
  funext e
  exact h e
theorem chk_perm {R R' : Nat → List Rt} (hp : (allR R').Perm (allR R)) (hpr : prB R' = prB R) (img : List Nat) (n : Nat) (co : List (List Int)) : chk R' img n co = chk R img n co ∧ (evs R').length = (evs R).length := by
  have hT : ((evs R').map Ev.r).Perm ((evs R).map Ev.r) := by rw [evs_r, evs_r]; exact hp.filter _
  have hlen : (evs R').length = (evs R).length := by simpa using hT.length_eq
  refine ⟨?_, hlen⟩
  have hman : manB R' = manB R := by
    have := hp.length_eq
    unfold allR at this
    simp only [List.length_append] at this
    unfold manB
    rw [Nat.add_assoc, this, Nat.add_assoc]
  have hids : idsB R' = idsB R := by
    rw [Bool.eq_iff_iff]
    have h1 := idsB_iff R
    have h2 := idsB_iff R'
    have h3 : (∀ r ∈ allR R', 0 ≤ r.id) ∧ ((allR R').map Rt.id).Nodup ↔ (∀ r ∈ allR R, 0 ≤ r.id) ∧ ((allR R).map Rt.id).Nodup :=
      and_congr ⟨fun h r hr => h r (hp.mem_iff.2 hr), fun h r hr => h r (hp.mem_iff.1 hr)⟩ (hp.map Rt.id).nodup_iff
    cases a : idsB R <;> cases b : idsB R' <;> simp_all
  have hplc : plcB R' img.length = plcB R img.length := by
    unfold plcB
    have e : ∀ E : List Ev, E.any (plcP img.length) = (E.map Ev.r).any fun r => plcP img.length (e0 r) := fun E => any_r fun e => rfl
    rw [e, e]
    exact any_perm hT
  unfold chk
  rw [hman, hids, hplc, hpr]
  cases q : idsB R with
  | true => simp
  | false =>
    have hnd := ((idsB_iff R).1 q).2
    have hnd' : ((allR R').map Rt.id).Nodup := (hp.map Rt.id).nodup_iff.2 hnd
    have hn : (((evs R).map Ev.r).map Rt.id).Nodup := by
      rw [evs_r]
      exact hnd.sublist ((List.filter_sublist).map _)
    have hn' : (((evs R').map Ev.r).map Rt.id).Nodup := by
      rw [evs_r]
      exact hnd'.sublist ((List.filter_sublist).map _)
    have hfind := fun n => find_perm hT hn' n
    have hWB : ∀ n a, wrBr ((evs R').map Ev.r) n a = wrBr ((evs R).map Ev.r) n a := fun n a => by unfold wrBr; rw [hfind]
    have hWV : ∀ n a, wrVr ((evs R').map Ev.r) n a = wrVr ((evs R).map Ev.r) n a := fun n a => by unfold wrVr; rw [hfind]
    have htag : tagB R' = tagB R := by
      unfold tagB
      have ea : (R' 0 ++ (R' 1 ++ R' 2)).any tagsR = (R 0 ++ (R 1 ++ R 2)).any tagsR := any_perm hp
      rw [any_r (tgE_r hn'), any_r (tgE_r hn), ea]
      have : tgEr ((evs R').map Ev.r) = tgEr ((evs R).map Ev.r) := by
        funext r
        unfold tgEr
        simp only [hWB]
      rw [this, any_perm hT]
    have hbyt : bytB R' img = bytB R img := by
      unfold bytB
      rw [any_r (bytE_r hn'), any_r (bytE_r hn)]
      have : bytEr img ((evs R').map Ev.r) = bytEr img ((evs R).map Ev.r) := by
        funext r
        unfold bytEr wantr
        simp only [hWV]
      rw [this, any_perm hT]
    have hord : ordB R' co = ordB R co := by
      unfold ordB
      exact ordF_congr (fun a l => by rw [ordK_r hn', ordK_r hn, ordKr_perm hT]) co 0
    rw [htag, hbyt, hord]
end Go.Proofs.Ytlkcfhpklibnaaa
