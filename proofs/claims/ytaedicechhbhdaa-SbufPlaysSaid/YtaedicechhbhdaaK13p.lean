/- Layer 13: stores by blocks and epochs (no claim; plain lemmas). -/
import Derived.Test.YtaedicechhbhdaaK13e
set_option linter.unusedSimpArgs false
set_option linter.unusedVariables false
namespace Go.Proofs.Ytaedicechhbhdaa
open Go Go.Vm

theorem snoc_ind {α : Type} {P : List α → Prop} (h0 : P []) (hs : ∀ l a, P l → P (l ++ [a])) (l : List α) : P l := by
  have key : ∀ n (l : List α), l.length = n → P l := by
    intro n
    induction n with
    | zero => intro l hl; have : l = [] := by simpa using hl
              rw [this]; exact h0
    | succ n ih =>
      intro l hl
      rcases List.eq_nil_or_concat l with rfl | ⟨l', a, rfl⟩
      · simp at hl
      · simp at hl
        simpa using hs l' a (ih l' hl)
  exact key _ l rfl
/-- A store, with its epoch. -/
abbrev SE := Wr × Int
def key (x : SE) : Int × Int := (x.1.addr / 8, x.2)
def ek (e : En) : Int × Int := (e.blk, e.ep)
def grp (L : List SE) : List En := L.foldl (fun es x => addS (x.1.addr / 8) x.2 x.1 es) []
theorem grp_snoc (L : List SE) (x : SE) : grp (L ++ [x]) = addS (x.1.addr / 8) x.2 x.1 (grp L) := by simp [grp, List.foldl_append]
theorem ek_iff (e : En) (b ep : Int) : (e.blk = b ∧ e.ep = ep) ↔ ek e = (b, ep) := by unfold ek; simp
theorem addS_cons (b ep : Int) (w : Wr) (e : En) (es : List En) : addS b ep w (e :: es) = if e.blk = b ∧ e.ep = ep then { e with st := e.st ++ [w] } :: es else e :: addS b ep w es := rfl
theorem addS_keys (b ep : Int) (w : Wr) : ∀ es : List En, (addS b ep w es).map ek = if (b, ep) ∈ es.map ek then es.map ek else es.map ek ++ [(b, ep)]
  | [] => by simp [addS, ek]
  | e :: es => by
    unfold addS
    by_cases c : e.blk = b ∧ e.ep = ep
    · have c' := (ek_iff e b ep).1 c
      rw [if_pos c, if_pos (by simp [c'])]
      simp [ek]
    · have c' : ¬ ek e = (b, ep) := fun h => c ((ek_iff e b ep).2 h)
      rw [if_neg c, List.map_cons, addS_keys b ep w es]
      by_cases d : (b, ep) ∈ es.map ek
      · rw [if_pos d, if_pos (by rw [List.map_cons]; exact List.mem_cons_of_mem _ d)]; rfl
      · rw [if_neg d, if_neg (by rw [List.map_cons, List.mem_cons]; rintro (h | h); exact c' h.symm; exact d h)]; rfl
theorem grp_nodup (L : List SE) : ((grp L).map ek).Nodup := by
  induction L using snoc_ind with
  | h0 => simp [grp]
  | hs l a ih =>
    rw [grp_snoc, addS_keys]
    split
    · exact ih
    · rename_i h
      rw [List.nodup_append]
      refine ⟨ih, by simp, ?_⟩
      intro x hx y hy
      simp at hy
      subst hy
      intro e
      exact h (e ▸ hx)
theorem grp_cov (L : List SE) : ∀ x ∈ L, key x ∈ (grp L).map ek := by
  induction L using snoc_ind with
  | h0 => simp
  | hs l a ih =>
    intro x hx
    rw [grp_snoc, addS_keys]
    rcases List.mem_append.1 hx with hx | hx
    · split
      · exact ih x hx
      · exact List.mem_append_left _ (ih x hx)
    · simp at hx
      subst hx
      split
      · assumption
      · simp [key]
theorem addS_mem (b ep : Int) (w : Wr) : ∀ (es : List En), (es.map ek).Nodup → ∀ e ∈ addS b ep w es,
    (e ∈ es ∧ ek e ≠ (b, ep)) ∨ (∃ e0 ∈ es, ek e0 = (b, ep) ∧ e = { e0 with st := e0.st ++ [w] }) ∨ ((b, ep) ∉ es.map ek ∧ e = ⟨b, ep, [w]⟩)
  | [], _, e, he => by
    simp only [addS, List.mem_singleton] at he
    exact .inr (.inr ⟨by simp, he⟩)
  | e' :: es, hn, e, he => by
    rw [List.map_cons, List.nodup_cons] at hn
    unfold addS at he
    by_cases c : e'.blk = b ∧ e'.ep = ep
    · have c' := (ek_iff e' b ep).1 c
      rw [if_pos c] at he
      rcases List.mem_cons.1 he with rfl | he
      · exact .inr (.inl ⟨e', by simp, c', rfl⟩)
      · refine .inl ⟨List.mem_cons_of_mem _ he, fun h => hn.1 ?_⟩
        rw [c', ← h]
        exact List.mem_map_of_mem he
    · have c' : ¬ ek e' = (b, ep) := fun h => c ((ek_iff e' b ep).2 h)
      rw [if_neg c] at he
      rcases List.mem_cons.1 he with rfl | he
      · exact .inl ⟨by simp, c'⟩
      · rcases addS_mem b ep w es hn.2 e he with ⟨h1, h2⟩ | ⟨e0, h1, h2, h3⟩ | ⟨h1, h2⟩
        · exact .inl ⟨List.mem_cons_of_mem _ h1, h2⟩
        · exact .inr (.inl ⟨e0, List.mem_cons_of_mem _ h1, h2, h3⟩)
        · refine .inr (.inr ⟨?_, h2⟩)
          rw [List.map_cons, List.mem_cons]
          rintro (h | h)
          · exact c' h.symm
          · exact h1 h
/-- An entry's stores are those of its block and epoch. -/
theorem grp_st (L : List SE) : ∀ e ∈ grp L, e.st = (L.filter fun x => decide (key x = ek e)).map Prod.fst ∧ e.st ≠ [] := by
  induction L using snoc_ind with
  | h0 => simp [grp]
  | hs l a ih =>
    intro e he
    rw [grp_snoc] at he
    rw [List.filter_append, List.map_append]
    rcases addS_mem _ _ _ _ (grp_nodup l) e he with ⟨h1, h2⟩ | ⟨e0, h1, h2, h3⟩ | ⟨h1, h2⟩
    · have := ih e h1
      have hk : decide (key a = ek e) = false := by rw [decide_eq_false_iff_not]; exact fun h => h2 h.symm
      rw [List.filter_cons_of_neg (by simp [hk]), List.filter_nil, List.map_nil, List.append_nil]
      exact this
    · have := ih e0 h1
      have e1 : ek e = ek e0 := by rw [h3]; rfl
      have hk : decide (key a = ek e) = true := by rw [decide_eq_true_eq, e1, h2]; rfl
      rw [e1]
      rw [e1] at hk
      simp [hk, h3, this.1]
    · have e1 : ek e = key a := by rw [h2]; rfl
      rw [e1]
      have hf : (l.filter fun x => decide (key x = key a)) = [] := by
        rw [List.filter_eq_nil_iff]
        intro x hx hc
        rw [decide_eq_true_eq] at hc
        exact h1 (by have := grp_cov l x hx; rw [hc] at this; exact this)
      simp [hf, h2]
theorem grp_mem (L : List SE) {e : En} (he : e ∈ grp L) {w : Wr} (hw : w ∈ e.st) : (w, e.ep) ∈ L ∧ w.addr / 8 = e.blk := by
  rw [(grp_st L e he).1] at hw
  obtain ⟨x, hx, rfl⟩ := List.mem_map.1 hw
  rw [List.mem_filter, decide_eq_true_eq] at hx
  obtain ⟨h1, h2⟩ := hx
  unfold key ek at h2
  simp only [Prod.mk.injEq] at h2
  refine ⟨?_, h2.1⟩
  rw [← h2.2]
  exact h1
theorem filter_addS (κ : Int × Int) (b ep : Int) (w : Wr) : ∀ es : List En, (addS b ep w es).filter (fun e => decide (ek e ≠ κ)) = if (b, ep) = κ then es.filter (fun e => decide (ek e ≠ κ)) else addS b ep w (es.filter fun e => decide (ek e ≠ κ))
  | [] => by
    unfold addS
    by_cases h : (b, ep) = κ
    · rw [if_pos h]; simp [ek, h]
    · rw [if_neg h]; simp [ek, h, addS]
  | e :: es => by
    have ih := filter_addS κ b ep w es
    rw [addS_cons]
    by_cases c : e.blk = b ∧ e.ep = ep
    · have c' := (ek_iff e b ep).1 c
      rw [if_pos c]
      by_cases h : (b, ep) = κ
      · rw [if_pos h, List.filter_cons_of_neg (by simp [ek] at c' ⊢; simp [c', h]), List.filter_cons_of_neg (by simp [c', h])]
      · rw [if_neg h, List.filter_cons_of_pos (by simp [ek] at c' ⊢; simp [c', h]), List.filter_cons_of_pos (by simp [c', h])]
        rw [addS_cons, if_pos c]
    · have c' : ¬ ek e = (b, ep) := fun h => c ((ek_iff e b ep).2 h)
      rw [if_neg c]
      by_cases h2 : ek e = κ
      · rw [List.filter_cons_of_neg (by simp [h2]), List.filter_cons_of_neg (by simp [h2]), ih]
      · rw [List.filter_cons_of_pos (by simp [h2]), List.filter_cons_of_pos (by simp [h2]), ih]
        split
        · rfl
        · rw [addS_cons, if_neg c]
theorem grp_filter (κ : Int × Int) (L : List SE) : grp (L.filter fun x => decide (key x ≠ κ)) = (grp L).filter fun e => decide (ek e ≠ κ) := by
  induction L using snoc_ind with
  | h0 => simp [grp]
  | hs l a ih =>
    rw [grp_snoc, filter_addS, List.filter_append]
    have hk : (a.1.addr / 8, a.2) = key a := rfl
    rw [hk]
    by_cases h : key a = κ
    · rw [if_pos h, List.filter_cons_of_neg (by simp [h]), List.filter_nil, List.append_nil, ih]
    · rw [if_neg h, List.filter_cons_of_pos (by simp [h]), List.filter_nil, grp_snoc, ih]
theorem erase_filter : ∀ (es : List En) (k : Nat) (hk : k < es.length), (es.map ek).Nodup → es.eraseIdx k = es.filter fun e => decide (ek e ≠ ek es[k])
  | e :: es, 0, _, hn => by
    rw [List.map_cons, List.nodup_cons] at hn
    simp only [List.eraseIdx_zero, List.tail_cons, List.getElem_cons_zero]
    rw [List.filter_cons_of_neg (by simp)]
    symm
    rw [List.filter_eq_self]
    intro x hx
    rw [decide_eq_true_eq]
    intro h
    exact hn.1 (h ▸ List.mem_map_of_mem hx)
  | e :: es, k + 1, hk, hn => by
    rw [List.map_cons, List.nodup_cons] at hn
    have hk' : k < es.length := by simpa using hk
    simp only [List.eraseIdx_cons_succ, List.getElem_cons_succ]
    rw [List.filter_cons_of_pos, erase_filter es k hk' hn.2]
    rw [decide_eq_true_eq]
    intro h
    exact hn.1 (h ▸ List.mem_map_of_mem (List.getElem_mem hk'))
  | [], k, hk, _ => by simp at hk

/-! ### what holds of all stores -/
structure Iv (L : List SE) (ep : Int) : Prop where
  mono : L.Pairwise fun a b => a.2 ≤ b.2
  le : ∀ x ∈ L, 0 ≤ x.2 ∧ x.2 ≤ ep
  may : ∀ x ∈ L, mayW x.1 = true ∧ x.1.data < 18446744073709551616
  n4 : (grp L).length ≤ 4
  n8 : ∀ e ∈ grp L, e.st.length ≤ 8
  ep0 : 0 ≤ ep ∧ ep ≤ 100
theorem okS_may {w : Wr} (h : mayW w = true) (hd : w.data < 18446744073709551616) : okS w := by
  have := may_addr h
  exact ⟨this.1, this.2.1, this.2.2.1, this.2.2.2, hd⟩
theorem Iv.ok {L : List SE} {ep : Int} (h : Iv L ep) : okE (grp L) := by
  refine ⟨h.n4, fun e he => ⟨h.n8 e he, ?_, fun w hw => ?_⟩⟩
  · obtain ⟨w, hw⟩ := List.exists_mem_of_ne_nil _ (grp_st L e he).2
    have := h.le _ (grp_mem L he hw).1
    have := h.ep0
    simp only at *
    omega
  · have := h.may _ (grp_mem L he hw).1
    exact okS_may this.1 this.2
theorem Iv.nil : Iv [] 0 := ⟨.nil, by simp, by simp, by simp [grp], by simp [grp], by omega⟩
theorem plc_n8 (b ep : Int) (w : Wr) : ∀ (es : List En) (i : Nat), (plc b ep es i).2 = true → i + es.length ≤ 4 → (∀ e ∈ es, e.st.length ≤ 8) → i + (addS b ep w es).length ≤ 4 ∧ ∀ e ∈ addS b ep w es, e.st.length ≤ 8
  | [], i, h, h4, h8 => by
    unfold plc at h
    simp at h
    simp [addS]
    omega
  | e :: es, i, h, h4, h8 => by
    unfold plc at h
    unfold addS
    by_cases c : e.blk = b ∧ e.ep = ep
    · rw [if_pos c] at h ⊢
      simp at h
      refine ⟨by simpa using h4, fun x hx => ?_⟩
      rcases List.mem_cons.1 hx with rfl | hx
      · simp; omega
      · exact h8 x (List.mem_cons_of_mem _ hx)
    · rw [if_neg c] at h ⊢
      obtain ⟨q1, q2⟩ := plc_n8 b ep w es (i + 1) h (by simp at h4; omega) (fun x hx => h8 x (List.mem_cons_of_mem _ hx))
      refine ⟨by simp; omega, fun x hx => ?_⟩
      rcases List.mem_cons.1 hx with rfl | hx
      · exact h8 _ (by simp)
      · exact q2 x hx
theorem zx_may {w : Wr} (h : mayW w = true) : mayW { w with data := zx w.data (8 * w.size) } = true := h
theorem Iv.put {L : List SE} {ep : Int} (h : Iv L ep) (w : Wr) (hd : w.data < 18446744073709551616) (hf : fits13 (grp L) ep w = true) : Iv (L ++ [({ w with data := zx w.data (8 * w.size) }, ep)]) ep := by
  have hf' := hf
  unfold fits13 at hf'
  rw [Bool.and_eq_true] at hf'
  obtain ⟨q1, q2⟩ := plc_n8 (w.addr / 8) ep { w with data := zx w.data (8 * w.size) } (grp L) 0 hf'.2 (by have := h.n4; omega) h.n8
  refine ⟨?_, ?_, ?_, ?_, ?_, h.ep0⟩
  · rw [List.pairwise_append]
    refine ⟨h.mono, by simp, fun a ha b hb => ?_⟩
    simp at hb
    subst hb
    exact (h.le a ha).2
  · intro x hx
    rcases List.mem_append.1 hx with hx | hx
    · exact h.le x hx
    · simp at hx; subst hx; exact ⟨h.ep0.1, Int.le_refl _⟩
  · intro x hx
    rcases List.mem_append.1 hx with hx | hx
    · exact h.may x hx
    · simp at hx; subst hx; exact ⟨zx_may hf'.1, zx_lt hd⟩
  · rw [grp_snoc]; simpa using q1
  · rw [grp_snoc]; exact q2
theorem Iv.bar {L : List SE} {ep ep' : Int} (h : Iv L ep) (h1 : ep ≤ ep') (h2 : ep' ≤ 100) : Iv L ep' :=
  ⟨h.mono, fun x hx => by have := h.le x hx; omega, h.may, h.n4, h.n8, by have := h.ep0; omega⟩
theorem Iv.drain {L : List SE} {ep : Int} (h : Iv L ep) (κ : Int × Int) : Iv (L.filter fun x => decide (key x ≠ κ)) ep := by
  refine ⟨h.mono.filter _, fun x hx => h.le x (List.mem_filter.1 hx).1, fun x hx => h.may x (List.mem_filter.1 hx).1, ?_, ?_, h.ep0⟩
  · rw [grp_filter]
    exact Nat.le_trans (List.length_filter_le _ _) h.n4
  · intro e he
    rw [grp_filter] at he
    exact h.n8 e (List.mem_filter.1 he).1
theorem lea_spec (a : Int) : ∀ es : List En, lea a es ≤ a ∧ (∀ e ∈ es, lea a es ≤ e.ep) ∧ (lea a es = a ∨ ∃ e ∈ es, lea a es = e.ep) := by
  intro es
  induction es generalizing a with
  | nil => simp [lea]
  | cons e es ih =>
    unfold lea
    obtain ⟨h1, h2, h3⟩ := ih (if e.ep < a then e.ep else a)
    have ha : (if e.ep < a then e.ep else a) ≤ a := by split <;> omega
    have he : (if e.ep < a then e.ep else a) ≤ e.ep := by split <;> omega
    refine ⟨Int.le_trans h1 ha, ?_, ?_⟩
    · intro x hx
      rcases List.mem_cons.1 hx with rfl | hx
      · exact Int.le_trans h1 he
      · exact h2 x hx
    · rcases h3 with h3 | ⟨x, hx, h3⟩
      · by_cases c : e.ep < a
        · rw [if_pos c] at h3 ⊢
          exact .inr ⟨e, by simp, h3⟩
        · rw [if_neg c] at h3 ⊢
          exact .inl h3
      · exact .inr ⟨x, List.mem_cons_of_mem _ hx, h3⟩
/-- Epochs of all stores are at least the least one. -/
theorem lea_le (L : List SE) (ep : Int) : ∀ x ∈ L, lea ep (grp L) ≤ x.2 := by
  intro x hx
  obtain ⟨e, he, hk⟩ := List.mem_map.1 (grp_cov L x hx)
  have := (lea_spec ep (grp L)).2.1 e he
  unfold ek key at hk
  simp only [Prod.mk.injEq] at hk
  omega
theorem rdy_ne {L : List SE} {ep : Int} (h : Iv L ep) (hne : grp L ≠ []) : ∃ e ∈ grp L, e.ep = lea ep (grp L) := by
  rcases (lea_spec ep (grp L)).2.2 with h3 | ⟨e, he, h3⟩
  · obtain ⟨e, he⟩ := List.exists_mem_of_ne_nil _ hne
    refine ⟨e, he, ?_⟩
    have h1 := (lea_spec ep (grp L)).2.1 e he
    obtain ⟨w, hw⟩ := List.exists_mem_of_ne_nil _ (grp_st L e he).2
    have := h.le _ (grp_mem L he hw).1
    simp only at this
    omega
  · exact ⟨e, he, h3.symm⟩
theorem cov_blk {at_ : Int} {w : Wr} (hm : mayW w = true) (hc : cov at_ w = true) : w.addr / 8 = at_ / 8 := by
  unfold mayW algn at hm
  unfold cov at hc
  simp only [Bool.and_eq_true, decide_eq_true_eq] at hm hc
  rcases hm.2.1.1 with e | e | e | e <;> rw [e] at hm hc <;> omega
end Go.Proofs.Ytaedicechhbhdaa
