/- Layer 13: in which order all stores go (no claim; lemmas). -/
import Derived.Test.YtaedicechhbhdaaK13q
set_option linter.unusedSimpArgs false
set_option linter.unusedVariables false
namespace Go.Proofs.Ytaedicechhbhdaa
open Go Go.Vm

/-- Must one go ahead of the other? -/
def rel13 (x y : SE) : Prop := ovl x.1.addr x.1.size y.1.addr y.1.size = true ∨ x.2 ≠ y.2
theorem pair_app {α : Type} {x y : α} {A B : List α} : [x, y].Sublist (A ++ B) ↔ [x, y].Sublist A ∨ (x ∈ A ∧ y ∈ B) ∨ [x, y].Sublist B := by
  rw [List.sublist_append_iff]
  constructor
  · rintro ⟨l1, l2, h, h1, h2⟩
    cases l1 with
    | nil => simp at h; subst h; exact .inr (.inr h2)
    | cons a l1 =>
      cases l1 with
      | nil =>
        simp at h
        obtain ⟨rfl, rfl⟩ := h
        exact .inr (.inl ⟨List.singleton_sublist.1 h1, List.singleton_sublist.1 h2⟩)
      | cons b l1 =>
        simp at h
        obtain ⟨rfl, rfl, h3, h4⟩ := h
        subst h3
        exact .inl h1
  · rintro (h | ⟨h1, h2⟩ | h)
    · exact ⟨[x, y], [], by simp, h, by simp⟩
    · exact ⟨[x], [y], rfl, List.singleton_sublist.2 h1, List.singleton_sublist.2 h2⟩
    · exact ⟨[], [x, y], rfl, by simp, h⟩
theorem ovl_blk {x y : Wr} (hx : mayW x = true) (hy : mayW y = true) (h : ovl x.addr x.size y.addr y.size = true) : x.addr / 8 = y.addr / 8 := by
  unfold mayW algn at hx hy
  unfold ovl at h
  simp only [Bool.and_eq_true, decide_eq_true_eq] at hx hy h
  obtain ⟨⟨_, h1⟩, h2⟩ := h
  rcases hx.2.1.1 with e | e | e | e <;> rcases hy.2.1.1 with f | f | f | f <;> rw [e] at hx h2 <;> rw [f] at hy h1 <;> omega
theorem go_order {L : List SE} {ep : Int} (h : Iv L ep) (κ : Int × Int) (hκ : κ.2 = lea ep (grp L)) {x y : SE} (hr : rel13 x y) (hs : [x, y].Sublist L) :
    [x, y].Sublist ((L.filter fun x => decide (key x = κ)) ++ L.filter fun x => decide (key x ≠ κ)) := by
  rw [pair_app]
  have hx := hs.subset (show x ∈ [x, y] by simp)
  have hy := hs.subset (show y ∈ [x, y] by simp)
  by_cases cx : key x = κ
  · by_cases cy : key y = κ
    · left
      have := hs.filter fun x => decide (key x = κ)
      rwa [List.filter_cons_of_pos (by simp [cx]), List.filter_cons_of_pos (by simp [cy]), List.filter_nil] at this
    · exact .inr (.inl ⟨List.mem_filter.2 ⟨hx, by simp [cx]⟩, List.mem_filter.2 ⟨hy, by simp [cy]⟩⟩)
  · by_cases cy : key y = κ
    · exfalso
      have hm := h.mono.sublist hs
      rw [List.pairwise_cons] at hm
      have h1 := hm.1 y (by simp)
      have h2 := lea_le L ep x hx
      have h3 : y.2 = κ.2 := by rw [← cy]; rfl
      have h4 : x.2 = y.2 := by omega
      rcases hr with hr | hr
      · have := ovl_blk (h.may x hx).1 (h.may y hy).1 hr
        apply cx
        rw [← cy]
        unfold key
        rw [this, h4]
      · exact hr h4
    · right; right
      have := hs.filter fun x => decide (key x ≠ κ)
      rwa [List.filter_cons_of_pos (by simp [cx]), List.filter_cons_of_pos (by simp [cy]), List.filter_nil] at this
/-- The last place of a number among stores, from one on. -/
def lx (W : List Wr) (d : Int) (j : Nat) (a : Int) : Int := if h : j < W.length then lx W d (j + 1) (if W[j].id = d then (j : Int) else a) else a
termination_by W.length - j
theorem lx_at {W : List Wr} {d : Int} {j : Nat} {a : Int} (h : j < W.length) : lx W d j a = lx W d (j + 1) (if W[j].id = d then (j : Int) else a) := by rw [lx, dif_pos h]
theorem lx_end {W : List Wr} {d : Int} {a : Int} : lx W d W.length a = a := by rw [lx, dif_neg (by omega)]
theorem lx_skip (W : List Wr) (d : Int) (j : Nat) (a : Int) (h : ∀ i (hi : i < W.length), j ≤ i → W[i].id ≠ d) : lx W d j a = a := by
  by_cases c : j < W.length
  · rw [lx_at c, if_neg (h j c (Nat.le_refl _)), lx_skip W d (j + 1) a fun i hi hj => h i hi (by omega)]
  · rw [lx, dif_neg c]
termination_by W.length - j
theorem lx_found (W : List Wr) (hn : (W.map Wr.id).Nodup) (p : Nat) (hp : p < W.length) (j : Nat) (hj : j ≤ p) (a : Int) : lx W W[p].id j a = (p : Int) := by
  rw [lx_at (by omega)]
  by_cases c : j = p
  · subst c
    rw [if_pos rfl]
    refine lx_skip W _ _ _ fun i hi hj2 he => ?_
    have := (List.getElem_inj (h₀ := by simpa using hi) (h₁ := by simpa using hp) hn).1 (by simpa using he)
    omega
  · exact lx_found W hn p hp (j + 1) (by omega) _
termination_by p - j
theorem pair_ix {α : Type} {x y : α} : ∀ {l : List α}, [x, y].Sublist l → ∃ p q, ∃ (hp : p < l.length) (hq : q < l.length), p < q ∧ l[p] = x ∧ l[q] = y
  | [], h => by simp at h
  | a :: l, h => by
    rcases List.sublist_cons_iff.1 h with h | ⟨r, hr, h⟩
    · obtain ⟨p, q, hp, hq, h1, h2, h3⟩ := pair_ix h
      exact ⟨p + 1, q + 1, by simpa using hp, by simpa using hq, by omega, by simpa using h2, by simpa using h3⟩
    · simp at hr
      obtain ⟨rfl, rfl⟩ := hr
      obtain ⟨q, hq, h2⟩ := List.mem_iff_getElem.1 (List.singleton_sublist.1 h)
      exact ⟨0, q + 1, by simp, by simpa using hq, by omega, rfl, by simpa using h2⟩
/-- A store that came: raw, how many barriers were ahead of it, its epoch. -/
structure Ka where
  (w : Wr) (age ep : Int)
def Ka.se (k : Ka) : SE := (zw k.w, k.ep)
structure IvK (K : List Ka) (i : Nat) (b ep : Int) : Prop where
  iv : Iv (K.map Ka.se) ep
  ids : K.Pairwise fun x y => x.w.id < y.w.id
  idl : ∀ x ∈ K, x.w.id < i
  age : K.Pairwise fun x y => x.age ≠ y.age → x.ep ≠ y.ep
  agl : ∀ x ∈ K, x.age ≤ b ∧ (x.age < b → x.ep < ep)
  len : K.length ≤ i
theorem IvK.nil : IvK [] 0 0 0 := ⟨Iv.nil, .nil, by simp, .nil, by simp, by simp⟩
theorem IvK.put {K : List Ka} {i : Nat} {b ep : Int} (h : IvK K i b ep) (w : Wr) (hid : w.id = i) (hi : Iv (K.map Ka.se ++ [(zw w, ep)]) ep) : IvK (K ++ [⟨w, b, ep⟩]) (i + 1) b ep := by
  refine ⟨by rw [List.map_append]; exact hi, ?_, ?_, ?_, ?_, by simp; exact h.len⟩
  · rw [List.pairwise_append]
    refine ⟨h.ids, by simp, fun x hx y hy => ?_⟩
    simp at hy; subst hy
    rw [hid]; exact h.idl x hx
  · intro x hx
    rcases List.mem_append.1 hx with hx | hx
    · have := h.idl x hx; omega
    · simp at hx; subst hx; simp only; omega
  · rw [List.pairwise_append]
    refine ⟨h.age, by simp, fun x hx y hy => ?_⟩
    simp at hy; subst hy
    simp only
    intro hne
    have := h.agl x hx
    have := this.2 (by omega)
    omega
  · intro x hx
    rcases List.mem_append.1 hx with hx | hx
    · exact h.agl x hx
    · simp at hx; subst hx; exact ⟨Int.le_refl _, fun hc => by simp only at hc; omega⟩
theorem IvK.next {K : List Ka} {i : Nat} {b ep : Int} (h : IvK K i b ep) : IvK K (i + 1) b ep :=
  ⟨h.iv, h.ids, fun x hx => by have := h.idl x hx; omega, h.age, h.agl, by have := h.len; omega⟩
theorem IvK.bar {K : List Ka} {i : Nat} {b ep ep' : Int} (h : IvK K i b ep) (hi : Iv (K.map Ka.se) ep') (hle : ep ≤ ep') (hlt : (∃ x ∈ K.map Ka.se, x.2 = ep) → ep < ep') : IvK K (i + 1) (b + 1) ep' := by
  refine ⟨hi, h.ids, fun x hx => by have := h.idl x hx; omega, h.age, fun x hx => ?_, by have := h.len; omega⟩
  have h1 := h.agl x hx
  refine ⟨by omega, fun _ => ?_⟩
  by_cases c : x.age < b
  · have := h1.2 c; omega
  · have h2 := (h.iv.le (Ka.se x) (List.mem_map_of_mem hx)).2
    unfold Ka.se at h2
    simp only at h2
    by_cases e : x.ep = ep
    · have := hlt ⟨Ka.se x, List.mem_map_of_mem hx, e⟩; omega
    · omega
end Go.Proofs.Ytaedicechhbhdaa
