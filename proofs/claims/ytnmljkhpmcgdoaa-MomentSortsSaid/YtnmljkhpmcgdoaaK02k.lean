/- Orders of places (no claim; plain lemmas). -/
import Derived.Test.YtnmljkhpmcgdoaaK02b
set_option linter.unusedSimpArgs false
set_option linter.unusedVariables false
namespace Go.Proofs.Ytnmljkhpmcgdoaa
open Go Go.Vm

/-- Two rising lists of the same things are one. -/
theorem sorted_eq {lt : Nat → Nat → Prop} (irr : ∀ a, ¬ lt a a) (tr : ∀ a b c, lt a b → lt b c → lt a c) : ∀ (x y : List Nat), x.Pairwise lt → y.Pairwise lt → (∀ a, a ∈ x ↔ a ∈ y) → x = y
  | [], y, _, _, h => by
    cases y with
    | nil => rfl
    | cons b y => have := (h b).2 (by simp); simp at this
  | a :: x, [], _, _, h => by have := (h a).1 (by simp); simp at this
  | a :: x, b :: y, hx, hy, h => by
    rw [List.pairwise_cons] at hx hy
    have e : a = b := by
      rcases List.mem_cons.1 ((h a).1 (by simp)) with e | ha
      · exact e
      · rcases List.mem_cons.1 ((h b).2 (by simp)) with e | hb
        · exact e.symm
        · exact absurd (tr _ _ _ (hx.1 b hb) (hy.1 a ha)) (irr a)
    subst e
    congr 1
    refine sorted_eq irr tr x y hx.2 hy.2 fun c => ⟨fun hc => ?_, fun hc => ?_⟩
    · rcases List.mem_cons.1 ((h c).1 (List.mem_cons_of_mem _ hc)) with e | h'
      · exact absurd (hx.1 c hc) (by rw [e]; exact irr a)
      · exact h'
    · rcases List.mem_cons.1 ((h c).2 (List.mem_cons_of_mem _ hc)) with e | h'
      · exact absurd (hy.1 c hc) (by rw [e]; exact irr a)
      · exact h'

/-- Place `i` stands ahead of place `j`. -/
def ah (l : List Nat) (i j : Nat) : Prop := rk (l.getD i 0) < rk (l.getD j 0) ∨ (rk (l.getD i 0) = rk (l.getD j 0) ∧ i < j)
theorem ah_irr (l : List Nat) (a : Nat) : ¬ ah l a a := by unfold ah; omega
theorem ah_tr (l : List Nat) (a b c : Nat) (h : ah l a b) (h' : ah l b c) : ah l a c := by unfold ah at *; omega
theorem ah_tot (l : List Nat) (a b : Nat) (h : ¬ ah l a b) (hne : a ≠ b) : ah l b a := by unfold ah at *; omega

/-- What is in order so far, of all places ahead of one. -/
def Srt (l : List Nat) (n : Nat) (o : List Nat) : Prop := o.Pairwise (ah l) ∧ ∀ a, a ∈ o ↔ a < n
theorem Srt.ins {l : List Nat} {n : Nat} {o : List Nat} (h : Srt l n o) (k : Nat) (hk : k ≤ o.length) (h1 : ∀ a ∈ o.drop k, rk (l.getD n 0) < rk (l.getD a 0)) (h2 : k = 0 ∨ ∃ b, o[k - 1]? = some b ∧ ¬ rk (l.getD n 0) < rk (l.getD b 0)) :
    Srt l (n + 1) (o.take k ++ n :: o.drop k) := by
  obtain ⟨hp, hm⟩ := h
  have hs : o.take k ++ o.drop k = o := List.take_append_drop k o
  constructor
  · have hp' := hp
    rw [← hs, List.pairwise_append] at hp'
    obtain ⟨p1, p2, p3⟩ := hp'
    rw [List.pairwise_append]
    refine ⟨p1, List.pairwise_cons.2 ⟨fun a ha => .inl (h1 a ha), p2⟩, fun a ha b hb => ?_⟩
    rcases List.mem_cons.1 hb with rfl | hb
    · have hab : a < b := (hm a).1 (List.mem_of_mem_take ha)
      rcases h2 with rfl | ⟨c, hc, hcn⟩
      · simp at ha
      · have hck : k - 1 < o.length := (List.getElem?_eq_some_iff.1 hc).1
        have hce := (List.getElem?_eq_some_iff.1 hc).2
        obtain ⟨j, hj, hja⟩ := List.mem_iff_getElem.1 ha
        have hj' : j < k := by simp at hj; omega
        rw [List.getElem_take] at hja
        have hac : a = c ∨ ah l a c := by
          by_cases e : j = k - 1
          · left; subst e; rw [← hja, hce]
          · right
            have := List.pairwise_iff_getElem.1 hp j (k - 1) (by omega) hck (by omega)
            rwa [hja, hce] at this
        unfold ah at *
        rcases hac with rfl | hac <;> omega
    · exact p3 a ha b hb
  · intro a
    rw [List.mem_append, List.mem_cons]
    have : a ∈ o ↔ a ∈ o.take k ∨ a ∈ o.drop k := by conv => lhs; rw [← hs, List.mem_append]
    have h3 := hm a
    constructor
    · rintro (h | rfl | h)
      · have := h3.1 (this.2 (.inl h)); omega
      · omega
      · have := h3.1 (this.2 (.inr h)); omega
    · intro h
      by_cases e : a = n
      · exact .inr (.inl e)
      · rcases this.1 (h3.2 (by omega)) with h | h
        · exact .inl h
        · exact .inr (.inr h)
theorem Srt.uniq {l : List Nat} {n : Nat} {o o' : List Nat} (h : Srt l n o) (h' : Srt l n o') : o = o' :=
  sorted_eq (ah_irr l) (ah_tr l) _ _ h.1 h'.1 fun a => by rw [h.2, h'.2]

/-- What was chosen so far: in order, and ahead of all that were not. -/
structure Sel (l : List Nat) (o : List Nat) (u : List Bool) : Prop where
  len : u.length = l.length
  p : o.Pairwise (ah l)
  lt : ∀ a ∈ o, a < l.length
  us : ∀ a, a < l.length → (u[a]? = some true ↔ a ∈ o)
  fr : ∀ a ∈ o, ∀ b, b < l.length → b ∉ o → ah l a b
/-- What is the best so far. -/
def Bst (l : List Nat) (u : List Bool) (n : Nat) (b : Int) : Prop :=
  (b = -1 ∧ ∀ j, j < n → u[j]? = some true) ∨ (∃ k : Nat, b = (k : Int) ∧ k < n ∧ u[k]? = some false ∧ ∀ j, j < n → u[j]? = some false → j ≠ k → ah l k j)
theorem Sel.init (l : List Nat) : Sel l [] (List.replicate l.length false) := ⟨by simp, .nil, by simp, fun a ha => by simp [List.getElem?_replicate, ha], by simp⟩
theorem Sel.step {l : List Nat} {o : List Nat} {u : List Bool} (h : Sel l o u) {k : Nat} (hk : k < l.length) (hu : u[k]? = some false) (hb : ∀ j, j < l.length → u[j]? = some false → j ≠ k → ah l k j) : Sel l (o ++ [k]) (u.set k true) := by
  have hlen := h.len
  have hko : k ∉ o := fun hm => by have := (h.us k hk).2 hm; rw [hu] at this; cases this
  have fls : ∀ j, j < l.length → j ∉ o → u[j]? = some false := by
    intro j hj hn
    have h1 := h.us j hj
    rw [List.getElem?_eq_getElem (by omega)] at h1 ⊢
    cases hq : u[j] with
    | false => rfl
    | true => rw [hq] at h1; exact absurd (h1.1 rfl) hn
  refine ⟨by simpa using hlen, ?_, ?_, ?_, ?_⟩
  · rw [List.pairwise_append]
    refine ⟨h.p, by simp, fun a ha b hb' => ?_⟩
    simp at hb'; subst hb'
    exact h.fr a ha b hk hko
  · intro a ha
    rcases List.mem_append.1 ha with h' | h'
    · exact h.lt a h'
    · simp at h'; omega
  · intro a ha
    have h1 := h.us a ha
    rw [List.mem_append]
    by_cases e : k = a
    · subst e
      rw [List.getElem?_set_self (by omega)]
      simp
    · rw [List.getElem?_set_ne e, h1]
      simp
      omega
  · intro a ha b hb' hn
    rw [List.mem_append] at hn
    simp only [List.mem_singleton, not_or] at hn
    rcases List.mem_append.1 ha with h' | h'
    · exact h.fr a h' b hb' hn.1
    · simp at h'; subst h'
      exact hb b hb' (fls b hb' hn.1) hn.2
theorem Sel.done {l : List Nat} {o : List Nat} {u : List Bool} (h : Sel l o u) (hu : ∀ j, j < l.length → u[j]? = some true) : Srt l l.length o :=
  ⟨h.p, fun a => ⟨h.lt a, fun ha => (h.us a ha).1 (hu a ha)⟩⟩
theorem Sel.cnt {l : List Nat} {o : List Nat} {u : List Bool} (h : Sel l o u) : o.length ≤ l.length := by
  have nd : o.Nodup := h.p.imp fun {a b} hab e => by subst e; exact ah_irr l a hab
  have : o.length ≤ (List.range l.length).length := nd.length_le_of_subset fun a ha => by simpa using h.lt a ha
  simpa using this
theorem Bst.zero (l : List Nat) (u : List Bool) : Bst l u 0 (-1) := .inl ⟨rfl, fun j h => by omega⟩
theorem Bst.used {l : List Nat} {u : List Bool} {n : Nat} {b : Int} (h : Bst l u n b) (hu : u[n]? = some true) : Bst l u (n + 1) b := by
  rcases h with ⟨rfl, h⟩ | ⟨k, rfl, h1, h2, h3⟩
  · refine .inl ⟨rfl, fun j hj => ?_⟩
    by_cases e : j = n
    · subst e; exact hu
    · exact h j (by omega)
  · refine .inr ⟨k, rfl, by omega, h2, fun j hj hf hn => ?_⟩
    by_cases e : j = n
    · subst e; rw [hu] at hf; cases hf
    · exact h3 j (by omega) hf hn
theorem Bst.first {l : List Nat} {u : List Bool} {n : Nat} (h : Bst l u n (-1)) (hu : u[n]? = some false) : Bst l u (n + 1) (n : Int) := by
  rcases h with ⟨_, h⟩ | ⟨k, e, _⟩
  · refine .inr ⟨n, rfl, by omega, hu, fun j hj hf hn => ?_⟩
    have := h j (by omega); rw [hf] at this; cases this
  · omega
theorem Bst.less {l : List Nat} {u : List Bool} {n k : Nat} (h : Bst l u n (k : Int)) (hu : u[n]? = some false) (hl : rk (l.getD n 0) < rk (l.getD k 0)) : Bst l u (n + 1) (n : Int) := by
  rcases h with ⟨e, h⟩ | ⟨k', e, h1, h2, h3⟩
  · omega
  · obtain rfl : k = k' := by omega
    refine .inr ⟨n, rfl, by omega, hu, fun j hj hf hn => ?_⟩
    by_cases e : j = k
    · subst e; exact .inl hl
    · have := h3 j (by omega) hf e
      unfold ah at *; omega
theorem Bst.keep {l : List Nat} {u : List Bool} {n k : Nat} (h : Bst l u n (k : Int)) (hl : ¬ rk (l.getD n 0) < rk (l.getD k 0)) : Bst l u (n + 1) (k : Int) := by
  rcases h with ⟨e, h⟩ | ⟨k', e, h1, h2, h3⟩
  · omega
  · obtain rfl : k = k' := by omega
    refine .inr ⟨k, rfl, by omega, h2, fun j hj hf hn => ?_⟩
    by_cases e : j = n
    · subst e; unfold ah; omega
    · exact h3 j (by omega) hf hn
end Go.Proofs.Ytnmljkhpmcgdoaa
