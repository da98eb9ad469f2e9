/- Layer 19: fitting is the same on both sides (no claim; lemmas). -/
import Derived.Test.YtkjfedgjjgobaaaDoorK19t
set_option linter.unusedSimpArgs false
set_option linter.unusedVariables false
namespace Go.Proofs.YtkjfedgjjgobaaaDoor
open Go Go.Vm

theorem pig : ∀ (n : Nat) (l : List Nat), l.Nodup → (∀ x ∈ l, x < n) → l.length ≤ n
  | 0, l, _, h => by
    cases l with
    | nil => simp
    | cons x l => have := h x (by simp); omega
  | n + 1, l, hd, h => by
    by_cases hm : n ∈ l
    · have h1 := pig n (l.erase n) (hd.erase n) (fun x hx => by
        have h2 := (List.Nodup.mem_erase_iff hd).1 hx
        have := h x h2.2
        have h3 := h2.1
        omega)
      rw [List.length_erase_of_mem hm] at h1
      omega
    · have h1 := pig n l hd (fun x hx => by
        have := h x hx
        have h3 : x ≠ n := fun e => hm (by rw [← e]; exact hx)
        omega)
      omega
theorem mem_prs {n : Nat} {W : Nat → Nat} {a b : Nat} (ha : a < n) (hb : b < n) (h : (W a).testBit b = true) : ((a : Int), (b : Int)) ∈ prs n W 0 := by
  unfold prs rt
  refine List.mem_flatMap.2 ⟨a, List.mem_range'_1.2 (by omega), List.mem_map.2 ⟨(b : Int), List.mem_map.2 ⟨b, List.mem_filter.2 ⟨List.mem_range.2 hb, h⟩, rfl⟩, rfl⟩⟩
theorem prs_mem {n : Nat} {W : Nat → Nat} {q : Int × Int} (h : q ∈ prs n W 0) : ∃ a b : Nat, q = ((a : Int), (b : Int)) ∧ a < n ∧ b < n ∧ (W a).testBit b = true := by
  unfold prs rt at h
  obtain ⟨a, ha, h⟩ := List.mem_flatMap.1 h
  obtain ⟨c, hc, rfl⟩ := List.mem_map.1 h
  obtain ⟨b, hb, rfl⟩ := List.mem_map.1 hc
  have h1 := List.mem_filter.1 hb
  have h2 := List.mem_range'_1.1 ha
  exact ⟨a, b, rfl, by omega, List.mem_range.1 h1.1, h1.2⟩
/-- No thing stands behind one that it is to be ahead of. -/
def noBack (R : Nat → Nat → Bool) (L : List Int) (s : Nat) : Prop := ∀ i k x y, s ≤ i → k ≤ i → L[i]? = some x → L[k]? = some y → R x.toNat y.toNat = false
theorem fit_gen (R : Nat → Nat → Bool) (n : Nat) : ∀ (l : List Int) (pre : List Int) (h : Nat → Int) (g : Nat → Bool), (∀ b, g b = decide (0 < h b)) → (∀ (k : Nat) x, pre[k]? = some x → 0 ≤ x ∧ x < n ∧ h x.toNat = (k : Int) + 1) →
    (fitA n h pre.length l = none → rfit R n g pre l = false) ∧
    (∀ h', fitA n h pre.length l = some h' → (rfit R n g pre l = true ↔ noBack R (pre ++ l) pre.length) ∧ ∀ (k : Nat) x, (pre ++ l)[k]? = some x → 0 ≤ x ∧ x < n ∧ h' x.toNat = (k : Int) + 1)
  | [], pre, h, g, hg, hp => by
    refine ⟨fun hc => by simp [fitA] at hc, fun h' hc => ?_⟩
    simp only [fitA, Option.some.injEq] at hc
    subst hc
    rw [List.append_nil]
    refine ⟨⟨fun _ i k x y hi hk hx hy => ?_, fun _ => rfl⟩, hp⟩
    have := (List.getElem?_eq_some_iff.1 hx).1
    omega
  | a :: l, pre, h, g, hg, hp => by
    unfold fitA rfit
    have hga : (g a.toNat = false) ↔ h a.toNat ≤ 0 := by
      rw [hg]
      simp
    by_cases hc : 0 ≤ a ∧ a < n ∧ h a.toNat ≤ 0
    · have hc' : 0 ≤ a ∧ a < n ∧ g a.toNat = false := ⟨hc.1, hc.2.1, hga.2 hc.2.2⟩
      rw [if_pos hc, if_pos hc']
      have hpl : (pre ++ [a]).length = pre.length + 1 := by simp
      have hnew : ∀ (k : Nat) x, (pre ++ [a])[k]? = some x → 0 ≤ x ∧ x < n ∧ (if x.toNat = a.toNat then (pre.length : Int) + 1 else h x.toNat) = (k : Int) + 1 := by
        intro k x hk
        by_cases ck : k < pre.length
        · rw [List.getElem?_append_left ck] at hk
          obtain ⟨h1, h2, h3⟩ := hp k x hk
          have hne : ¬ x.toNat = a.toNat := fun e => by rw [e] at h3; omega
          rw [if_neg hne]
          exact ⟨h1, h2, h3⟩
        · rw [List.getElem?_append_right (by omega)] at hk
          have hk0 : k - pre.length = 0 := by
            cases hq : k - pre.length with
            | zero => rfl
            | succ m => rw [hq] at hk; simp at hk
          rw [hk0] at hk
          simp only [List.getElem?_cons_zero, Option.some.injEq] at hk
          subst hk
          rw [if_pos rfl]
          exact ⟨hc.1, hc.2.1, by omega⟩
      obtain ⟨i1, i2⟩ := fit_gen R n l (pre ++ [a]) (fun b => if b = a.toNat then (pre.length : Int) + 1 else h b) (goneA g a.toNat) (fun b => by
        unfold goneA
        by_cases e : b = a.toNat
        · simp [e]
        · simp [e, hg b]) hnew
      rw [hpl] at i1 i2
      have happ : pre ++ a :: l = pre ++ [a] ++ l := by simp
      refine ⟨fun hn => ?_, fun h' hs => ?_⟩
      · rw [i1 hn]; simp
      · obtain ⟨j1, j2⟩ := i2 h' hs
        rw [happ]
        refine ⟨?_, j2⟩
        have hat : (pre ++ [a] ++ l)[pre.length]? = some a := by
          rw [List.getElem?_append_left (by simp), List.getElem?_append_right (by omega)]; simp
        constructor
        · intro hr
          split at hr
          · rename_i hall
            have hnb := j1.1 hr
            intro i k x y hi hk hx hy
            by_cases ci : i = pre.length
            · subst ci
              rw [hat] at hx
              cases hx
              have hky : (pre ++ [a])[k]? = some y := by
                rw [List.getElem?_append_left (by simp; omega)] at hy; exact hy
              have := List.all_eq_true.1 hall y (List.mem_of_getElem? hky)
              simpa using this
            · exact hnb i k x y (by omega) hk hx hy
          · cases hr
        · intro hnb
          rw [if_pos]
          · exact j1.2 fun i k x y hi hk hx hy => hnb i k x y (by omega) hk hx hy
          · rw [List.all_eq_true]
            intro y hy
            obtain ⟨k, hk⟩ := List.getElem?_of_mem hy
            have hkl := (List.getElem?_eq_some_iff.1 hk).1
            have := hnb pre.length k a y (Nat.le_refl _) (by omega) hat (by rw [List.getElem?_append_left hkl]; exact hk)
            simp [this]
    · have hc' : ¬ (0 ≤ a ∧ a < n ∧ g a.toNat = false) := fun q => hc ⟨q.1, q.2.1, hga.1 q.2.2⟩
      rw [if_neg hc, if_neg hc']
      exact ⟨fun _ => rfl, fun h' hs => by cases hs⟩
theorem fit_same (n : Nat) (W : Nat → Nat) (l : List Int) : fitP n W l = (decide (l.length = n) && rfit (bitW W) n (fun _ => false) [] l) := by
  unfold fitP
  by_cases c : l.length = n
  · obtain ⟨g1, g2⟩ := fit_gen (bitW W) n l [] (fun _ => 0) (fun _ => false) (fun b => by simp) (fun k x hk => by simp at hk)
    rw [List.nil_append] at g2
    simp only [c, decide_true, Bool.true_and]
    cases hf : fitA n (fun _ => 0) 0 l with
    | none => exact (g1 hf).symm
    | some h =>
      obtain ⟨g3, g4⟩ := g2 h hf
      simp only
      rw [Bool.eq_iff_iff, g3, List.all_eq_true]
      -- all things are there
      have hnd : (l.map Int.toNat).Nodup := by
        rw [List.nodup_iff_pairwise_ne, List.pairwise_iff_getElem]
        intro i j hi hj hij e
        simp only [List.length_map] at hi hj
        simp only [List.getElem_map] at e
        have h1 := g4 i l[i] (List.getElem?_eq_getElem hi)
        have h2 := g4 j l[j] (List.getElem?_eq_getElem hj)
        rw [e] at h1
        omega
      have hall : ∀ a, a < n → ∃ k : Nat, l[k]? = some (a : Int) := by
        intro a ha
        have hm : a ∈ l.map Int.toNat := by
          apply Classical.byContradiction
          intro hm
          have := pig n (a :: l.map Int.toNat) (List.nodup_cons.2 ⟨hm, hnd⟩) (fun x hx => by
            rcases List.mem_cons.1 hx with rfl | hx
            · exact ha
            · obtain ⟨y, hy, rfl⟩ := List.mem_map.1 hx
              obtain ⟨k, hk⟩ := List.getElem?_of_mem hy
              have := g4 k y hk
              omega)
          simp only [List.length_cons, List.length_map] at this
          omega
        obtain ⟨y, hy, hya⟩ := List.mem_map.1 hm
        obtain ⟨k, hk⟩ := List.getElem?_of_mem hy
        have := g4 k y hk
        exact ⟨k, by rw [hk]; congr 1; omega⟩
      constructor
      · intro hp i k x y _ hki hx hy
        have h1 := g4 i x hx
        have h2 := g4 k y hy
        cases hR : bitW W x.toNat y.toNat with
        | false => rfl
        | true =>
          have := hp _ (mem_prs (n := n) (by omega) (by omega) hR)
          simp only [Int.toNat_natCast, decide_eq_true_eq] at this
          omega
      · intro hnb q hq
        obtain ⟨a, b, rfl, ha, hb, hbit⟩ := prs_mem hq
        obtain ⟨i, hi⟩ := hall a ha
        obtain ⟨k, hk⟩ := hall b hb
        have h1 := g4 i _ hi
        have h2 := g4 k _ hk
        simp only [Int.toNat_natCast] at h1 h2
        simp only [Int.toNat_natCast, decide_eq_true_eq]
        apply Classical.byContradiction
        intro hc
        have := hnb i k _ _ (Nat.zero_le _) (by omega) hi hk
        simp only [Int.toNat_natCast] at this
        have hb2 : bitW W a b = true := hbit
        rw [hb2] at this
        cases this
  · simp [c]
end Go.Proofs.YtkjfedgjjgobaaaDoor
