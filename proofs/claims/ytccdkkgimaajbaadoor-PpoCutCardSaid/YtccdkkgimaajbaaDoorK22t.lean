/- Layer 22: lists that are cut (no claim; lemmas). -/
import Derived.Test.YtccdkkgimaajbaaDoorK22s
set_option linter.unusedSimpArgs false
set_option linter.unusedVariables false
namespace Go.Proofs.YtccdkkgimaajbaaDoor
open Go Go.Vm

theorem any_mem {α : Type} {f g : α → Bool} : ∀ {l : List α}, (∀ a ∈ l, f a = g a) → l.any f = l.any g
  | [], _ => rfl
  | a :: l, h => by rw [List.any_cons, List.any_cons, h a (by simp), any_mem fun b hb => h b (by simp [hb])]
def cutR (R : Nat → List Rt) (n : Nat) (h : Nat) : List Rt := if h = 2 then (R 2).take n else R h
theorem cutR_pre (R : Nat → List Rt) (n h : Nat) : ∃ m, cutR R n h = (R h).take m ∧ m ≤ (R h).length := by
  unfold cutR
  by_cases c : h = 2
  · subst c
    refine ⟨min n (R 2).length, ?_, by omega⟩
    rw [if_pos rfl]
    by_cases d : n ≤ (R 2).length
    · rw [Nat.min_eq_left d]
    · rw [Nat.min_eq_right (by omega), List.take_of_length_le (by omega), List.take_length]
  · exact ⟨(R h).length, by rw [if_neg c, List.take_length], Nat.le_refl _⟩
theorem evH_take (h : Nat) : ∀ (l : List Rt) (m i : Nat), ∃ t, evH h l i = evH h (l.take m) i ++ t
  | [], m, i => ⟨[], by cases m <;> simp [evH]⟩
  | r :: l, 0, i => ⟨evH h (r :: l) i, by simp [evH]⟩
  | r :: l, m + 1, i => by
    obtain ⟨t, ht⟩ := evH_take h l m (i + 1)
    rw [List.take_succ_cons]
    unfold evH
    split
    · exact ⟨t, by rw [ht]; rfl⟩
    · exact ⟨t, ht⟩
theorem evs_cut (R : Nat → List Rt) (n : Nat) : ∃ t, evs R = evs (cutR R n) ++ t := by
  obtain ⟨t, ht⟩ := evH_take 2 (R 2) n 0
  refine ⟨t, ?_⟩
  have e0 : cutR R n 0 = R 0 := by simp [cutR]
  have e1 : cutR R n 1 = R 1 := by simp [cutR]
  have e2 : cutR R n 2 = (R 2).take n := by simp [cutR]
  unfold evs
  rw [e0, e1, e2, ht, List.append_assoc, List.append_assoc]
section
variable {R : Nat → List Rt} (n : Nat) (h5 : ∀ h, h < 3 → (R h).length ≤ 512)
include h5
theorem cut_A {h : Nat} (hh : h < 3) {i k : Nat} (hi : i < (cutR R n h).length) (hk : k < (cutR R n h).length) :
    hasW (cutR R n h).length (fA (cutR R n) h) (i : Int) (k : Int) = hasW (R h).length (fA R h) (i : Int) (k : Int) ∧ hasW (cutR R n h).length (fD (cutR R n) h) (i : Int) (k : Int) = hasW (R h).length (fD R h) (i : Int) (k : Int) ∧ hasW (cutR R n h).length (fC (cutR R n) h) (i : Int) (k : Int) = hasW (R h).length (fC R h) (i : Int) (k : Int) := by
  obtain ⟨m, hm, hml⟩ := cutR_pre R n h
  have h512 := h5 h hh
  have hl : (cutR R n h).length = m := by rw [hm, List.length_take]; omega
  rw [hl] at hi hk
  have hins : insR (cutR R n) h = (insR R h).take m := by unfold insR; rw [hm, List.map_take]
  unfold fA fD fC
  rw [hl, hins, has_aW (by omega) hi hk, has_aW (by omega) hi hk, has_aW (by omega) hi hk, has_aW h512 (by omega) (by omega), has_aW h512 (by omega) (by omega), has_aW h512 (by omega) (by omega), hA_take _ hk, hD_take _ hk, cAt_take _ _ _ (Nat.le_of_lt hk)]
  exact ⟨rfl, rfl, rfl⟩
theorem rul_cut {a b : Nat} (hab : a < b) (hb : b < (evs (cutR R n)).length) (hh : hrt (evs (cutR R n)) a = hrt (evs (cutR R n)) b) (k : Nat) :
    rul (cutR R n) (fA (cutR R n)) (fD (cutR R n)) (fC (cutR R n)) (evs (cutR R n)) k a b = rul R (fA R) (fD R) (fC R) (evs R) k a b := by
  obtain ⟨t, ht⟩ := evs_cut R n
  have ha : a < (evs (cutR R n)).length := by omega
  have ea : (evs R)[a]? = some (evs (cutR R n))[a] := by rw [ht, List.getElem?_append_left ha, List.getElem?_eq_getElem ha]
  have eb : (evs R)[b]? = some (evs (cutR R n))[b] := by rw [ht, List.getElem?_append_left hb, List.getElem?_eq_getElem hb]
  have em : btw (evs R) a b = btw (evs (cutR R n)) a b := by
    unfold btw
    rw [ht, List.take_append_of_le_length (by omega)]
  unfold rul
  rw [ea, eb, em, List.getElem?_eq_getElem ha, List.getElem?_eq_getElem hb]
  simp only
  have hs := evs_sorted (cutR R n)
  rw [hrt_el ha, hrt_el hb] at hh
  -- what stands between is of the same hart
  have hM : ∀ m ∈ btw (evs (cutR R n)) a b, m.hart = ((evs (cutR R n))[a]).hart ∧ m.at' < (cutR R n m.hart).length := by
    intro m hm
    obtain ⟨i, hi, rfl⟩ := List.mem_iff_getElem.1 hm
    have hbl := btw_len (E := evs (cutR R n)) (a := a) (b := b) (by omega)
    have hk : a + 1 + i < (evs (cutR R n)).length := by omega
    rw [btw_el hi hk]
    have l1 := srt2_le hs (a := a) (b := a + 1 + i) (by omega) hk
    have l2 := srt2_le hs (a := a + 1 + i) (b := b) (by omega) hb
    rw [hrt_el ha, hrt_el hk] at l1
    rw [hrt_el hk, hrt_el hb] at l2
    exact ⟨by omega, (evs_ok _ (List.getElem_mem hk)).2⟩
  obtain ⟨x3, xl⟩ := evs_ok _ (List.getElem_mem ha)
  obtain ⟨y3, yl⟩ := evs_ok _ (List.getElem_mem hb)
  generalize (evs (cutR R n))[a] = x at *
  generalize (evs (cutR R n))[b] = y at *
  generalize btw (evs (cutR R n)) a b = M at *
  rw [← hh] at yl
  have hg : ∀ m : Ev, m.hart = x.hart → m.at' < (cutR R n m.hart).length → hgs (cutR R n) (fA (cutR R n)) x m = hgs R (fA R) x m ∧ hgs (cutR R n) (fD (cutR R n)) x m = hgs R (fD R) x m ∧ hgs (cutR R n) (fC (cutR R n)) x m = hgs R (fC R) x m := by
    intro m h1 h2
    rw [h1] at h2
    exact cut_A n h5 x3 xl h2
  have hgy := hg y hh.symm (by rw [← hh]; exact yl)
  have h4 : r4 (cutR R n) x y = r4 R x y := by
    unfold r4
    obtain ⟨m, hm, hml⟩ := cutR_pre R n x.hart
    rw [hm, List.length_take] at yl
    rw [hm, List.take_take, Nat.min_eq_left (by omega)]
  have h12 : r12 (cutR R n) (fA (cutR R n)) (fD (cutR R n)) x y M = r12 R (fA R) (fD R) x y M := by
    unfold r12
    apply any_mem
    intro m hm
    obtain ⟨m1, m2⟩ := hM m hm
    obtain ⟨g1, g2, _⟩ := hg m m1 m2
    rw [g1, g2]
  have h13 : r13 (cutR R n) (fA (cutR R n)) x y = r13 R (fA R) x y := by
    unfold r13
    congr 1
    apply any_mem
    intro k hk
    rw [List.mem_range'] at hk
    obtain ⟨i, hi, rfl⟩ := hk
    exact (cut_A n h5 x3 xl (by omega)).1
  unfold rulE
  rw [h4, h12, h13, hgy.1, hgy.2.1, hgy.2.2]
theorem pr_cut {a b : Nat} (hb : b < (evs (cutR R n)).length) (ha : a < (evs (cutR R n)).length) (k : Nat) :
    pr (evs (cutR R n)) (fun a b => rul (cutR R n) (fA (cutR R n)) (fD (cutR R n)) (fC (cutR R n)) (evs (cutR R n)) k a b) a b = pr (evs R) (fun a b => rul R (fA R) (fD R) (fC R) (evs R) k a b) a b := by
  obtain ⟨t, ht⟩ := evs_cut R n
  have e1 : ∀ c, c < (evs (cutR R n)).length → hrt (evs R) c = hrt (evs (cutR R n)) c := by
    intro c hc
    unfold hrt
    rw [ht, List.getElem?_append_left hc]
  unfold pr
  rw [e1 a ha, e1 b hb]
  by_cases c : a < b
  · by_cases d : hrt (evs (cutR R n)) a = hrt (evs (cutR R n)) b
    · simp only [c, d, decide_true, Bool.true_and]
      exact rul_cut n h5 c hb d k
    · simp only [d, decide_false, Bool.false_and, Bool.and_false]
  · simp only [c, decide_false, Bool.false_and]
end
end Go.Proofs.YtccdkkgimaajbaaDoor
