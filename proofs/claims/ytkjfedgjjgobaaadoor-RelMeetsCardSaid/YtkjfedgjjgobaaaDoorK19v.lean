/- Layer 19: orders and ways (no claim; lemmas). -/
import Derived.Test.YtkjfedgjjgobaaaDoorK19u
set_option linter.unusedSimpArgs false
set_option linter.unusedVariables false
namespace Go.Proofs.YtkjfedgjjgobaaaDoor
open Go Go.Vm

theorem fitP_iff (n : Nat) (W : Nat → Nat) (l : List Int) : fitP n W l = true ↔ l.length = n ∧ rfit (bitW W) n (fun _ => false) [] l = true := by
  rw [fit_same, Bool.and_eq_true, decide_eq_true_eq]
/-- Where a list fits, nothing leads to itself. -/
theorem fit_acyc (n : Nat) (W : Nat → Nat) (l : List Int) (h : fitP n W l = true) (a : Nat) (ha : a < n) : war (bitW W) n a a = false := by
  unfold fitP at h
  rw [Bool.and_eq_true] at h
  obtain ⟨h1, h2⟩ := h
  cases hf : fitA n (fun _ => 0) 0 l with
  | none => rw [hf] at h2; cases h2
  | some p =>
    rw [hf] at h2
    simp only [List.all_eq_true, decide_eq_true_eq] at h2
    cases hw : war (bitW W) n a a with
    | false => rfl
    | true =>
      have := war_least (bitW W) n (fun x y => p x < p y) (fun x y hx hy hR => by
        have := h2 _ (mem_prs hx hy hR)
        simpa using this) (fun x z y _ _ _ h1 h2 => by omega) n (Nat.le_refl _) a a ha ha hw
      omega
/-- What is told fits. -/
theorem kah_fit (R : Nat → Nat → Bool) (n : Nat) : ∀ (k : Nat) (gone : Nat → Bool) (out o : List Int), kah R n k gone out = some o → (∀ b ∈ out, ∀ x, x < n → R x b.toNat = true → gone x = true) → ∃ rest, o = out ++ rest ∧ rfit R n gone out rest = true
  | 0, gone, out, o, h, _ => ⟨[], by simp only [kah, Option.some.injEq] at h; simp [h], rfl⟩
  | k + 1, gone, out, o, h, hi => by
    unfold kah at h
    split at h
    · cases h
    · rename_i a hf
      have ha : a < n := List.mem_range.1 (List.mem_of_find?_eq_some hf)
      have hm := List.find?_some hf
      unfold may at hm
      rw [Bool.and_eq_true] at hm
      obtain ⟨hg, hall⟩ := hm
      have hg' : gone a = false := by simpa using hg
      have hpre : ∀ x, x < n → R x a = true → gone x = true := fun x hx hR => by
        have := List.all_eq_true.1 hall x (List.mem_range.2 hx)
        rw [hR] at this
        simpa using this
      obtain ⟨rest, h1, h2⟩ := kah_fit R n k _ _ o h (fun b hb x hx hR => by
        rcases List.mem_append.1 hb with hb | hb
        · simp [hi b hb x hx hR]
        · have : b = (a : Int) := by simpa using hb
          subst this
          simp [hpre x hx (by simpa using hR)])
      refine ⟨(a : Int) :: rest, by rw [h1]; simp, ?_⟩
      unfold rfit
      rw [if_pos ⟨by omega, by omega, by simpa using hg'⟩, if_pos]
      · exact h2
      · rw [List.all_eq_true]
        intro b hb
        cases hR : R (a : Int).toNat b.toNat with
        | false => rfl
        | true =>
          rw [Int.toNat_natCast] at hR
          have hgo : gone a = true := by
            rcases List.mem_append.1 hb with hb | hb
            · exact hi b hb a ha hR
            · have : b = (a : Int) := by simpa using hb
              subst this
              exact hpre a ha (by simpa using hR)
          rw [hg'] at hgo; cases hgo
/-- Where nothing leads to itself an order is told. -/
theorem acyc_kah (R : Nat → Nat → Bool) (n : Nat) (hac : ∀ a, a < n → war R n a a = false) : ∀ (k : Nat) (gone : Nat → Bool) (out : List Nat), out.length + k = n → out.Nodup → (∀ x, gone x = true ↔ x ∈ out) → (∀ x ∈ out, x < n) → ∃ o, kah R n k gone (out.map fun x : Nat => (x : Int)) = some o
  | 0, gone, out, _, _, _, _ => ⟨_, rfl⟩
  | k + 1, gone, out, hl, hd, hg, hlt => by
    unfold kah
    cases hf : (List.range n).find? (may R n gone) with
    | some a =>
      have ha : a < n := List.mem_range.1 (List.mem_of_find?_eq_some hf)
      have hm := List.find?_some hf
      unfold may at hm
      rw [Bool.and_eq_true] at hm
      have hg' : gone a = false := by simpa using hm.1
      have hna : a ∉ out := fun h => by rw [(hg a).2 h] at hg'; cases hg'
      obtain ⟨o, ho⟩ := acyc_kah R n hac k (fun x => gone x || decide (x = a)) (out ++ [a]) (by simp; omega) (by
        rw [List.nodup_append]
        refine ⟨hd, by simp, fun x hx y hy e => ?_⟩
        have : y = a := by simpa using hy
        subst this; subst e; exact hna hx) (fun x => by simp [hg x]) (fun x hx => by
        rcases List.mem_append.1 hx with hx | hx
        · exact hlt x hx
        · have : x = a := by simpa using hx
          omega)
      rw [List.map_append] at ho
      exact ⟨o, ho⟩
    | none =>
      exfalso
      -- of each that isn't gone, one ahead isn't
      have hpred : ∀ a, a < n → gone a = false → ∃ b, b < n ∧ gone b = false ∧ R b a = true := by
        intro a ha hga
        have := List.find?_eq_none.1 hf a (List.mem_range.2 ha)
        unfold may at this
        rw [hga] at this
        simp only [Bool.not_false, Bool.true_and, Bool.not_eq_true, List.all_eq_false] at this
        obtain ⟨b, hb, hq⟩ := this
        refine ⟨b, List.mem_range.1 hb, ?_⟩
        cases h1 : gone b <;> cases h2 : R b a <;> simp_all
      have desc : ∀ (m a : Nat), a < n → gone a = false → (List.range n).countP (fun b => war R n b a) ≤ m → False := by
        intro m
        induction m with
        | zero =>
          intro a ha hga hm
          obtain ⟨b, hb, _, hR⟩ := hpred a ha hga
          have := List.countP_eq_zero.1 (Nat.le_zero.1 hm) b (List.mem_range.2 hb)
          exact this (war_sub R b a hR n)
        | succ m ih =>
          intro a ha hga hm
          obtain ⟨b, hb, hgb, hR⟩ := hpred a ha hga
          refine ih b hb hgb ?_
          have hba := war_sub R b a hR n
          have key : ∀ l : List Nat, (l.countP (fun x => war R n x b) + if b ∈ l then 1 else 0) ≤ l.countP (fun x => war R n x a) := by
            intro l
            induction l with
            | nil => simp
            | cons x l ihl =>
              rw [List.countP_cons, List.countP_cons]
              have h1 : war R n x b = true → war R n x a = true := fun h => war_trans R n b x a hb h hba
              by_cases e : b = x
              · subst e
                rw [hac b hb, hba]
                simp only [List.mem_cons, true_or, if_true, Bool.false_eq_true, if_false]
                split at ihl <;> omega
              · have : (b ∈ x :: l) ↔ (b ∈ l) := by simp [e]
                simp only [this]
                generalize (if b ∈ l then (1 : Nat) else 0) = z at *
                cases h2 : war R n x b with
                | true => rw [h1 h2]; simp only [if_true]; omega
                | false => simp only [Bool.false_eq_true, if_false]; split <;> omega
          have := key (List.range n)
          rw [if_pos (List.mem_range.2 hb)] at this
          omega
      -- one isn't gone
      have hex : ∃ a, a < n ∧ gone a = false := by
        apply Classical.byContradiction
        intro hn
        have hall : ∀ a, a < n → a ∈ out := fun a ha => by
          apply Classical.byContradiction
          intro h
          apply hn
          refine ⟨a, ha, ?_⟩
          cases hq : gone a with
          | false => rfl
          | true => exact absurd ((hg a).1 hq) h
        have h1 : (List.range n).length ≤ out.length := List.Nodup.length_le_of_subset List.nodup_range (fun a ha => hall a (List.mem_range.1 ha))
        simp only [List.length_range] at h1
        omega
      obtain ⟨a, ha, hga⟩ := hex
      exact desc _ a ha hga (Nat.le_refl _)
end Go.Proofs.YtkjfedgjjgobaaaDoor
