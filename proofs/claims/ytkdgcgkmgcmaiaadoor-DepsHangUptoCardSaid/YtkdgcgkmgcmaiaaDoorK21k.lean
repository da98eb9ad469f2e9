/- Layer 21: plain facts of what hangs on what (no claim; lemmas). -/
import Derived.Test.YtkdgcgkmgcmaiaaDoorK21j
set_option linter.unusedSimpArgs false
set_option linter.unusedVariables false
namespace Go.Proofs.YtkdgcgkmgcmaiaaDoor
open Go Go.Vm

theorem aW_bit (D : Nat → Nat) (a b : Nat) (ha : a < 512) : ∀ i, (aW D i a).testBit b = (decide (b < i) && (D b).testBit a)
  | 0 => by simp [aW]
  | i + 1 => by
    have ih := aW_bit D a b ha i
    simp only [aW, addL, mem_sb, ha, true_and]
    by_cases hb : b = i
    · subst hb
      cases h : (D b).testBit a with
      | true => simp [h]
      | false => simp [h, ih]
    · have e : (b < i + 1) ↔ (b < i) := by omega
      cases h : (D i).testBit a with
      | true =>
        have : ¬ i = b := fun e => hb e.symm
        simp [h, ih, e, Nat.testBit_or, Nat.testBit_two_pow, this]
      | false => simp [h, ih, e]
theorem ofF_bit (S : Nat → Nat) (a : Nat) : ∀ (q : List Int) (W : Nat), (ofF S q W).testBit a = (W.testBit a || q.any fun r => decide (0 < r ∧ r < 32) && (S r.toNat).testBit a)
  | [], W => by simp [ofF]
  | r :: q, W => by
    have ih := ofF_bit S a q (if 0 < r ∧ r < 32 then W ||| S r.toNat else W)
    have e : ofF S (r :: q) W = ofF S q (if 0 < r ∧ r < 32 then W ||| S r.toNat else W) := rfl
    rw [e, ih, List.any_cons]
    by_cases c : 0 < r ∧ r < 32
    · simp [c, Nat.testBit_or, Bool.or_assoc]
    · rw [if_neg c]
      simp only [c, decide_false, Bool.false_and, Bool.false_or]
theorem ofS_bit (S : Nat → Nat) (a : Nat) (q : List Int) : (ofS S q).testBit a = q.any fun r => decide (0 < r ∧ r < 32) && (S r.toNat).testBit a := by
  have := ofF_bit S a q 0
  rwa [Nat.zero_testBit, Bool.false_or] at this
/-- All roots give their own. -/
def gvS (l : List In) (S : Nat → Nat) : Prop := ∀ r a, r < 32 → (S r).testBit a = true → ∃ y, l[a]? = some y ∧ giv y.op = true
theorem gvS_of {l : List In} {S : Nat → Nat} (h : gvS l S) {q : List Int} {a : Nat} (hb : (ofS S q).testBit a = true) : ∃ y, l[a]? = some y ∧ giv y.op = true := by
  rw [ofS_bit, List.any_eq_true] at hb
  obtain ⟨r, _, h2⟩ := hb
  simp only [Bool.and_eq_true, decide_eq_true_eq] at h2
  exact h r.toNat a (by omega) h2.2
theorem rAt_gv (l : List In) : ∀ i, gvS l (rAt l i)
  | 0 => fun r a _ hb => by simp [rAt] at hb
  | i + 1 => by
    have ih := rAt_gv l i
    cases hy : l[i]? with
    | none => simpa [rAt, hy] using ih
    | some y =>
      simp only [rAt, hy]
      unfold bhd
      split
      · exact ih
      · intro r a hr hb
        unfold up at hb
        split at hb
        · unfold gvn at hb
          split at hb
          · rename_i hg
            rw [Nat.testBit_two_pow] at hb
            have : i = a := by simpa using hb
            subst this
            exact ⟨y, hy, hg⟩
          · split at hb
            · exact gvS_of ih hb
            · simp at hb
        · exact ih r a hr hb
theorem hA_gv {l : List In} {b a : Nat} (h : (hA l b).testBit a = true) : ∃ y, l[a]? = some y ∧ giv y.op = true := by
  unfold hA at h
  cases hy : l[b]? with
  | none => simp [hy] at h
  | some y =>
    simp only [hy, dA] at h
    split at h
    · exact gvS_of (rAt_gv l b) h
    · simp at h
theorem hD_gv {l : List In} {b a : Nat} (h : (hD l b).testBit a = true) : ∃ y, l[a]? = some y ∧ giv y.op = true := by
  unfold hD at h
  cases hy : l[b]? with
  | none => simp [hy] at h
  | some y =>
    simp only [hy, dD] at h
    split at h
    · exact gvS_of (rAt_gv l b) h
    · simp at h
theorem cAt_gv {l : List In} {a : Nat} : ∀ {b : Nat}, (cAt l b).testBit a = true → ∃ y, l[a]? = some y ∧ giv y.op = true
  | 0, h => by simp [cAt] at h
  | b + 1, h => by
    cases hy : l[b]? with
    | none => exact cAt_gv (b := b) (by simpa [cAt, hy] using h)
    | some y =>
      simp only [cAt, hy, Nat.testBit_or, Bool.or_eq_true] at h
      rcases h with h | h
      · exact cAt_gv h
      · split at h
        · exact gvS_of (rAt_gv l b) h
        · simp at h
theorem hA_take (l : List In) {k b : Nat} (h : b < k) : hA (l.take k) b = hA l b := by
  have e : (l.take k)[b]? = l[b]? := List.getElem?_take_of_lt h
  simp only [hA, e, rAt_take l k b (by omega)]
theorem hD_take (l : List In) {k b : Nat} (h : b < k) : hD (l.take k) b = hD l b := by
  have e : (l.take k)[b]? = l[b]? := List.getElem?_take_of_lt h
  simp only [hD, e, rAt_take l k b (by omega)]
theorem cAt_take (l : List In) (k : Nat) : ∀ b, b ≤ k → cAt (l.take k) b = cAt l b
  | 0, _ => rfl
  | b + 1, h => by
    have e : (l.take k)[b]? = l[b]? := List.getElem?_take_of_lt (by omega)
    simp only [cAt, e, cAt_take l k b (by omega), rAt_take l k b (by omega)]
theorem has_aW {D : Nat → Nat} {n a b : Nat} (hn : n ≤ 512) (ha : a < n) (hb : b < n) : hasW n (aW D n) (a : Int) (b : Int) = (D b).testBit a := by
  unfold hasW
  have h : (0 ≤ (a : Int) ∧ (a : Int) < n ∧ 0 ≤ (b : Int) ∧ (b : Int) < n) := by omega
  rw [Int.toNat_natCast, Int.toNat_natCast, aW_bit D a b (by omega)]
  simp [h, hb]
/-- A pair of what hangs: the first one gives, and stands ahead. -/
theorem prs_aW {D : Nat → Nat} {n : Nat} {l : List In} (hn : n ≤ 512) (hD : ∀ b, D b < 2 ^ b) (hg : ∀ a b, (D b).testBit a = true → ∃ y, l[a]? = some y ∧ giv y.op = true) (q : Int × Int) (hq : q ∈ prs n (aW D n) 0) :
    ∃ (a b : Nat) (y : In), q = ((a : Int), (b : Int)) ∧ a < b ∧ b < n ∧ l[a]? = some y ∧ giv y.op = true := by
  unfold prs at hq
  obtain ⟨a, ha, hq⟩ := List.mem_flatMap.1 hq
  have ha' := List.mem_range'.1 ha
  obtain ⟨z, hz, rfl⟩ := List.mem_map.1 hq
  rw [rt_nL] at hz
  obtain ⟨b, hb, rfl⟩ := List.mem_map.1 hz
  rw [mem_sb] at hb
  obtain ⟨i, hi, rfl⟩ := ha'
  rw [aW_bit D _ b (by omega)] at hb
  simp only [Bool.and_eq_true, decide_eq_true_eq] at hb
  obtain ⟨y, h1, h2⟩ := hg _ _ hb.2.2
  exact ⟨_, b, y, rfl, lt_two (hD b) hb.2.2, hb.1, h1, h2⟩
theorem giv_srt {op : Int} (h : giv op = true) : srtO op = 4 ∨ 10 ≤ srtO op := by
  unfold giv at h
  simp only [Bool.or_eq_true, beq_iff_eq] at h
  omega
end Go.Proofs.YtkdgcgkmgcmaiaaDoor
