/- Layer 22: plain facts (no claim; lemmas). -/
import Derived.Test.YtccdkkgimaajbaaDoorK22r
set_option linter.unusedSimpArgs false
set_option linter.unusedVariables false
namespace Go.Proofs.YtccdkkgimaajbaaDoor
open Go Go.Vm

theorem aW_bit (D : Nat → Nat) (a b : Nat) (ha : a < 512) : ∀ i, (aW D i a).testBit b = (decide (b < i) && (D b).testBit a)
  | 0 => by simp [aW]
  | i + 1 => by
    have ih := aW_bit D a b ha i
    simp only [aW, addL, mem_sb, ha, true_and]
    by_cases hb : b = i
    · subst hb
      cases h : (D b).testBit a with
      | true => simp [h]
      | false => simp [h, ih]
    · have e : (b < i + 1) ↔ (b < i) := by omega
      cases h : (D i).testBit a with
      | true =>
        have : ¬ i = b := fun e => hb e.symm
        simp [h, ih, e, Nat.testBit_or, Nat.testBit_two_pow, this]
      | false => simp [h, ih, e]
theorem rAt_take (l : List In) (k : Nat) : ∀ i, i ≤ k → rAt (l.take k) i = rAt l i
  | 0, _ => rfl
  | i + 1, h => by
    have e : (l.take k)[i]? = l[i]? := List.getElem?_take_of_lt (by omega)
    simp only [rAt, e, rAt_take l k i (by omega)]
theorem hA_take (l : List In) {k b : Nat} (h : b < k) : hA (l.take k) b = hA l b := by
  have e : (l.take k)[b]? = l[b]? := List.getElem?_take_of_lt h
  simp only [hA, e, rAt_take l k b (by omega)]
theorem hD_take (l : List In) {k b : Nat} (h : b < k) : hD (l.take k) b = hD l b := by
  have e : (l.take k)[b]? = l[b]? := List.getElem?_take_of_lt h
  simp only [hD, e, rAt_take l k b (by omega)]
theorem cAt_take (l : List In) (k : Nat) : ∀ b, b ≤ k → cAt (l.take k) b = cAt l b
  | 0, _ => rfl
  | b + 1, h => by
    have e : (l.take k)[b]? = l[b]? := List.getElem?_take_of_lt (by omega)
    simp only [cAt, e, cAt_take l k b (by omega), rAt_take l k b (by omega)]
theorem has_aW {D : Nat → Nat} {n a b : Nat} (hn : n ≤ 512) (ha : a < n) (hb : b < n) : hasW n (aW D n) (a : Int) (b : Int) = (D b).testBit a := by
  unfold hasW
  have h : (0 ≤ (a : Int) ∧ (a : Int) < n ∧ 0 ≤ (b : Int) ∧ (b : Int) < n) := by omega
  rw [Int.toNat_natCast, Int.toNat_natCast, aW_bit D a b (by omega)]
  simp [h, hb]

/-! ### lists that go side by side -/
def upL {α β : Type} (P : α → β → Prop) : List α → List β → Prop
  | [], [] => True
  | a :: l, b :: m => P a b ∧ upL P l m
  | _, _ => False
theorem upL_len {α β : Type} {P : α → β → Prop} : ∀ {l : List α} {m : List β}, upL P l m → m.length = l.length
  | [], [], _ => rfl
  | _ :: _, _ :: _, h => by simp [upL_len h.2]
  | [], _ :: _, h => h.elim
  | _ :: _, [], h => h.elim
theorem upL_get {α β : Type} {P : α → β → Prop} : ∀ {l : List α} {m : List β}, upL P l m → ∀ {i : Nat} {a : α}, l[i]? = some a → ∃ b, m[i]? = some b ∧ P a b
  | [], [], _, i, a, h => by simp at h
  | x :: l, y :: m, h, 0, a, e => by simp at e; subst e; exact ⟨y, rfl, h.1⟩
  | x :: l, y :: m, h, i + 1, a, e => by
    rw [List.getElem?_cons_succ] at e
    obtain ⟨b, h1, h2⟩ := upL_get h.2 e
    exact ⟨b, by rw [List.getElem?_cons_succ]; exact h1, h2⟩
  | [], _ :: _, h, _, _, _ => h.elim
  | _ :: _, [], h, _, _, _ => h.elim
theorem upL_app {α β : Type} {P : α → β → Prop} : ∀ {l l2 : List α} {m m2 : List β}, upL P l m → upL P l2 m2 → upL P (l ++ l2) (m ++ m2)
  | [], _, [], _, _, h => h
  | _ :: _, _, _ :: _, _, h, h2 => ⟨h.1, upL_app h.2 h2⟩
  | [], _, _ :: _, _, h, _ => h.elim
  | _ :: _, _, [], _, h, _ => h.elim
theorem upL_take {α β : Type} {P : α → β → Prop} : ∀ {l : List α} {m : List β} (k : Nat), upL P l m → upL P (l.take k) (m.take k)
  | [], [], k, _ => by cases k <;> trivial
  | _ :: _, _ :: _, 0, _ => trivial
  | _ :: _, _ :: _, k + 1, h => ⟨h.1, upL_take k h.2⟩
  | [], _ :: _, _, h => h.elim
  | _ :: _, [], _, h => h.elim
theorem upL_drop {α β : Type} {P : α → β → Prop} : ∀ {l : List α} {m : List β} (k : Nat), upL P l m → upL P (l.drop k) (m.drop k)
  | [], [], k, _ => by cases k <;> trivial
  | _ :: _, _ :: _, 0, h => h
  | _ :: _, _ :: _, k + 1, h => upL_drop k h.2
  | [], _ :: _, _, h => h.elim
  | _ :: _, [], _, h => h.elim
theorem upL_any {α β : Type} {P : α → β → Prop} {f : α → Bool} {g : β → Bool} (hf : ∀ a b, P a b → f a = true → g b = true) : ∀ {l : List α} {m : List β}, upL P l m → l.any f = true → m.any g = true
  | [], [], _, h => by simp at h
  | a :: l, b :: m, h, e => by
    rw [List.any_cons, Bool.or_eq_true] at e ⊢
    rcases e with e | e
    · exact .inl (hf a b h.1 e)
    · exact .inr (upL_any hf h.2 e)
  | [], _ :: _, h, _ => h.elim
  | _ :: _, [], h, _ => h.elim
theorem upL_any_eq {α β : Type} {P : α → β → Prop} {f : α → Bool} {g : β → Bool} (hf : ∀ a b, P a b → f a = g b) : ∀ {l : List α} {m : List β}, upL P l m → l.any f = m.any g
  | [], [], _ => rfl
  | a :: l, b :: m, h => by rw [List.any_cons, List.any_cons, hf a b h.1, upL_any_eq hf h.2]
  | [], _ :: _, h => h.elim
  | _ :: _, [], h => h.elim
theorem upL_map_eq {α β γ : Type} {P : α → β → Prop} {f : α → γ} {g : β → γ} (hf : ∀ a b, P a b → f a = g b) : ∀ {l : List α} {m : List β}, upL P l m → l.map f = m.map g
  | [], [], _ => rfl
  | a :: l, b :: m, h => by rw [List.map_cons, List.map_cons, hf a b h.1, upL_map_eq hf h.2]
  | [], _ :: _, h => h.elim
  | _ :: _, [], h => h.elim
theorem upL_refl {α : Type} {P : α → α → Prop} (hP : ∀ a, P a a) : ∀ l : List α, upL P l l
  | [] => trivial
  | a :: l => ⟨hP a, upL_refl hP l⟩
theorem upL_set {α : Type} {P : α → α → Prop} (hP : ∀ a, P a a) : ∀ (l : List α) (i : Nat) (b : α), (∀ a, l[i]? = some a → P a b) → upL P l (l.set i b)
  | [], _, _, _ => trivial
  | a :: l, 0, b, h => ⟨h a rfl, upL_refl hP l⟩
  | a :: l, i + 1, b, h => ⟨hP a, upL_set hP l i b fun x hx => h x (by rw [List.getElem?_cons_succ]; exact hx)⟩
/-! ### what an instruction reads and writes does not hang on the rest of it -/
def nof (x : In) : In := { x with imm := 0, pred := 0, succ := 0, aq := false, rl := false }
theorem rAt_nof (l : List In) : ∀ i, rAt (l.map nof) i = rAt l i
  | 0 => rfl
  | i + 1 => by
    unfold rAt
    rw [List.getElem?_map, rAt_nof l i]
    cases l[i]? <;> rfl
theorem hA_nof (l : List In) (i : Nat) : hA (l.map nof) i = hA l i := by
  unfold hA
  rw [List.getElem?_map, rAt_nof]
  cases l[i]? <;> rfl
theorem hD_nof (l : List In) (i : Nat) : hD (l.map nof) i = hD l i := by
  unfold hD
  rw [List.getElem?_map, rAt_nof]
  cases l[i]? <;> rfl
theorem cAt_nof (l : List In) : ∀ i, cAt (l.map nof) i = cAt l i
  | 0 => rfl
  | i + 1 => by
    unfold cAt
    rw [List.getElem?_map, rAt_nof, cAt_nof l i]
    cases l[i]? <;> rfl
end Go.Proofs.YtccdkkgimaajbaaDoor
