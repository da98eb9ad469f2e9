/- Layer 19: a relation and its table are made (no claim; lemmas). -/
import Derived.Test.YtccdkkgimaajbaaDoorK19i
set_option linter.unusedSimpArgs false
set_option linter.unusedVariables false
namespace Go.Proofs.YtccdkkgimaajbaaDoor
open Go Go.Vm

/-- Is it a pair of things? -/
def okP (n : Nat) (q : Int × Int) : Bool := decide (0 ≤ q.1 ∧ q.1 < n ∧ 0 ≤ q.2 ∧ q.2 < n)
def addP (n : Nat) (W : Nat → Nat) (q : Int × Int) : Nat → Nat := if okP n q = true then fun a => if a = q.1.toNat then W a ||| 2 ^ q.2.toNat else W a else W
def relOf (n : Nat) (l : List (Int × Int)) : Nat → Nat := l.foldl (addP n) (fun _ => 0)
/-- A relation and its table, side by side. -/
structure Bth (H : List Vm.Obj) (b0 p : Nat) (v : V) (n T : Nat) (I : Nat → Nat) (v2 : V) (T2 : Nat) (I2 : Nat → Nat) (W : Nat → Nat) : Prop where
  rel : RelAt H p v n T I W
  tab : TabAt H v2 n T2 I2 (fun a b => (W a).testBit b)
  dis : ∀ q, rft p n T I q → ¬ mft n T2 I2 q
  new : ∀ q, rft p n T I q ∨ mft n T2 I2 q → b0 ≤ q
theorem or_bit (W b j : Nat) : (W ||| 2 ^ b).testBit j = if j = b then true else W.testBit j := by
  rw [Nat.testBit_or, Nat.testBit_two_pow]
  by_cases c : j = b
  · subst c; simp
  · have : ¬ b = j := fun e => c e.symm
    simp [c, this]
/-- A pair is put into both. -/
theorem Bth.add {H : List Vm.Obj} {b0 p : Nat} {v : V} {n T : Nat} {I : Nat → Nat} {v2 : V} {T2 : Nat} {I2 : Nat → Nat} {W : Nat → Nat} (h : Bth H b0 p v n T I v2 T2 I2 W) {a b : Nat} (ha : a < n) (hb : b < n) :
    Bth ((H.set (I a) (.arr (wR (wl (kw n) (W a ||| 2 ^ b))))).set (I2 a) (.arr ((bR n (W a).testBit).set b [.bool true]))) b0 p v n T I v2 T2 I2 (addP n W ((a : Int), (b : Int))) := by
  have hok : okP n ((a : Int), (b : Int)) = true := by simp [okP, ha, hb]
  have hW : addP n W ((a : Int), (b : Int)) = fun c => if c = a then W a ||| 2 ^ b else W c := by
    unfold addP
    rw [if_pos hok]
    funext c
    simp only [Int.toNat_natCast]
    by_cases e : c = a
    · subst e; rfl
    · simp [e]
  rw [hW]
  have r1 := h.rel.set ha (W a ||| 2 ^ b) (bit_lt (h.rel.lt a ha) hb)
  have n1 : ∀ c, c < n → ¬ rft p n T I (I2 c) := fun c hc hq => h.dis _ hq (.inr ⟨c, hc, rfl⟩)
  have r2 := r1.frame (H' := (H.set (I a) (.arr (wR (wl (kw n) (W a ||| 2 ^ b))))).set (I2 a) (.arr ((bR n (W a).testBit).set b [.bool true]))) fun q hq => List.getElem?_set_ne (fun e => n1 a ha (by rw [e]; exact hq))
  refine ⟨r2, ?_, h.dis, h.new⟩
  have t1 : TabAt (H.set (I a) (.arr (wR (wl (kw n) (W a ||| 2 ^ b))))) v2 n T2 I2 (fun a b => (W a).testBit b) :=
    MatAt.frame h.tab fun q hq => List.getElem?_set_ne (fun e => h.dis (I a) (.inr (.inr ⟨a, ha, rfl⟩)) (by rw [e]; exact hq))
  have t2 := MatAt.set t1 ha ((bR n (W a).testBit).set b [.bool true]) (by rw [List.length_set, bR_len])
  refine MatAt.congr t2 fun c hc => ?_
  by_cases e : c = a
  · subst e
    simp only [if_true]
    rw [bR_set]
    apply bR_congr
    intro j hj
    exact or_bit _ _ _
  · simp only [e, if_false]
section
variable (lv : V) (l : List (Int × Int)) (hl : Sl lv (pR l)) (hlen : l.length ≤ 400)
include hl hlen
end
end Go.Proofs.YtccdkkgimaajbaaDoor
