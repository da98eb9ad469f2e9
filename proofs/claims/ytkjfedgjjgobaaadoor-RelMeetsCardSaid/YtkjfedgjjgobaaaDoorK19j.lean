/- Layer 19: a relation and its table are made (no claim; lemmas). -/
import Derived.Test.YtkjfedgjjgobaaaDoorK19i
set_option linter.unusedSimpArgs false
set_option linter.unusedVariables false
namespace Go.Proofs.YtkjfedgjjgobaaaDoor
open Go Go.Vm

/-- Is it a pair of things? -/
def okP (n : Nat) (q : Int × Int) : Bool := decide (0 ≤ q.1 ∧ q.1 < n ∧ 0 ≤ q.2 ∧ q.2 < n)
def addP (n : Nat) (W : Nat → Nat) (q : Int × Int) : Nat → Nat := if okP n q = true then fun a => if a = q.1.toNat then W a ||| 2 ^ q.2.toNat else W a else W
def relOf (n : Nat) (l : List (Int × Int)) : Nat → Nat := l.foldl (addP n) (fun _ => 0)
/-- A relation and its table, side by side. -/
structure Bth (H : List Vm.Obj) (b0 p : Nat) (v : V) (n T : Nat) (I : Nat → Nat) (v2 : V) (T2 : Nat) (I2 : Nat → Nat) (W : Nat → Nat) : Prop where
  rel : RelAt H p v n T I W
  tab : TabAt H v2 n T2 I2 (fun a b => (W a).testBit b)
  dis : ∀ q, rft p n T I q → ¬ mft n T2 I2 q
  new : ∀ q, rft p n T I q ∨ mft n T2 I2 q → b0 ≤ q
theorem or_bit (W b j : Nat) : (W ||| 2 ^ b).testBit j = if j = b then true else W.testBit j := by
  rw [Nat.testBit_or, Nat.testBit_two_pow]
  by_cases c : j = b
  · subst c; simp
  · have : ¬ b = j := fun e => c e.symm
    simp [c, this]
/-- A pair is put into both. -/
theorem Bth.add {H : List Vm.Obj} {b0 p : Nat} {v : V} {n T : Nat} {I : Nat → Nat} {v2 : V} {T2 : Nat} {I2 : Nat → Nat} {W : Nat → Nat} (h : Bth H b0 p v n T I v2 T2 I2 W) {a b : Nat} (ha : a < n) (hb : b < n) :
    Bth ((H.set (I a) (.arr (wR (wl (kw n) (W a ||| 2 ^ b))))).set (I2 a) (.arr ((bR n (W a).testBit).set b [.bool true]))) b0 p v n T I v2 T2 I2 (addP n W ((a : Int), (b : Int))) := by
  have hok : okP n ((a : Int), (b : Int)) = true := by simp [okP, ha, hb]
  have hW : addP n W ((a : Int), (b : Int)) = fun c => if c = a then W a ||| 2 ^ b else W c := by
    unfold addP
    rw [if_pos hok]
    funext c
    simp only [Int.toNat_natCast]
    by_cases e : c = a
    · subst e; rfl
    · simp [e]
  rw [hW]
  have r1 := h.rel.set ha (W a ||| 2 ^ b) (bit_lt (h.rel.lt a ha) hb)
  have n1 : ∀ c, c < n → ¬ rft p n T I (I2 c) := fun c hc hq => h.dis _ hq (.inr ⟨c, hc, rfl⟩)
  have r2 := r1.frame (H' := (H.set (I a) (.arr (wR (wl (kw n) (W a ||| 2 ^ b))))).set (I2 a) (.arr ((bR n (W a).testBit).set b [.bool true]))) fun q hq => List.getElem?_set_ne (fun e => n1 a ha (by rw [e]; exact hq))
  refine ⟨r2, ?_, h.dis, h.new⟩
  have t1 : TabAt (H.set (I a) (.arr (wR (wl (kw n) (W a ||| 2 ^ b))))) v2 n T2 I2 (fun a b => (W a).testBit b) :=
    MatAt.frame h.tab fun q hq => List.getElem?_set_ne (fun e => h.dis (I a) (.inr (.inr ⟨a, ha, rfl⟩)) (by rw [e]; exact hq))
  have t2 := MatAt.set t1 ha ((bR n (W a).testBit).set b [.bool true]) (by rw [List.length_set, bR_len])
  refine MatAt.congr t2 fun c hc => ?_
  by_cases e : c = a
  · subst e
    simp only [if_true]
    rw [bR_set]
    apply bR_congr
    intro j hj
    exact or_bit _ _ _
  · simp only [e, if_false]
section
variable (lv : V) (l : List (Int × Int)) (hl : Sl lv (pR l)) (hlen : l.length ≤ 400)
include hl hlen
theorem both_loop (b0 n : Nat) (H0 : List Vm.Obj) (p : Nat) (v : V) (T : Nat) (I : Nat → Nat) (v2 : V) (T2 : Nat) (I2 : Nat → Nat) (i : Nat) (hi : i ≤ l.length) (H : List Vm.Obj) (h : Bth H b0 p v n T I v2 T2 I2 (relOf n (l.take i))) (hf : ∀ q, q < b0 → H[q]? = H0[q]?) :
    ∃ H', evCI pg (.loop ir_undertowlaw19_bothl0) ⟨[.int .i64 (n : Int), lv, .undef, .undef, .undef, .ptr p 0 0, v2, .int .i64 (i : Int), .undef, .undef, .undef, .undef, .undef, .undef], ⟨[], [], H⟩⟩ =
        some (.exit 0, ⟨[.int .i64 (n : Int), lv, .undef, .undef, .undef, .ptr p 0 0, v2, .int .i64 (l.length : Int), .undef, .undef, .undef, .bool false, .undef, .undef], ⟨[], [], H'⟩⟩) ∧
      Bth H' b0 p v n T I v2 T2 I2 (relOf n l) ∧ (∀ q, q < b0 → H'[q]? = H0[q]?) := by
  obtain ⟨B, hB⟩ : ∃ B, B = C.loop ir_undertowlaw19_bothl0 := ⟨_, rfl⟩
  have hpl := pR_len l
  by_cases c : i < l.length
  · have e3 := succ_i64 c (by omega)
    have e1 := fun m => hl.ia (sz := 2) m .i64 (i := i) (by omega) (by simp [pR])
    simp only [pR_el] at e1
    have htk : relOf n (l.take (i + 1)) = addP n (relOf n (l.take i)) l[i] := by
      unfold relOf
      rw [List.take_succ_eq_append_getElem c, List.foldl_append]
      rfl
    have hsl2 : ∀ k, slotV k v2 = some v2 := by
      intro k
      rcases MatAt.top h.tab with ⟨_, h1⟩ | ⟨_, h1, _⟩ <;> subst h1 <;> rfl
    generalize hq : l[i] = q at *
    obtain ⟨x, y⟩ := q
    cases hok : okP n (x, y) with
    | true =>
      have hok' : 0 ≤ x ∧ x < n ∧ 0 ≤ y ∧ y < n := by simpa [okP] using hok
      obtain ⟨a, rfl⟩ : ∃ a : Nat, x = a := ⟨x.toNat, by omega⟩
      obtain ⟨b, rfl⟩ : ∃ b : Nat, y = b := ⟨y.toNat, by omega⟩
      have ha : a < n := by omega
      have hb : b < n := by omega
      have hA := Add_ok h.rel a b ha hb
      have hadd := h.add ha hb
      rw [← htk] at hadd
      have n2 : ∀ q, mft n T2 I2 q → I a ≠ q := fun q hq e => h.dis (I a) (.inr (.inr ⟨a, ha, rfl⟩)) (by rw [e]; exact hq)
      have t1 : TabAt (H.set (I a) (.arr (wR (wl (kw n) (relOf n (l.take i) a ||| 2 ^ b))))) v2 n T2 I2 (fun a b => (relOf n (l.take i) a).testBit b) :=
        MatAt.frame h.tab fun q hq => List.getElem?_set_ne (n2 q hq)
      obtain ⟨f1, f2⟩ := MatAt.ia t1 ha [] []
      have f2 := f2 false rfl
      have hrow := MatAt.row t1 a ha
      have hrl := get_lt hrow
      have hrg := get_el hrow hrl
      obtain ⟨H', r1, r2⟩ := both_loop b0 n H0 p v T I v2 T2 I2 (i + 1) (by omega) _ hadd (fun q hq => by
        have w1 := h.new (I a) (.inl (.inr (.inr ⟨a, ha, rfl⟩)))
        have w2 := h.new (I2 a) (.inr (.inr ⟨a, ha, rfl⟩))
        rw [List.getElem?_set_ne (by omega), List.getElem?_set_ne (by omega), hf q hq])
      refine ⟨H', ?_, r2⟩
      rw [← r1, ← hB]
      conv => lhs; rw [s_loop_at hB]
      have hbg := bR_get (n := n) (relOf n (l.take i) a).testBit hb
      have hbl := bR_len n (relOf n (l.take i) a).testBit
      generalize relOf n (l.take i) a ||| 2 ^ b = wn at *
      generalize bR n (relOf n (l.take i) a).testBit = br at *
      generalize H.set (I a) (.arr (wR (wl (kw n) wn))) = H1 at *
      have hbrl : b < br.length := by omega
      have hbre : br[b] = [.bool ((relOf n (l.take i) a).testBit b)] := by
        rw [List.getElem?_eq_getElem hbrl] at hbg; exact Option.some.inj hbg
      simp [ir_undertowlaw19_bothl0, go_sem, hl.is, hl.rows, hpl, c, e1, e3, ha, hb, hA, f1, f2, hrow, hrl, hrg, hsl2, hbg, hbrl, hbre, asIx_nat, -Int.natCast_add]
    | false =>
      have hok' : ¬ (0 ≤ x ∧ x < n ∧ 0 ≤ y ∧ y < n) := by simpa [okP] using hok
      have hA := Add_no h.rel x y hok'
      have htk' : relOf n (l.take (i + 1)) = relOf n (l.take i) := by
        rw [htk]
        unfold addP
        rw [hok]; rfl
      obtain ⟨H', r1, r2⟩ := both_loop b0 n H0 p v T I v2 T2 I2 (i + 1) (by omega) H (by rw [htk']; exact h) hf
      refine ⟨H', ?_, r2⟩
      rw [← r1, ← hB]
      conv => lhs; rw [s_loop_at hB]
      by_cases c1 : 0 ≤ x
      · by_cases c2 : x < n
        · by_cases c3 : 0 ≤ y
          · have c4 : ¬ y < n := fun c4 => hok' ⟨c1, c2, c3, c4⟩
            simp [ir_undertowlaw19_bothl0, go_sem, hl.is, hl.rows, hpl, c, e1, e3, c1, c2, c3, c4, hA, hsl2, -Int.natCast_add]
          · simp [ir_undertowlaw19_bothl0, go_sem, hl.is, hl.rows, hpl, c, e1, e3, c1, c2, c3, hA, hsl2, -Int.natCast_add]
        · simp [ir_undertowlaw19_bothl0, go_sem, hl.is, hl.rows, hpl, c, e1, e3, c1, c2, hA, hsl2, -Int.natCast_add]
      · simp [ir_undertowlaw19_bothl0, go_sem, hl.is, hl.rows, hpl, c, e1, e3, c1, hA, hsl2, -Int.natCast_add]
  · obtain rfl : i = l.length := by omega
    refine ⟨H, ?_, by rw [List.take_length] at h; exact h, hf⟩
    rw [← hB, s_loop_at hB]
    simp [ir_undertowlaw19_bothl0, go_sem, hl.is, hl.rows, hpl]
termination_by l.length - i
theorem both_ok (n : Nat) (hn : n ≤ 512) (H : List Vm.Obj) : ∃ H' p v T I v2 T2 I2, evI pg .heap n_undertowlaw19_both [.int .i64 (n : Int), lv] H = some (.tup [.ptr p 0 0, v2, .bool true], H') ∧ Bth H' H.length p v n T I v2 T2 I2 (relOf n l) ∧ (∀ q, q < H.length → H'[q]? = H[q]?) := by
  obtain ⟨H1, v, T, I, a1, a2, a3, a4⟩ := New_ok n hn H
  obtain ⟨H2, v2, T2, I2, b1, b2, b3, b4, b5⟩ := refNew_ok n hn H1
  have hp1 := get_lt a2.obj
  have f1 : RelAt H2 H.length v n T I (fun _ => 0) := a2.frame fun q hq => b3 q (a2.ftlt hq)
  have hb : Bth H2 H.length H.length v n T I v2 T2 I2 (relOf n (l.take 0)) := ⟨f1, MatAt.congr b2 fun a ha => bR_congr fun j hj => Nat.zero_testBit j, fun q hq hm => by have := a2.ftlt hq; have := b4 q hm; omega, fun q hq => by
    rcases hq with (rfl | hq) | hq
    · exact Nat.le_refl _
    · have := a4 q hq; omega
    · have := b4 q hq; omega⟩
  obtain ⟨H', r1, r2, r3⟩ := both_loop lv l hl hlen H.length n H H.length v T I v2 T2 I2 0 (by omega) H2 hb (fun q hq => by rw [b3 q (by omega), a3 q hq])
  rw [Int.natCast_zero] at r1
  refine ⟨H', H.length, v, T, I, v2, T2, I2, ?_, r2, r3⟩
  have hsl2 : ∀ k, slotV k v2 = some v2 := by
    intro k
    rcases MatAt.top b2 with ⟨_, h1⟩ | ⟨_, h1, _⟩ <;> subst h1 <;> rfl
  obtain ⟨x1, x2, x3⟩ := MatAt.exp b2
  rw [s_fn fn_undertowlaw19_both]
  simp [ir_undertowlaw19_both, go_sem, a1, b1, r1, hsl2, x1, hl.is]
end
end Go.Proofs.YtkjfedgjjgobaaaDoor
