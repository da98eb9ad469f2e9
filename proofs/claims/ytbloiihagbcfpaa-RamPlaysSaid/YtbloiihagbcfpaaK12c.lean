/- Layer 12: a store into the program's memory (no claim; lemmas). -/
import Derived.Test.YtbloiihagbcfpaaK12b
set_option linter.unusedSimpArgs false
set_option linter.unusedVariables false
namespace Go.Proofs.Ytbloiihagbcfpaa
open Go Go.Vm

/-- Some elements are written, from a place on. -/
def setL {α : Type} : List α → Nat → List α → List α
  | l, _, [] => l
  | l, k, x :: xs => setL (l.set k x) (k + 1) xs
theorem setL_len {α : Type} : ∀ (xs : List α) (l : List α) (k : Nat), (setL l k xs).length = l.length
  | [], _, _ => rfl
  | x :: xs, l, k => by simp [setL, setL_len xs]
theorem setL_get {α : Type} : ∀ (xs : List α) (l : List α) (k j : Nat), k + xs.length ≤ l.length → (setL l k xs)[j]? = if k ≤ j ∧ j < k + xs.length then xs[j - k]? else l[j]?
  | [], l, k, j, h => by
    rw [if_neg (by simp only [List.length_nil]; omega)]
    rfl
  | x :: xs, l, k, j, h => by
    simp only [setL]
    simp only [List.length_cons] at h
    rw [setL_get xs (l.set k x) (k + 1) j (by simp; omega)]
    by_cases c1 : k = j
    · subst c1
      rw [if_neg (by omega), if_pos (by simp), Nat.sub_self]
      simp [show k < l.length by omega]
    · by_cases c2 : k + 1 ≤ j ∧ j < k + 1 + xs.length
      · rw [if_pos c2, if_pos (by simp; omega), show j - k = (j - (k + 1)) + 1 by omega]
        simp
      · rw [if_neg c2, if_neg (by simp; omega)]
        simp [c1]
theorem byV_set (l : List Nat) (k x : Nat) : (byV l).set k [.int .u8 (x : Int)] = byV (l.set k x) := by simp [byV, List.map_set]
theorem iI_set (l : List Int) (k : Nat) (x : Int) : (iI l).set k [.int .i64 x] = iI (l.set k x) := by simp [iI, List.map_set]
theorem iI_get (l : List Int) (i : Nat) (h : i < l.length) : (iI l)[i]? = some [.int .i64 l[i]] := by simp [iI, h]

/-- Where a memory's bytes and tags are. -/
structure Two (H : List Vm.Obj) (p ib it : Nat) (lv : V) (r : P3) (L : Nat) (bs : List Nat) (ts : List Int) : Prop where
  obj : H[p]? = some (.arr [rmC (.rsl ib 0 L) (.rsl it 0 L) lv r])
  b : H[ib]? = some (.arr (byV bs))
  t : H[it]? = some (.arr (iI ts))
  lb : bs.length = L
  lt : ts.length = L
  n1 : ib ≠ it
  n2 : ib ≠ p
  n3 : it ≠ p
theorem Two.step {H : List Vm.Obj} {p ib it : Nat} {lv : V} {r : P3} {L : Nat} {bs : List Nat} {ts : List Int} (h : Two H p ib it lv r L bs ts) (bs' : List Nat) (ts' : List Int) (h1 : bs'.length = L) (h2 : ts'.length = L) :
    Two ((H.set ib (.arr (byV bs'))).set it (.arr (iI ts'))) p ib it lv r L bs' ts' := by
  have b1 := get_lt h.b
  have b2 := get_lt h.t
  exact ⟨by simp [h.n2, h.n3, h.obj], by simp [h.n1, h.n1.symm, b1], by simp [b2], h1, h2, h.n1, h.n2, h.n3⟩
theorem set_four (H : List Vm.Obj) (a b : Nat) (x y x' y' : Vm.Obj) (hn : a ≠ b) : (((H.set a x).set b y).set a x').set b y' = (H.set a x').set b y' := by
  apply List.ext_getElem?
  intro i
  by_cases e1 : b = i
  · subst e1; simp [List.getElem?_set]
  · by_cases e2 : a = i
    · subst e2; simp [List.getElem?_set, e1, Ne.symm e1]
    · simp [e1, e2]
theorem Store_step0 {H : List Vm.Obj} {p ib it : Nat} {lv : V} {r : P3} {L : Nat} {bs : List Nat} {ts : List Int} (h : Two H p ib it lv r L bs ts) (hv : Int) (bl : List Nat) (w : Wr) (an i : Nat) (ha : w.addr = (an : Int)) (hi : i < bl.length)
    (hL : an + bl.length ≤ L) (hL2 : L ≤ 1024) (hl9 : bl.length ≤ 8) :
    evCI pg ir_ram_Ram_Storel0 ⟨[.ptr p 0 0, .int .i64 hv, .undef, .lp 0 0, .undef, .undef, .undef, .undef, .undef, .undef, ils (byV bl), .int .i64 (bl.length : Int), .int .i64 (i : Int), .undef, .undef, .undef, .undef, .undef], ⟨[wrV w, []], [], H⟩⟩ =
      some (.nrm, ⟨[.ptr p 0 0, .int .i64 hv, .undef, .lp 0 0, .undef, .undef, .undef, .undef, .undef, .undef, ils (byV bl), .int .i64 (bl.length : Int), .int .i64 ((i + 1 : Nat) : Int), .undef, .undef, .undef, .undef, .undef], ⟨[wrV w, []], [], (H.set ib (.arr (byV (bs.set (an + i) bl[i])))).set it (.arr (iI (ts.set (an + i) w.id)))⟩⟩) := by
  have e1 := fun m => (Sl.ils (byV bl)).ia (sz := 1) m .i64 (i := i) (by rw [byV_len]; omega) (by simp [byV])
  simp only [byV_el] at e1
  have hlb := h.lb
  have hlt := h.lt
  have e2 : IntKind.i64.wrap (w.addr + (i : Int)) = ((an + i : Nat) : Int) := by rw [ha, wrap_i64 (by omega) (by omega)]; rfl
  have e3 : an + i < L := by omega
  have e4 := byV_get bs (an + i) (by omega)
  have e5 := iI_get ts (an + i) (by omega)
  have e6 : IntKind.i64.wrap ((i : Int) + 1) = ((i + 1 : Nat) : Int) := by rw [wrap_i64 (by omega) (by omega)]; rfl
  have b1 := get_lt h.b
  have b2 := get_lt h.t
  have b3 := get_lt h.obj
  obtain ⟨w1, w2, w3, w4⟩ := w
  simp only at ha e2
  simp [ir_ram_Ram_Storel0, go_sem, hi, e1, e2, e3, e4, e5, e6, get_el h.obj, get_el h.b, get_el h.t, rmC, wrV, h.n1, h.n2, h.n3, h.n1.symm, h.n2.symm, h.n3.symm, b1, b2, b3, byV_set, iI_set, -Int.natCast_add]
theorem Store_loop0 {p ib it : Nat} {lv : V} {r : P3} {L : Nat} (hv : Int) (bl : List Nat) (w : Wr) (an : Nat) (ha : w.addr = (an : Int)) (hL : an + bl.length ≤ L) (hL2 : L ≤ 1024) (hl9 : bl.length ≤ 8) (i : Nat) (hi : i ≤ bl.length)
    (H : List Vm.Obj) (bs : List Nat) (ts : List Int) (h : Two H p ib it lv r L bs ts) :
    evCI pg (.loop ir_ram_Ram_Storel0) ⟨[.ptr p 0 0, .int .i64 hv, .undef, .lp 0 0, .undef, .undef, .undef, .undef, .undef, .undef, ils (byV bl), .int .i64 (bl.length : Int), .int .i64 (i : Int), .undef, .undef, .undef, .undef, .undef], ⟨[wrV w, []], [], H⟩⟩ =
      some (.exit 0, ⟨[.ptr p 0 0, .int .i64 hv, .undef, .lp 0 0, .undef, .undef, .undef, .undef, .undef, .undef, ils (byV bl), .int .i64 (bl.length : Int), .int .i64 (bl.length : Int), .bool false, .undef, .undef, .undef, .undef], ⟨[wrV w, []], [],
        (H.set ib (.arr (byV (setL bs (an + i) (bl.drop i))))).set it (.arr (iI (setL ts (an + i) (List.replicate (bl.length - i) w.id))))⟩⟩) := by
  by_cases c : i < bl.length
  · rw [s_loop, Store_step0 h hv bl w an i ha c hL hL2 hl9, s_then_nrm]
    have h' := h.step (bs.set (an + i) bl[i]) (ts.set (an + i) w.id) (by simpa using h.lb) (by simpa using h.lt)
    rw [Store_loop0 hv bl w an ha hL hL2 hl9 (i + 1) (by omega) _ _ _ h', set_four _ _ _ _ _ _ _ h.n1]
    rw [List.drop_eq_getElem_cons c, show bl.length - i = (bl.length - (i + 1)) + 1 by omega, List.replicate_succ]
    rfl
  · obtain rfl : i = bl.length := by omega
    rw [List.drop_length, Nat.sub_self]
    have e : (H.set ib (.arr (byV (setL bs (an + bl.length) [])))).set it (.arr (iI (setL ts (an + bl.length) (List.replicate 0 w.id)))) = H := by
      show (H.set ib (.arr (byV bs))).set it (.arr (iI ts)) = H
      rw [set_get h.b, set_get h.t]
    rw [e, s_loop]
    simp [ir_ram_Ram_Storel0, go_sem]
termination_by bl.length - i

/-- Of another hart's place a store has a byte. -/
def hit (hv k : Int) (a n : Int) (w : Wr) : Bool := decide (k ≠ hv) && ovl a n w.addr w.size
def dropO (r : P3) (hv : Int) (w : Wr) : P3 :=
  ⟨if hit hv 0 r.a0 r.n0 w then 0 else r.a0, if hit hv 0 r.a0 r.n0 w then 0 else r.n0, if hit hv 1 r.a1 r.n1 w then 0 else r.a1, if hit hv 1 r.a1 r.n1 w then 0 else r.n1, if hit hv 2 r.a2 r.n2 w then 0 else r.a2, if hit hv 2 r.a2 r.n2 w then 0 else r.n2⟩
def p3C (r : P3) : List V := [.int .i64 r.a0, .int .i64 r.n0, .int .i64 r.a1, .int .i64 r.n1, .int .i64 r.a2, .int .i64 r.n2]
def one3 (r0 r : P3) (hv k : Int) (w : Wr) : P3 := if hit hv k (r0.get k).1 (r0.get k).2 w then r.put k 0 0 else r
theorem one3_all (r : P3) (hv : Int) (w : Wr) : one3 r (one3 r (one3 r r hv 0 w) hv 1 w) hv 2 w = dropO r hv w := by
  unfold one3 dropO
  obtain ⟨a0, n0, a1, n1, a2, n2⟩ := r
  have e0 : (P3.get ⟨a0, n0, a1, n1, a2, n2⟩ 0) = (a0, n0) := rfl
  have e1 : (P3.get ⟨a0, n0, a1, n1, a2, n2⟩ 1) = (a1, n1) := rfl
  have e2 : (P3.get ⟨a0, n0, a1, n1, a2, n2⟩ 2) = (a2, n2) := rfl
  simp only [e0, e1, e2]
  generalize hit hv 0 a0 n0 w = c0
  generalize hit hv 1 a1 n1 w = c1
  generalize hit hv 2 a2 n2 w = c2
  cases c0 <;> cases c1 <;> cases c2 <;> rfl
theorem Store_step1 {H : List Vm.Obj} {p : Nat} {bv tv lv : V} {r : P3} (hp : H[p]? = some (.arr [rmC bv tv lv r])) (r0 : P3) (hv : Int) (w : Wr) (k : Nat) (hk : k < 3) :
    evCI pg ir_ram_Ram_Storel1 ⟨[.ptr p 0 0, .int .i64 hv, .undef, .lp 0 0, .undef, .undef, .undef, .undef, .undef, .undef, .undef, .undef, .undef, .undef, .agg (p3C r0), .int .i64 (k : Int), .undef, .undef], ⟨[wrV w, []], [], H⟩⟩ =
      some (.nrm, ⟨[.ptr p 0 0, .int .i64 hv, .undef, .lp 0 0, .undef, .undef, .undef, .undef, .undef, .undef, .undef, .undef, .undef, .undef, .agg (p3C r0), .int .i64 ((k + 1 : Nat) : Int), .undef, .undef], ⟨[wrV w, []], [], H.set p (.arr [rmC bv tv lv (one3 r0 r hv (k : Int) w)])⟩⟩) := by
  have hD := Drop_ok hp (k : Int)
  have hO := Overlap_ok (r0.get (k : Int)).1 (r0.get (k : Int)).2 w.addr w.size
  have hs := set_get hp
  have hw : (k : Int) = 0 ∨ (k : Int) = 1 ∨ (k : Int) = 2 := by omega
  unfold one3 hit
  obtain ⟨w1, w2, w3, w4⟩ := w
  have key : ∀ (k : Nat) (q : Bool), k < 3 → ovl (r0.get (k : Int)).1 (r0.get (k : Int)).2 w2 w3 = q → evI pg .val n_word_Overlap [.int .i64 (r0.get (k : Int)).1, .int .i64 (r0.get (k : Int)).2, .int .i64 w2, .int .i64 w3] [] = some (.bool q, []) →
      evI pg .heap n_ram_Ram_Drop [.ptr p 0 0, .int .i64 (k : Int)] H = some (.tup [], H.set p (.arr [rmC bv tv lv (r.put k 0 0)])) →
      evCI pg ir_ram_Ram_Storel1 ⟨[.ptr p 0 0, .int .i64 hv, .undef, .lp 0 0, .undef, .undef, .undef, .undef, .undef, .undef, .undef, .undef, .undef, .undef, .agg (p3C r0), .int .i64 (k : Int), .undef, .undef], ⟨[wrV ⟨w1, w2, w3, w4⟩, []], [], H⟩⟩ =
      some (.nrm, ⟨[.ptr p 0 0, .int .i64 hv, .undef, .lp 0 0, .undef, .undef, .undef, .undef, .undef, .undef, .undef, .undef, .undef, .undef, .agg (p3C r0), .int .i64 ((k + 1 : Nat) : Int), .undef, .undef], ⟨[wrV ⟨w1, w2, w3, w4⟩, []], [], if (decide ((k : Int) ≠ hv) && q) = true then H.set p (.arr [rmC bv tv lv (r.put k 0 0)]) else H⟩⟩) := by
    intro k q hk hq hO hD
    by_cases c : (k : Int) = hv
    · subst c
      rcases (show k = 0 ∨ k = 1 ∨ k = 2 by omega) with rfl | rfl | rfl <;> simp [ir_ram_Ram_Storel1, go_sem, p3C, wrV]
    · cases q with
      | false => rcases (show k = 0 ∨ k = 1 ∨ k = 2 by omega) with rfl | rfl | rfl <;> (simp [P3.get] at hO c; simp [ir_ram_Ram_Storel1, go_sem, p3C, wrV, hO, c])
      | true => rcases (show k = 0 ∨ k = 1 ∨ k = 2 by omega) with rfl | rfl | rfl <;> (simp [P3.get] at hO c hD; simp [ir_ram_Ram_Storel1, go_sem, p3C, wrV, hO, c, hD])
  rw [key k _ hk rfl hO (by rw [hD, if_pos (by simp [isH]; omega)])]
  split
  · rfl
  · rw [hs]
end Go.Proofs.Ytbloiihagbcfpaa
