/- A hart's own stores don't turn its reservation, and of another hart's just those that overlap it end it: the law RamHeld returns true whatever it is handed. No condition. -/
import Derived.Test.YtbloiihagbcfpaaK12f
set_option linter.unusedSimpArgs false
set_option linter.unusedVariables false
namespace Go.Proofs.Ytbloiihagbcfpaa
open Go Go.Vm

def heldB (L : Nat) (r : P3) (f : Wr) : Bool := mayB L f.addr f.size && decide (r.get 1 = (f.addr, f.size))
theorem held_step (L : Nat) (r : P3) (f w : Wr) (hv : Int) : heldB L (dropO r hv w) f = (heldB L r f && !(decide (hv ≠ 1) && ovl f.addr f.size w.addr w.size)) := by
  unfold heldB
  cases hm : mayB L f.addr f.size with
  | false => simp
  | true =>
    obtain ⟨hn, _, _⟩ := mayB_n hm
    have hg : (dropO r hv w).get 1 = if hit hv 1 r.a1 r.n1 w then (0, 0) else (r.a1, r.n1) := by
      unfold dropO P3.get
      cases hit hv 1 r.a1 r.n1 w <;> simp
    have hg0 : r.get 1 = (r.a1, r.n1) := rfl
    rw [hg, hg0]
    by_cases c : (r.a1, r.n1) = (f.addr, f.size)
    · have c1 : r.a1 = f.addr := congrArg Prod.fst c
      have c2 : r.n1 = f.size := congrArg Prod.snd c
      rw [c1, c2]
      unfold hit
      by_cases d : hv = 1
      · simp [d]
      · have d' : ¬ (1 : Int) = hv := fun e => d e.symm
        cases ovl f.addr f.size w.addr w.size with
        | true =>
          have : ¬ (0 : Int) = f.size := by omega
          simp [d, d', this]
        | false => simp
    · have : ¬ ((0 : Int), (0 : Int)) = (f.addr, f.size) := by
        intro e
        have := congrArg Prod.snd e
        simp at this
        omega
      simp only [c, decide_false, Bool.and_false, Bool.false_and]
      split
      · simp [this]
      · simp [c]
theorem held_loop (av : V) (l : List Act) (ha : Sl av (actsV l)) (hok : ∀ a ∈ l, okAct a) (f : Wr) (p : Nat) (L : Nat) (hL : L ≤ 1024) (i : Nat) (hi : i ≤ min l.length 40) (H : List Vm.Obj) (bv tv lv : V) (s : Rm)
    (hs : RmS H p bv tv lv s) (hb : s.bytes.length = L) (hlog : s.log.length ≤ i) :
    ∃ h' H', evCI pg (.loop ir_undertowlaw12_RamHeldl0) ⟨[.undef, av, .undef, .lp 0 0, .undef, .ptr p 0 0, .bool (heldB L s.r f), .int .i64 (i : Int), .undef, .undef, .undef, .undef, .undef, .undef, .undef], ⟨[wrV f, []], [], H⟩⟩ =
      some (.exit 0, ⟨[.undef, av, .undef, .lp 0 0, .undef, .ptr p 0 0, .bool h', .int .i64 ((min l.length 40 : Nat) : Int), .undef, .undef, .undef, .undef, .bool false, .undef, .undef], ⟨[wrV f, []], [], H'⟩⟩) := by
  by_cases c : i < min l.length 40
  · have c1 : i < l.length := by omega
    have c2 : (i : Int) < 40 := by omega
    have c3 : i < 40 := by omega
    have e1 := fun m => ha.ia (sz := 6) m .i64 (i := i) (by rw [actsV_len]; omega) (actsV_sz _ _ _)
    simp only [actsV_el] at e1
    have hoa := hok l[i] (List.getElem_mem _)
    revert e1 hoa
    generalize l[i] = a
    intro e1 hoa
    obtain ⟨lv', H', s1, s2, s3, s4⟩ := Store_ok hs a.hart a.w hoa.w.d (by omega)
    obtain ⟨q1, q2⟩ := s.store_len a.hart a.w
    obtain ⟨bu, tu, lu, im⟩ := s2.img
    have hH := Held_ok true bu tu lu (byV (s.store a.hart a.w).bytes) im.b im.t.is im.l.is (by rw [byV_len, q1, hb]; omega) (s.store a.hart a.w).r 1 f.addr f.size
    rw [byV_len, q1, hb] at hH
    have hh : (mayB L f.addr f.size && isH 1 && decide ((s.store a.hart a.w).r.get 1 = (f.addr, f.size))) = heldB L (s.store a.hart a.w).r f := by
      unfold heldB
      have : isH 1 = true := by decide
      rw [this, Bool.and_true]
    rw [hh] at hH
    have hO := refOverlap_ok f.addr f.size a.w.addr a.w.size
    have hst : heldB L (s.store a.hart a.w).r f = if (stOk L a.hart a.w && decide (a.hart ≠ 1) && ovl f.addr f.size a.w.addr a.w.size) = true then false else heldB L s.r f := by
      unfold Rm.store
      rw [hb]
      cases hq : stOk L a.hart a.w with
      | false => simp
      | true =>
        simp only [if_true, held_step]
        cases decide (a.hart ≠ 1) <;> cases ovl f.addr f.size a.w.addr a.w.size <;> simp
    obtain ⟨h', H'', ih⟩ := held_loop av l ha hok f p L hL (i + 1) (by omega) H' bv tv lv' (s.store a.hart a.w) s2 (by rw [q1, hb]) (by omega)
    rw [hst] at ih hH
    rw [hb] at s1
    have e6 : IntKind.i64.wrap ((i : Int) + 1) = ((i + 1 : Nat) : Int) := by rw [wrap_i64 (by omega) (by omega)]; rfl
    obtain ⟨B, hB⟩ : ∃ B, B = C.loop ir_undertowlaw12_RamHeldl0 := ⟨_, rfl⟩
    refine ⟨h', H'', ?_⟩
    rw [← hB] at ih
    rw [← hB, s_loop_at hB]
    obtain ⟨k, hv, w1, w2, w3, w4⟩ := a
    obtain ⟨f1, f2, f3, f4⟩ := f
    simp only [wrV, actV, rmC] at *
    clear hst hh
    generalize stOk L hv ⟨w1, w2, w3, w4⟩ = q at s1 ih hH
    generalize ovl f2 f3 w2 w3 = o at hO ih hH
    generalize heldB L s.r ⟨f1, f2, f3, f4⟩ = hb0 at ih hH ⊢
    by_cases d : hv = 1
    · have hd : decide (hv ≠ 1) = false := by simp [d]
      rw [hd] at ih hH
      subst d
      cases q <;> (
        simp only [Bool.false_and, Bool.and_false, Bool.false_eq_true, if_false] at ih hH
        simp [ir_undertowlaw12_RamHeldl0, go_sem, ha.is, ha.rows, actsV_len, c1, c2, c3, e1, s1, im.o, im.bi, im.ti, im.li, hH, e6, ih, -Int.natCast_add])
    · have hd : decide (hv ≠ 1) = true := by simp [d]
      rw [hd] at ih hH
      cases q <;> cases o <;> (
        simp only [Bool.false_and, Bool.and_false, Bool.and_true, Bool.true_and, Bool.false_eq_true, if_false, if_true] at ih hH
        simp [ir_undertowlaw12_RamHeldl0, go_sem, ha.is, ha.rows, actsV_len, c1, c2, c3, e1, s1, im.o, im.bi, im.ti, im.li, hH, hO, e6, ih, d, -Int.natCast_add])
  · refine ⟨heldB L s.r f, H, ?_⟩
    have hiN : i = min l.length 40 := by omega
    rw [← hiN, s_loop]
    by_cases d : i < l.length
    · have d2 : ¬ (i : Int) < 40 := by omega
      have d3 : ¬ i < 40 := by omega
      simp [ir_undertowlaw12_RamHeldl0, go_sem, ha.is, ha.rows, actsV_len, d, d2, d3]
    · simp [ir_undertowlaw12_RamHeldl0, go_sem, ha.is, ha.rows, actsV_len, d]
termination_by min l.length 40 - i
theorem RamHeld_true (iv av : V) (img : List Nat) (l : List Act) (f : Wr) (hi : Sl iv (byV img)) (hb : ∀ x ∈ img, x < 256) (ha : Sl av (actsV l)) (hok : ∀ a ∈ l, okAct a) :
    evI pg .val n_undertowlaw12_RamHeld [iv, av, .agg (wrV f)] [] = some (.bool true, []) := by
  rw [s_fn fn_undertowlaw12_RamHeld]
  by_cases c : 200 < img.length
  · have c' : (200 : Int) < (img.length : Int) := by omega
    unfold wrV
    simp [ir_undertowlaw12_RamHeld, go_sem, alive12, hi.is, hi.rows, ha.is, byV_len, c, c']
  · have c' : ¬ (200 : Int) < (img.length : Int) := by omega
    obtain ⟨p, bv, tv, H1, n1, n2, n3, n4, n5⟩ := New_ok hi hb (by omega) []
    have hL : (img.take 1024).length = img.length := by simp; omega
    have r1 := Reserve_ok n2 1 f.addr f.size
    have h1 : isH 1 = true := by decide
    rw [hL, h1, Bool.and_true] at r1
    have hrs : RmS (if mayB img.length f.addr f.size = true then H1.set p (.arr [rmC bv tv .nils (z3.put 1 f.addr f.size)]) else H1) p bv tv .nils ⟨img.take 1024, List.replicate (min img.length 1024) (-1), [], if mayB img.length f.addr f.size = true then z3.put 1 f.addr f.size else z3⟩ := by
      split
      · exact n2.put _
      · exact n2
    have hhb : heldB img.length (if mayB img.length f.addr f.size = true then z3.put 1 f.addr f.size else z3) f = mayB img.length f.addr f.size := by
      unfold heldB
      cases hm : mayB img.length f.addr f.size with
      | false => rfl
      | true => simp [P3.put, P3.get]
    obtain ⟨h', H', hlp⟩ := held_loop av l ha hok f p img.length (by omega) 0 (by omega) _ bv tv .nils _ hrs hL (by simp)
    simp only at hlp
    rw [hhb] at hlp
    unfold wrV at hlp ⊢
    rw [show ((0 : Nat) : Int) = 0 from rfl] at hlp
    simp [ir_undertowlaw12_RamHeld, go_sem, alive12, hi.is, hi.rows, ha.is, byV_len, c, c', n1, r1, hlp]
theorem law_held : ∀ vs, PArgs Try.prog 8 Try.f3.params.toList vs → ∃ k, evF pg k .val 3 vs [] = some (.bool true, []) := by
  intro vs h
  obtain ⟨v1, _, rfl, h1, v2, _, rfl, h2, v3, _, rfl, h3, rfl⟩ := h
  obtain ⟨img, i1, _, i2⟩ := arg_img h1
  obtain ⟨l, a1, _, a2⟩ := arg_acts h2
  obtain ⟨w, rfl, _⟩ := arg_wr h3
  exact (evI_iff (hx _ _)).1 (RamHeld_true v1 v2 img l w i1 i2 a1 a2)
end Go.Proofs.Ytbloiihagbcfpaa
