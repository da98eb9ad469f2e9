/- Layer 12: the document's memory, written (no claim; lemmas). -/
import Derived.Test.YtbloiihagbcfpaaK12h
set_option linter.unusedSimpArgs false
set_option linter.unusedVariables false
set_option linter.unusedSectionVars false
namespace Go.Proofs.Ytbloiihagbcfpaa
open Go Go.Vm

/-- The document's memory that stands somewhere. -/
structure RfAt (H : List Vm.Obj) (q : Nat) (av lv : V) (at_ : List Nat) (log : List Wr) (r : P3) : Prop where
  obj : H[q]? = some (.arr [rfC av lv r])
  a : Lg H av (byV at_)
  l : Lg H lv (wsV log)
  ne : ∀ j, vid av = some j → vid lv ≠ some j
  le : at_.length ≤ 1024
theorem Lg.tok_of {H : List Vm.Obj} {v : V} {es : List (List V)} (h : Lg H v es) {id : Nat} (hid : vid v = some id) : ∃ n, H[id]? = some (.tok n) := by
  cases h with
  | nils => cases hid
  | tok j es hj hne => cases hid; exact ⟨_, hj⟩
theorem Lg.not_arr {H : List Vm.Obj} {v : V} {es : List (List V)} (h : Lg H v es) {id : Nat} {x : List (List V)} (hx : H[id]? = some (.arr x)) : vid v ≠ some id := by
  intro e
  obtain ⟨n, hn⟩ := h.tok_of e
  rw [hx] at hn; cases hn
theorem RfAt.put {H : List Vm.Obj} {q : Nat} {av lv : V} {at_ : List Nat} {log : List Wr} {r : P3} (h : RfAt H q av lv at_ log r) (r' : P3) :
    RfAt (H.set q (.arr [rfC av lv r'])) q av lv at_ log r' := by
  have hf : ∀ {v : V}, vid v ≠ some q → ∀ id o, vid v = some id → H[id]? = some o → (H.set q (.arr [rfC av lv r']))[id]? = some o := by
    intro v hv id o hid ho
    have : q ≠ id := fun e => hv (by rw [hid, e])
    simp [this, ho]
  exact ⟨by simp [get_lt h.obj], h.a.frame (hf (h.a.not_arr h.obj)), h.l.frame (hf (h.l.not_arr h.obj)), h.ne, h.le⟩
theorem set_frm {H : List Vm.Obj} {q : Nat} {o : Vm.Obj} (F : Nat → Prop) (hF : F q) : Frm H (H.set q o) F :=
  ⟨fun id x hx hn => by
    have : q ≠ id := fun e => hn (e ▸ hF)
    simp [this, hx], by simp⟩
theorem refDrop_ok {H : List Vm.Obj} {q : Nat} {av lv : V} {r : P3} (hp : H[q]? = some (.arr [rfC av lv r])) (h : Int) :
    evI pg .heap n_undertowref12_Ram_Drop [.ptr q 0 0, .int .i64 h] H = some (.tup [], if isH h then H.set q (.arr [rfC av lv (r.put h 0 0)]) else H) := by
  have hlt := get_lt hp
  rw [s_fn fn_undertowref12_Ram_Drop]
  by_cases h0 : 0 ≤ h
  · by_cases h2 : h ≤ 2
    · have hh : isH h = true := by unfold isH; simp; omega
      rcases isH_three hh with rfl | rfl | rfl <;>
        simp [ir_undertowref12_Ram_Drop, go_sem, get_el hp, hlt, rfC, P3.put, isH]
    · have hh : isH h = false := by unfold isH; simp; omega
      simp [ir_undertowref12_Ram_Drop, go_sem, h0, h2, hh]
  · have hh : isH h = false := by unfold isH; simp; omega
    simp [ir_undertowref12_Ram_Drop, go_sem, h0, hh]
theorem refReserve_ok {H : List Vm.Obj} {q : Nat} {av lv : V} {at_ : List Nat} {log : List Wr} {r : P3} (hr : RfAt H q av lv at_ log r) (h a n : Int) (hi : i64B a) :
    evI pg .heap n_undertowref12_Ram_Reserve [.ptr q 0 0, .int .i64 h, .int .i64 a, .int .i64 n] H =
      some (.bool (mayB at_.length a n && isH h), if mayB at_.length a n && isH h then H.set q (.arr [rfC av lv (r.put h a n)]) else H) := by
  obtain ⟨au, a1, a2⟩ := hr.a.imm
  obtain ⟨lu, l1, l2⟩ := hr.l.imm
  have hm := refMay_ok true au at_ a1 hr.le [lu, .int .i64 0, .int .i64 r.a0, .int .i64 r.n0, .int .u64 0, .int .i64 0, .int .i64 r.a1, .int .i64 r.n1, .int .u64 0, .int .i64 0, .int .i64 r.a2, .int .i64 r.n2, .int .u64 0] a n hi
  have hp := hr.obj
  have hlt := get_lt hp
  rw [s_fn fn_undertowref12_Ram_Reserve]
  unfold rfC at hp ⊢
  cases hq : mayB at_.length a n with
  | false =>
    rw [hq] at hm
    simp [ir_undertowref12_Ram_Reserve, go_sem, hm, get_el hp, hlt, a2, l2]
  | true =>
    rw [hq] at hm
    by_cases h0 : h < 0
    · have hh : isH h = false := by unfold isH; simp; omega
      simp [ir_undertowref12_Ram_Reserve, go_sem, hm, get_el hp, hlt, a2, l2, h0, hh]
    · by_cases h2 : 2 < h
      · have hh : isH h = false := by unfold isH; simp; omega
        simp [ir_undertowref12_Ram_Reserve, go_sem, hm, get_el hp, hlt, a2, l2, h0, h2, hh]
      · have hh : isH h = true := by unfold isH; simp; omega
        rcases isH_three hh with rfl | rfl | rfl <;>
          simp [ir_undertowref12_Ram_Reserve, go_sem, hm, get_el hp, hlt, a2, l2, P3.put, isH]
def onc (r : P3) (hv k : Int) (w : Wr) : P3 := if hit hv k (r.get k).1 (r.get k).2 w then r.put k 0 0 else r
theorem onc_all (r : P3) (hv : Int) (w : Wr) : onc (onc (onc r hv 0 w) hv 1 w) hv 2 w = dropO r hv w := by
  unfold onc dropO
  obtain ⟨a0, n0, a1, n1, a2, n2⟩ := r
  generalize e0 : hit hv 0 a0 n0 w = c0
  generalize e1 : hit hv 1 a1 n1 w = c1
  generalize e2 : hit hv 2 a2 n2 w = c2
  have f0 : ∀ a1 n1 a2 n2, hit hv 0 (P3.get ⟨a0, n0, a1, n1, a2, n2⟩ 0).1 (P3.get ⟨a0, n0, a1, n1, a2, n2⟩ 0).2 w = c0 := fun _ _ _ _ => e0
  have f1 : ∀ a0 n0 a2 n2, hit hv 1 (P3.get ⟨a0, n0, a1, n1, a2, n2⟩ 1).1 (P3.get ⟨a0, n0, a1, n1, a2, n2⟩ 1).2 w = c1 := fun _ _ _ _ => e1
  have f2 : ∀ a0 n0 a1 n1, hit hv 2 (P3.get ⟨a0, n0, a1, n1, a2, n2⟩ 2).1 (P3.get ⟨a0, n0, a1, n1, a2, n2⟩ 2).2 w = c2 := fun _ _ _ _ => e2
  have p0 : P3.put ⟨a0, n0, a1, n1, a2, n2⟩ 0 0 0 = ⟨0, 0, a1, n1, a2, n2⟩ := rfl
  have p1 : ∀ a0 n0, P3.put ⟨a0, n0, a1, n1, a2, n2⟩ 1 0 0 = ⟨a0, n0, 0, 0, a2, n2⟩ := fun _ _ => rfl
  have p2 : ∀ a0 n0 a1 n1, P3.put ⟨a0, n0, a1, n1, a2, n2⟩ 2 0 0 = ⟨a0, n0, a1, n1, 0, 0⟩ := fun _ _ _ _ => rfl
  cases c0 <;> cases c1 <;> cases c2 <;> simp [f0, f1, f2, p0, p1, p2]
theorem refStore_step {H : List Vm.Obj} {q : Nat} {av lv : V} {r : P3} (hp : H[q]? = some (.arr [rfC av lv r])) (hv : Int) (w : Wr) (k : Nat) (hk : k < 3) :
    evCI pg ir_undertowref12_Ram_Storel0 ⟨[.ptr q 0 0, .int .i64 hv, .undef, .lp 0 0, .undef, .int .i64 (k : Int), .undef, .undef, .undef, .undef], ⟨[wrV w, []], [], H⟩⟩ =
      some (.nrm, ⟨[.ptr q 0 0, .int .i64 hv, .undef, .lp 0 0, .undef, .int .i64 ((k + 1 : Nat) : Int), .undef, .undef, .undef, .undef], ⟨[wrV w, []], [], H.set q (.arr [rfC av lv (onc r hv (k : Int) w)])⟩⟩) := by
  have hO := refOverlap_ok (r.get (k : Int)).1 (r.get (k : Int)).2 w.addr w.size
  have hs := set_get hp
  have hlt := get_lt hp
  unfold onc hit
  obtain ⟨w1, w2, w3, w4⟩ := w
  obtain ⟨ra, rb, rc, rd, re, rf⟩ := r
  simp only at hO ⊢
  by_cases c : (k : Int) = hv
  · subst c
    simp only [ne_eq, not_true_eq_false, decide_false, Bool.false_and, Bool.false_eq_true, if_false, hs]
    unfold rfC at hp
    rcases (show k = 0 ∨ k = 1 ∨ k = 2 by omega) with rfl | rfl | rfl <;> simp [ir_undertowref12_Ram_Storel0, go_sem, wrV, get_el hp, hlt]
  · generalize hq : ovl (P3.get ⟨ra, rb, rc, rd, re, rf⟩ k).1 (P3.get ⟨ra, rb, rc, rd, re, rf⟩ k).2 w2 w3 = z at hO
    unfold rfC at *
    cases z with
    | false =>
      simp only [Bool.and_false, Bool.false_eq_true, if_false, hs]
      rcases (show k = 0 ∨ k = 1 ∨ k = 2 by omega) with rfl | rfl | rfl <;> (simp [P3.get] at hO c; simp [ir_undertowref12_Ram_Storel0, go_sem, wrV, get_el hp, hlt, hO, c])
    | true =>
      rcases (show k = 0 ∨ k = 1 ∨ k = 2 by omega) with rfl | rfl | rfl <;> (simp [P3.get] at hO c; simp [ir_undertowref12_Ram_Storel0, go_sem, wrV, get_el hp, hlt, hO, c, P3.put])
theorem refStore_loop {H : List Vm.Obj} {q : Nat} {av lv : V} {r : P3} (hp : H[q]? = some (.arr [rfC av lv r])) (hv : Int) (w : Wr) :
    evCI pg (.loop ir_undertowref12_Ram_Storel0) ⟨[.ptr q 0 0, .int .i64 hv, .undef, .lp 0 0, .undef, .int .i64 0, .undef, .undef, .undef, .undef], ⟨[wrV w, []], [], H⟩⟩ =
      some (.exit 0, ⟨[.ptr q 0 0, .int .i64 hv, .undef, .lp 0 0, .undef, .int .i64 3, .undef, .undef, .bool false, .undef], ⟨[wrV w, []], [], H.set q (.arr [rfC av lv (dropO r hv w)])⟩⟩) := by
  have hlt := get_lt hp
  have g : ∀ r', (H.set q (.arr [rfC av lv r']))[q]? = some (.arr [rfC av lv r']) := fun r' => by simp [hlt]
  have s0 := refStore_step hp hv w 0 (by omega)
  have s1 := refStore_step (g (onc r hv 0 w)) hv w 1 (by omega)
  have s2 := refStore_step (g (onc (onc r hv 0 w) hv 1 w)) hv w 2 (by omega)
  simp only [List.set_set] at s1 s2
  rw [show ((0 : Nat) : Int) = 0 from rfl] at s0
  rw [show ((1 : Nat) : Int) = 1 from rfl] at s1
  rw [show ((2 : Nat) : Int) = 2 from rfl, onc_all, show ((2 + 1 : Nat) : Int) = 3 from rfl] at s2
  rw [s_loop, s0, s_then_nrm, s_loop, show ((0 + 1 : Nat) : Int) = 1 from rfl, s1, s_then_nrm, s_loop, show ((1 + 1 : Nat) : Int) = 2 from rfl, s2, s_then_nrm, s_loop]
  simp [ir_undertowref12_Ram_Storel0, go_sem]
def logO (L : Nat) (log : List Wr) (hv : Int) (w : Wr) : List Wr := if stOk L hv w then log ++ [zw w] else log
def rO (L : Nat) (r : P3) (hv : Int) (w : Wr) : P3 := if stOk L hv w then dropO r hv w else r
theorem refStore_ok {H : List Vm.Obj} {q : Nat} {av lv : V} {at_ : List Nat} {log : List Wr} {r : P3} (hr : RfAt H q av lv at_ log r) (hv : Int) (w : Wr) (hw : okWr w) (hlog : log.length ≤ 1000000) :
    ∃ lv' H', evI pg .heap n_undertowref12_Ram_Store [.ptr q 0 0, .int .i64 hv, .agg (wrV w)] H = some (.bool (stOk at_.length hv w), H') ∧
      RfAt H' q av lv' at_ (logO at_.length log hv w) (rO at_.length r hv w) ∧ Frm H H' (foot q av .nils lv) ∧ (vid lv' = vid lv ∨ vid lv' = some H.length) := by
  obtain ⟨au, a1, a2⟩ := hr.a.imm
  obtain ⟨lu, l1, l2⟩ := hr.l.imm
  have hm := refMay_ok true au at_ a1 hr.le [lu, .int .i64 0, .int .i64 r.a0, .int .i64 r.n0, .int .u64 0, .int .i64 0, .int .i64 r.a1, .int .i64 r.n1, .int .u64 0, .int .i64 0, .int .i64 r.a2, .int .i64 r.n2, .int .u64 0] w.addr w.size hw.a
  have hp := hr.obj
  have hlt := get_lt hp
  cases hq : stOk at_.length hv w with
  | false =>
    refine ⟨lv, H, ?_, ?_, ⟨fun _ _ h _ => h, Nat.le_refl _⟩, .inl rfl⟩
    · rw [s_fn fn_undertowref12_Ram_Store]
      unfold stOk at hq
      obtain ⟨w1, w2, w3, w4⟩ := w
      simp only at hm hq
      unfold rfC at hp
      cases hq1 : mayB at_.length w2 w3 with
      | false =>
        rw [hq1] at hm
        simp [ir_undertowref12_Ram_Store, go_sem, hm, get_el hp, hlt, a2, l2, wrV]
      | true =>
        rw [hq1] at hm hq
        by_cases c : w1 < 0
        · simp [ir_undertowref12_Ram_Store, go_sem, hm, get_el hp, hlt, a2, l2, wrV, c]
        · have c' : 0 ≤ w1 := by omega
          simp [c'] at hq
          by_cases h0 : hv < 0
          · simp [ir_undertowref12_Ram_Store, go_sem, hm, get_el hp, hlt, a2, l2, wrV, c, h0]
          · have h2 : 2 < hv := by
              unfold isH at hq
              simp at hq
              omega
            simp [ir_undertowref12_Ram_Store, go_sem, hm, get_el hp, hlt, a2, l2, wrV, c, h0, h2]
    · unfold logO rO
      rw [hq]
      exact hr
  | true =>
    have hq' := hq
    unfold stOk at hq'
    simp only [Bool.and_eq_true, decide_eq_true_eq] at hq'
    obtain ⟨⟨hy1, hy2⟩, hy3⟩ := hq'
    obtain ⟨hn, ha0, hle⟩ := mayB_n hy1
    have hz := refZext_ok w.data (8 * w.size) hw.d
    obtain ⟨j, H2, b1, b2, b3, b4, b5⟩ := log_app hr.l (zw w) hlog [wrV (zw w), []] []
    have hql : vid lv ≠ some q := hr.l.not_arr hp
    have hp2 : H2[q]? = some (.arr [rfC av lv r]) := b3 q _ hp hql
    have hp2l := get_lt hp2
    have hp3 : (H2.set q (.arr [rfC av (.osl true j (wsV (log ++ [zw w]))) r]))[q]? = some (.arr [rfC av (.osl true j (wsV (log ++ [zw w]))) r]) := by simp [hp2l]
    have hl1 := refStore_loop hp3 hv (zw w)
    have hdr : dropO r hv (zw w) = dropO r hv w := rfl
    rw [hdr, List.set_set] at hl1
    have e8 : IntKind.i64.wrap (8 * w.size) = 8 * w.size := wrap_i64 (by omega) (by omega)
    refine ⟨.osl true j (wsV (log ++ [zw w])), H2.set q (.arr [rfC av (.osl true j (wsV (log ++ [zw w]))) (dropO r hv w)]), ?_, ?_, ?_, ?_⟩
    · rw [s_fn fn_undertowref12_Ram_Store]
      rw [hy1] at hm
      have hid : ¬ w.id < 0 := by omega
      have h0 : ¬ hv < 0 := by unfold isH at hy3; simp at hy3; omega
      have h2 : ¬ 2 < hv := by unfold isH at hy3; simp at hy3; omega
      obtain ⟨w1, w2, w3, w4⟩ := w
      unfold zw at *
      simp only [rfC, wrV] at hp hp2 hl1 hm hid e8 hz b1 ⊢
      simp [ir_undertowref12_Ram_Store, go_sem, hm, get_el hp, get_el hp2, hlt, hp2l, a2, l2, h0, h2, hid, e8, hz, litParts, b1, hl1]
    · have get3 : ∀ id o, id ≠ q → H2[id]? = some o → (H2.set q (.arr [rfC av (.osl true j (wsV (log ++ [zw w]))) (dropO r hv w)]))[id]? = some o := by
        intro id o hid ho
        simp [Ne.symm hid, ho]
      have hqa : vid av ≠ some q := hr.a.not_arr hp
      unfold logO rO
      rw [hq, if_pos rfl, if_pos rfl]
      refine ⟨by simp [hp2l], hr.a.frame fun id o hid ho => get3 id o (fun e => hqa (e ▸ hid)) (b3 id o ho fun e => hr.ne id hid e), b2.frame fun id o hid ho => get3 id o ?_ ho, fun i hi hj => ?_, hr.le⟩
      · rintro rfl
        exact b2.not_arr hp2 hid
      · have hj' : i = j := by cases hj; rfl
        rcases b5 with b5 | b5
        · exact hr.ne i hi (by rw [hj', b5])
        · have := hr.a.vlt hi
          omega
    · refine ⟨fun id o ho hn => ?_, by simp; omega⟩
      unfold foot at hn
      have e1 : id ≠ q := fun e => hn (.inl e)
      have e4 : vid lv ≠ some id := fun e => hn (.inr (.inr (.inr e)))
      have := b3 id o ho e4
      simp [Ne.symm e1, this]
    · rcases b5 with b5 | b5
      · left; rw [← b5]; rfl
      · right; rw [b5]; rfl
end Go.Proofs.Ytbloiihagbcfpaa
