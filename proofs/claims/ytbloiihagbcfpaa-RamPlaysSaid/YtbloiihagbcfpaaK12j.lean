/- Layer 12: the document's memory, made; both memories side by side (no claim; lemmas). -/
import Derived.Test.YtbloiihagbcfpaaK12i
set_option linter.unusedSimpArgs false
set_option linter.unusedVariables false
set_option linter.unusedSectionVars false
namespace Go.Proofs.Ytbloiihagbcfpaa
open Go Go.Vm

theorem byt_app {H : List Vm.Obj} {av : V} {l : List Nat} (h : Lg H av (byV l)) (x : Nat) (hl : l.length ≤ 2000) (vs : List (List V)) (tk : List Nat) :
    ∃ j H', appV 2 1 1 ⟨vs, tk, H⟩ av (.els [[.int .u8 (x : Int)]]) = some (.osl true j (byV (l ++ [x])), ⟨vs, tk, H'⟩) ∧ Lg H' (.osl true j (byV (l ++ [x]))) (byV (l ++ [x])) ∧
      (∀ id o, H[id]? = some o → vid av ≠ some id → H'[id]? = some o) ∧ H.length ≤ H'.length ∧ (some j = vid av ∨ j = H.length) := by
  have hne : byV (l ++ [x]) ≠ [] := by simp [byV]
  have e4 : byV (l ++ [x]) = byV l ++ [[.int .u8 (x : Int)]] := by simp [byV]
  generalize hes : byV l = es at h
  cases h with
  | nils =>
    have hl : l = [] := by simpa [byV] using hes
    subst hl
    refine ⟨H.length, H ++ [.tok 1], ?_, .tok _ _ (by simp [byV]) hne, fun id o ho _ => ?_, by simp, .inr rfl⟩
    · simp [appV, srcV, fits, maxB, szAll, immAll, V.imm, byV]
    · rw [List.getElem?_append_left (get_lt ho)]; exact ho
  | tok j es hj hne' =>
    subst hes
    have hf : fits 1 ((byV l).length + 1) = true := fits_of (by omega) (by rw [byV_len]; omega)
    have hjl := get_lt hj
    refine ⟨j, H.set j (.tok (byV (l ++ [x])).length), ?_, .tok _ _ (by simp [hjl]) hne, fun id o ho hv => ?_, by simp, .inl rfl⟩
    · have e1 : immAll (byV l ++ [[.int .u8 (x : Int)]]) = true := by rw [imm_append, byV_imm]; rfl
      have e2 : szAll 1 (byV l ++ [[.int .u8 (x : Int)]]) = true := by rw [sz_append, byV_sz]; rfl
      have e3 : (byV (l ++ [x])).length = (byV l).length + 1 := by simp [byV]
      rw [e3, e4]
      simp [appV, srcV, hf, e1, e2, hj]
    · have : j ≠ id := fun e => hv (by rw [e]; rfl)
      simp [this, ho]
theorem refNew_loop {v : V} {img : List Nat} (h : Sl v (byV img)) (q : Nat) (i : Nat) (hi : i ≤ min img.length 1024) (H : List Vm.Obj) (av : V) (hp : H[q]? = some (.arr [rfC av .nils z3])) (ha : Lg H av (byV (img.take i))) :
    ∃ H' av', evCI pg (.loop ir_undertowref12_Newl0) ⟨[v, .undef, .ptr q 0 0, .int .i64 (i : Int), .undef], ⟨[], [], H⟩⟩ =
      some (.exit 0, ⟨[v, .undef, .ptr q 0 0, .int .i64 ((min img.length 1024 : Nat) : Int), .bool false], ⟨[], [], H'⟩⟩) ∧
      H'[q]? = some (.arr [rfC av' .nils z3]) ∧ Lg H' av' (byV (img.take (min img.length 1024))) ∧ Frm H H' (fun id => id = q ∨ vid av = some id) ∧ (∀ id, vid av' = some id → vid av = some id ∨ H.length ≤ id) := by
  by_cases c : i < min img.length 1024
  · have c1 : i < img.length := by omega
    have c2 : i < 1024 := by omega
    have c3 : (i : Int) < 1024 := by omega
    obtain ⟨j, H1, a1, a2, a3, a4, a5⟩ := byt_app ha img[i] (by simp; omega) [] []
    have hqa : vid av ≠ some q := ha.not_arr hp
    have hp1 := a3 q _ hp hqa
    have hpl := get_lt hp
    have hp1l := get_lt hp1
    have e1 := fun m => h.ia (sz := 1) m .i64 (i := i) (by rw [byV_len]; omega) (byV_elS _ _ _)
    simp only [byV_el] at e1
    have e6 : IntKind.i64.wrap ((i : Int) + 1) = ((i + 1 : Nat) : Int) := by rw [wrap_i64 (by omega) (by omega)]; rfl
    rw [← List.take_succ_eq_append_getElem c1] at a1 a2
    have hrow : Lg (H1.set q (.arr [rfC (.osl true j (byV (img.take (i + 1)))) .nils z3])) (.osl true j (byV (img.take (i + 1)))) (byV (img.take (i + 1))) := by
      refine a2.frame fun id o hid ho => ?_
      have : q ≠ id := by
        rintro rfl
        exact a2.not_arr hp1 hid
      simp [this, ho]
    obtain ⟨H', av', b1, b2, b3, b4, b5⟩ := refNew_loop h q (i + 1) (by omega) (H1.set q (.arr [rfC (.osl true j (byV (img.take (i + 1)))) .nils z3])) (.osl true j (byV (img.take (i + 1)))) (by simp [hp1l]) hrow
    obtain ⟨B, hB⟩ : ∃ B, B = C.loop ir_undertowref12_Newl0 := ⟨_, rfl⟩
    rw [← hB] at b1
    refine ⟨H', av', ?_, b2, b3, ⟨fun id o ho hf => b4.get id o ?_ ?_, ?_⟩, fun id hid => ?_⟩
    · rw [← hB, s_loop_at hB]
      unfold rfC z3 at *
      simp [ir_undertowref12_Newl0, go_sem, h.is, h.rows, byV_len, c1, c2, c3, e1, get_el hp, get_el hp1, hpl, hp1l, litParts, a1, e6, b1, -Int.natCast_add]
    · have h1 : id ≠ q := fun e => hf (.inl e)
      rw [List.getElem?_set_ne (Ne.symm h1)]
      exact a3 id o ho fun e => hf (.inr e)
    · rintro (h | h)
      · exact hf (.inl h)
      · simp only [vid, Option.some.injEq] at h
        rcases a5 with a5 | a5
        · exact hf (.inr (by rw [← a5, h]))
        · have := get_lt ho
          omega
    · have := b4.len
      simp at this; omega
    · rcases b5 id hid with h | h
      · simp only [vid, Option.some.injEq] at h
        rcases a5 with a5 | a5
        · left; rw [← a5, h]
        · right; omega
      · simp at h; right; omega
  · have hin : i = min img.length 1024 := by omega
    refine ⟨H, av, ?_, hp, hin ▸ ha, ⟨fun id o ho _ => ho, Nat.le_refl _⟩, fun id h => .inl h⟩
    rw [← hin, s_loop]
    by_cases d : i < img.length
    · have d2 : ¬ (i : Int) < 1024 := by omega
      have d3 : ¬ i < 1024 := by omega
      simp [ir_undertowref12_Newl0, go_sem, h.is, h.rows, byV_len, d, d2, d3]
    · simp [ir_undertowref12_Newl0, go_sem, h.is, h.rows, byV_len, d]
termination_by min img.length 1024 - i
theorem refNew_ok {v : V} {img : List Nat} (h : Sl v (byV img)) (H : List Vm.Obj) :
    ∃ q av H', evI pg .heap n_undertowref12_New [v] H = some (.ptr q 0 0, H') ∧ RfAt H' q av .nils (img.take 1024) [] z3 ∧
      Frm H H' (fun _ => False) ∧ (∀ id, foot q av .nils .nils id → H.length ≤ id) := by
  have hp2 : (H ++ [Vm.Obj.arr [rfC .nils .nils z3]])[H.length]? = some (.arr [rfC .nils .nils z3]) := by simp
  obtain ⟨H', av, l1, l2, l3, l4, l5⟩ := refNew_loop h H.length 0 (by omega) (H ++ [.arr [rfC .nils .nils z3]]) .nils hp2 .nils
  have et : img.take (min img.length 1024) = img.take 1024 := by
    by_cases hc : img.length ≤ 1024
    · rw [List.take_of_length_le hc, List.take_of_length_le (by omega)]
    · rw [show min img.length 1024 = 1024 by omega]
  rw [et] at l3
  have hll := l4.len
  simp at hll
  refine ⟨H.length, av, H', ?_, ⟨l2, l3, .nils, fun j _ h => (by cases h), by simp; omega⟩, ⟨fun id o ho _ => ?_, by omega⟩, ?_⟩
  · rw [s_fn fn_undertowref12_New]
    unfold rfC z3 at *
    rw [show ((0 : Nat) : Int) = 0 from rfl] at l1
    simp [ir_undertowref12_New, go_sem, h.is, l1]
  · have hl := get_lt ho
    refine l4.get id o ?_ ?_
    · rw [List.getElem?_append_left hl]; exact ho
    · rintro (h | h)
      · omega
      · cases h
  · intro id hid
    rcases hid with rfl | hid | hid | hid
    · exact Nat.le_refl _
    · rcases l5 id hid with h9 | h9
      · cases h9
      · simp at h9; omega
    · cases hid
    · cases hid

/-! ### both -/
theorem RmAt.frame {H H' : List Vm.Obj} {p : Nat} {bv tv lv : V} {bytes : List Nat} {tags : List Int} {log : List Wr} {r : P3} (h : RmAt H p bv tv lv bytes tags log r)
    (hf : ∀ id o, foot p bv tv lv id → H[id]? = some o → H'[id]? = some o) : RmAt H' p bv tv lv bytes tags log r :=
  ⟨hf p _ (.inl rfl) h.obj, h.b.frame fun id o hid ho => hf id o (.inr (.inl hid)) ho, h.t.frame fun id o hid ho => hf id o (.inr (.inr (.inl hid))) ho, h.l.frame fun id o hid ho => hf id o (.inr (.inr (.inr hid))) ho, h.lt, h.le, h.by_⟩
theorem RfAt.frame {H H' : List Vm.Obj} {q : Nat} {av lv : V} {at_ : List Nat} {log : List Wr} {r : P3} (h : RfAt H q av lv at_ log r)
    (hf : ∀ id o, foot q av .nils lv id → H[id]? = some o → H'[id]? = some o) : RfAt H' q av lv at_ log r :=
  ⟨hf q _ (.inl rfl) h.obj, h.a.frame fun id o hid ho => hf id o (.inr (.inl hid)) ho, h.l.frame fun id o hid ho => hf id o (.inr (.inr (.inr hid))) ho, h.ne, h.le⟩
theorem RmAt.flt {H : List Vm.Obj} {p : Nat} {bv tv lv : V} {bytes : List Nat} {tags : List Int} {log : List Wr} {r : P3} (h : RmAt H p bv tv lv bytes tags log r) {id : Nat} (hf : foot p bv tv lv id) : id < H.length := by
  rcases hf with rfl | hf | hf | hf
  · exact get_lt h.obj
  · exact h.b.vlt hf
  · exact h.t.vlt hf
  · exact h.l.vlt hf
theorem RfAt.flt {H : List Vm.Obj} {q : Nat} {av lv : V} {at_ : List Nat} {log : List Wr} {r : P3} (h : RfAt H q av lv at_ log r) {id : Nat} (hf : foot q av .nils lv id) : id < H.length := by
  rcases hf with rfl | hf | hf | hf
  · exact get_lt h.obj
  · exact h.a.vlt hf
  · cases hf
  · exact h.l.vlt hf
theorem foot_new {p : Nat} {bv tv lv lv' : V} {n id : Nat} (h : vid lv' = vid lv ∨ vid lv' = some n) (hf : foot p bv tv lv' id) : foot p bv tv lv id ∨ id = n := by
  rcases hf with rfl | hf | hf | hf
  · exact .inl (.inl rfl)
  · exact .inl (.inr (.inl hf))
  · exact .inl (.inr (.inr (.inl hf)))
  · rcases h with h | h
    · exact .inl (.inr (.inr (.inr (h ▸ hf))))
    · rw [h] at hf
      exact .inr (by cases hf; rfl)
structure Both (H : List Vm.Obj) (p : Nat) (bv tv lv : V) (q : Nat) (av lw : V) (at_ : List Nat) (s : Rm) : Prop where
  rm : RmS H p bv tv lv s
  rf : RfAt H q av lw at_ s.log s.r
  inv : LInv at_ s
  dj : ∀ id, foot p bv tv lv id → ¬ foot q av .nils lw id
section
variable {H : List Vm.Obj} {p : Nat} {bv tv lv : V} {q : Nat} {av lw : V} {at_ : List Nat} {s : Rm}
theorem Both.store (h : Both H p bv tv lv q av lw at_ s) (hv : Int) (w : Wr) (hw : okWr w) (hlog : s.log.length ≤ 1000000) :
    ∃ lv' lw' H1 H2, evI pg .heap n_ram_Ram_Store [.ptr p 0 0, .int .i64 hv, .agg (wrV w)] H = some (.bool (stOk at_.length hv w), H1) ∧
      evI pg .heap n_undertowref12_Ram_Store [.ptr q 0 0, .int .i64 hv, .agg (wrV w)] H1 = some (.bool (stOk at_.length hv w), H2) ∧ Both H2 p bv tv lv' q av lw' at_ (s.store hv w) := by
  obtain ⟨lv', H1, s1, s2, s3, s4⟩ := Store_ok h.rm hv w hw.d hlog
  rw [h.inv.len] at s1
  have rf1 : RfAt H1 q av lw at_ s.log s.r := h.rf.frame fun id o hid ho => s3.get id o ho fun e => h.dj id e hid
  obtain ⟨lw', H2, t1, t2, t3, t4⟩ := refStore_ok rf1 hv w hw hlog
  have dj1 : ∀ id, foot p bv tv lv' id → ¬ foot q av .nils lw id := by
    intro id h1 h2
    rcases foot_new s4 h1 with h1 | h1
    · exact h.dj id h1 h2
    · have := h.rf.flt h2
      omega
  have dj2 : ∀ id, foot p bv tv lv' id → ¬ foot q av .nils lw' id := by
    intro id h1 h2
    rcases foot_new t4 h2 with h2 | h2
    · exact dj1 id h1 h2
    · have := s2.flt h1
      omega
  refine ⟨lv', lw', H1, H2, s1, t1, s2.frame fun id o hid ho => t3.get id o ho (dj1 id hid), ?_, h.inv.store hv w hw.d, dj2⟩
  have e1 : (s.store hv w).log = logO at_.length s.log hv w := by
    unfold Rm.store logO
    rw [h.inv.len]
    split <;> rfl
  have e2 : (s.store hv w).r = rO at_.length s.r hv w := by
    unfold Rm.store rO
    rw [h.inv.len]
    split <;> rfl
  rw [e1, e2]
  exact t2
theorem Both.put (h : Both H p bv tv lv q av lw at_ s) (r' : P3) :
    ∃ H1 H2, H1 = H.set p (.arr [rmC bv tv lv r']) ∧ H2 = H1.set q (.arr [rfC av lw r']) ∧ RfAt H1 q av lw at_ s.log s.r ∧ Both H2 p bv tv lv q av lw at_ { s with r := r' } := by
  have hpq : p ≠ q := fun e => h.dj p (.inl rfl) (.inl e)
  have f1 : RfAt (H.set p (.arr [rmC bv tv lv r'])) q av lw at_ s.log s.r := h.rf.frame fun id o hid ho => by
    have : p ≠ id := fun e => h.dj id (.inl e.symm) hid
    simp [this, ho]
  have g1 := RmAt.put h.rm r'
  refine ⟨_, _, rfl, rfl, f1, ?_, f1.put r', ⟨h.inv.len, h.inv.tl, h.inv.b, h.inv.t, h.inv.l⟩, h.dj⟩
  refine g1.frame fun id o hid ho => ?_
  have : q ≠ id := fun e => h.dj id hid (.inl e.symm)
  rw [List.getElem?_set_ne this]
  exact ho
theorem Both.reserve (h : Both H p bv tv lv q av lw at_ s) (k a n : Int) (hi : i64B a) :
    ∃ b s' H1 H2, evI pg .heap n_ram_Ram_Reserve [.ptr p 0 0, .int .i64 k, .int .i64 a, .int .i64 n] H = some (.bool b, H1) ∧
      evI pg .heap n_undertowref12_Ram_Reserve [.ptr q 0 0, .int .i64 k, .int .i64 a, .int .i64 n] H1 = some (.bool b, H2) ∧ Both H2 p bv tv lv q av lw at_ s' ∧ s'.log = s.log := by
  have g := Reserve_ok h.rm k a n
  rw [h.inv.len] at g
  cases hc : mayB at_.length a n && isH k with
  | false =>
    rw [hc] at g
    have g2 := refReserve_ok h.rf k a n hi
    rw [hc] at g2
    exact ⟨false, s, H, H, g, g2, h, rfl⟩
  | true =>
    rw [hc] at g
    obtain ⟨H1, H2, rfl, rfl, f1, f2⟩ := h.put (s.r.put k a n)
    have g2 := refReserve_ok f1 k a n hi
    rw [hc] at g2
    exact ⟨true, _, _, _, g, g2, f2, rfl⟩
theorem Both.drop (h : Both H p bv tv lv q av lw at_ s) (k : Int) :
    ∃ s' H1 H2, evI pg .heap n_ram_Ram_Drop [.ptr p 0 0, .int .i64 k] H = some (.tup [], H1) ∧
      evI pg .heap n_undertowref12_Ram_Drop [.ptr q 0 0, .int .i64 k] H1 = some (.tup [], H2) ∧ Both H2 p bv tv lv q av lw at_ s' ∧ s'.log = s.log := by
  have g := Drop_ok h.rm.obj k
  cases hc : isH k with
  | false =>
    rw [hc] at g
    have g2 := refDrop_ok h.rf.obj k
    rw [hc] at g2
    exact ⟨s, H, H, g, g2, h, rfl⟩
  | true =>
    rw [hc] at g
    obtain ⟨H1, H2, rfl, rfl, f1, f2⟩ := h.put (s.r.put k 0 0)
    have g2 := refDrop_ok f1.obj k
    rw [hc] at g2
    exact ⟨_, _, _, g, g2, f2, rfl⟩
end
end Go.Proofs.Ytbloiihagbcfpaa
