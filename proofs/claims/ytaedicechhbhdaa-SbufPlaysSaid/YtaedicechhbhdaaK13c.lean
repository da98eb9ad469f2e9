/- Layer 13: the program's buffer on the heap (no claim; lemmas). -/
import Derived.Test.YtaedicechhbhdaaK13b
set_option linter.unusedSimpArgs false
set_option linter.unusedVariables false
namespace Go.Proofs.Ytaedicechhbhdaa
open Go Go.Vm

theorem get_lt {H : List Vm.Obj} {p : Nat} {o : Vm.Obj} (h : H[p]? = some o) : p < H.length := (List.getElem?_eq_some_iff.1 h).1
theorem get_el {H : List Vm.Obj} {p : Nat} {o : Vm.Obj} (h : H[p]? = some o) (hl : p < H.length) : H[p] = o := (List.getElem?_eq_some_iff.1 h).2
/-- Whose object a slice is. -/
def vid : V → Option Nat
  | .rsl id _ _ => some id
  | .osl true j _ => some j
  | _ => none
/-- A list that is put more behind. -/
inductive Lg (H : List Vm.Obj) : V → List (List V) → Prop
  | nils : Lg H .nils []
  | tok (j : Nat) (es : List (List V)) (h : H[j]? = some (.tok es.length)) (hne : es ≠ []) : Lg H (.osl true j es) es
theorem Lg.frame {H H' : List Vm.Obj} {v : V} {es : List (List V)} (h : Lg H v es) (hf : ∀ id, vid v = some id → H'[id]? = H[id]?) : Lg H' v es := by
  cases h with
  | nils => exact .nils
  | tok j es h hne => exact .tok j es (by rw [hf j rfl, h]) hne
theorem Lg.imm {H : List Vm.Obj} {v : V} {es : List (List V)} (h : Lg H v es) (m : Mem) (d : Nat) : toImm m true (d + 1) v = some (ils es) := by
  cases h with
  | nils => rfl
  | tok j es h hne => rfl
theorem Lg.flat {H : List Vm.Obj} {v : V} {es : List (List V)} (h : Lg H v es) : v.flat = true := by cases h <;> rfl
theorem Lg.exp {H : List Vm.Obj} {v : V} {es : List (List V)} (h : Lg H v es) : v.exp = some v := by cases h <;> rfl
theorem Lg.vtok {H : List Vm.Obj} {v : V} {es : List (List V)} (h : Lg H v es) {j : Nat} (hj : vid v = some j) : ∃ n, H[j]? = some (.tok n) := by
  cases h with
  | nils => cases hj
  | tok j es h hne => cases hj; exact ⟨_, h⟩
/-- Entries' rows, and how their lists are held. -/
def rowH (e : En) (s : V) : List V := [.int .i64 e.blk, .int .i64 e.ep, s]
def rowsH : List En → List V → List (List V)
  | e :: es, s :: ss => rowH e s :: rowsH es ss
  | _, _ => []
theorem rowsH_len : ∀ (es : List En) (ss : List V), ss.length = es.length → (rowsH es ss).length = es.length
  | [], [], _ => rfl
  | [], s :: ss, h => by simp at h
  | e :: es, [], h => by simp at h
  | e :: es, s :: ss, h => by simp [rowsH, rowsH_len es ss (by simpa using h)]
theorem rowsH_get : ∀ (es : List En) (ss : List V) (h : ss.length = es.length) (i : Nat) (hi : i < es.length), (rowsH es ss)[i]? = some (rowH es[i] (ss[i]'(by omega)))
  | e :: es, s :: ss, h, 0, hi => rfl
  | e :: es, s :: ss, h, i + 1, hi => by
    simp only [rowsH, List.getElem?_cons_succ, List.getElem_cons_succ]
    exact rowsH_get es ss (by simpa using h) i (by simpa using hi)
  | [], ss, h, i, hi => by simp at hi
  | e :: es, [], h, i, hi => by simp at h
theorem rowsH_app : ∀ (es es' : List En) (ss ss' : List V), ss.length = es.length → rowsH (es ++ es') (ss ++ ss') = rowsH es ss ++ rowsH es' ss'
  | [], es', [], ss', _ => rfl
  | [], es', s :: ss, ss', h => by simp at h
  | e :: es, es', [], ss', h => by simp at h
  | e :: es, es', s :: ss, ss', h => by simp [rowsH, rowsH_app es es' ss ss' (by simpa using h)]
theorem rowsH_sz : ∀ (es : List En) (ss : List V), ∀ r ∈ rowsH es ss, r.length = 3
  | [], ss, r, h => by cases ss <;> simp [rowsH] at h
  | e :: es, [], r, h => by simp [rowsH] at h
  | e :: es, s :: ss, r, h => by
    simp only [rowsH, List.mem_cons] at h
    rcases h with rfl | h
    · rfl
    · exact rowsH_sz es ss r h
theorem rowsH_set : ∀ (es : List En) (ss : List V) (i : Nat) (e : En) (s : V), (rowsH es ss).set i (rowH e s) = rowsH (es.set i e) (ss.set i s)
  | [], ss, i, e, s => by cases ss <;> simp [rowsH]
  | e' :: es, [], i, e, s => by
    cases i with
    | zero => simp [rowsH]
    | succ i => simp [rowsH]
  | e' :: es, s' :: ss, 0, e, s => by simp [rowsH]
  | e' :: es, s' :: ss, i + 1, e, s => by simp [rowsH, rowsH_set es ss i e s]

/-- The buffer that stands somewhere. -/
structure BufAt (H : List Vm.Obj) (p : Nat) (es : List En) (ep : Int) (ev : V) (ss : List V) (x : List (List V)) : Prop where
  obj : H[p]? = some (.arr [[ev, .int .i64 ep]])
  ent : (ev = .nils ∧ es = [] ∧ x = []) ∨ ∃ id, ev = .rsl id 0 es.length ∧ H[id]? = some (.arr (rowsH es ss ++ x)) ∧ rowsH es ss ++ x ≠ []
  len : ss.length = es.length
  sx : ∀ r ∈ x, r.length = 3
  lg : ∀ i (h : i < es.length), Lg H (ss[i]'(by omega)) (wsV es[i].st)
  ds : ∀ i k (hi : i < k) (hk : k < es.length) (j : Nat), vid (ss[i]'(by omega)) = some j → vid (ss[k]'(by omega)) ≠ some j
/-- Its objects. -/
def ft (p : Nat) (ev : V) (ss : List V) (q : Nat) : Prop := q = p ∨ vid ev = some q ∨ ∃ s ∈ ss, vid s = some q
theorem BufAt.frame {H H' : List Vm.Obj} {p : Nat} {es : List En} {ep : Int} {ev : V} {ss : List V} {x : List (List V)} (h : BufAt H p es ep ev ss x) (hf : ∀ q, ft p ev ss q → H'[q]? = H[q]?) : BufAt H' p es ep ev ss x := by
  refine ⟨by rw [hf p (.inl rfl)]; exact h.obj, ?_, h.len, h.sx, fun i hi => (h.lg i hi).frame fun id hid => hf id (.inr (.inr ⟨_, List.getElem_mem _, hid⟩)), h.ds⟩
  rcases h.ent with h1 | ⟨id, h1, h2, h3⟩
  · exact .inl h1
  · exact .inr ⟨id, h1, by rw [hf id (.inr (.inl (by rw [h1]; rfl))), h2], h3⟩
section
variable {H : List Vm.Obj} {p : Nat} {es : List En} {ep : Int} {ev : V} {ss : List V} {x : List (List V)} (h : BufAt H p es ep ev ss x)
include h
theorem BufAt.vid_p : vid ev ≠ some p := by
  rcases h.ent with ⟨h1, _⟩ | ⟨id, h1, h2, h3⟩
  · rw [h1]; intro hc; cases hc
  · rw [h1]
    intro hc
    cases hc
    rw [h.obj] at h2
    simp only [Option.some.injEq, Vm.Obj.arr.injEq] at h2
    have hr : ([ev, .int .i64 ep] : List V) ∈ rowsH es ss ++ x := by rw [← h2]; simp
    have : ([ev, .int .i64 ep] : List V).length = 3 := by
      rcases List.mem_append.1 hr with hr | hr
      · exact rowsH_sz _ _ _ hr
      · exact h.sx _ hr
    simp at this
theorem BufAt.vid_s {s : V} (hs : s ∈ ss) {j : Nat} (hj : vid s = some j) : j ≠ p ∧ vid ev ≠ some j := by
  obtain ⟨i, hi, rfl⟩ := List.mem_iff_getElem.1 hs
  obtain ⟨n, hn⟩ := (h.lg i (by have := h.len; omega)).vtok hj
  constructor
  · rintro rfl
    rw [h.obj] at hn
    cases hn
  · rcases h.ent with ⟨h1, _⟩ | ⟨id, h1, h2, h3⟩
    · rw [h1]; intro hc; cases hc
    · rw [h1]
      intro hc
      cases hc
      rw [h2] at hn
      cases hn
theorem BufAt.lt {q : Nat} (hq : ft p ev ss q) : q < H.length := by
  rcases hq with rfl | hq | ⟨s, hs, hq⟩
  · exact get_lt h.obj
  · rcases h.ent with ⟨h1, _⟩ | ⟨id, h1, h2, h3⟩
    · rw [h1] at hq; cases hq
    · rw [h1] at hq; cases hq; exact get_lt h2
  · obtain ⟨i, hi, rfl⟩ := List.mem_iff_getElem.1 hs
    obtain ⟨n, hn⟩ := (h.lg i (by have := h.len; omega)).vtok hq
    exact get_lt hn
theorem BufAt.imm : ∃ u, Sl u (enR es) ∧ ∀ vs tk d, toImm ⟨vs, tk, H⟩ true (d + 3) ev = some u := by
  rcases h.ent with ⟨h1, h2, _⟩ | ⟨id, h1, h2, h3⟩
  · exact ⟨.nils, by rw [h2]; exact .nils, fun _ _ _ => by rw [h1]; rfl⟩
  · refine ⟨.isl true (enR es), .isl _ _, fun vs tk d => ?_⟩
    have hl := rowsH_len es ss h.len
    have key : ∀ (l : List En) (t : List V), t.length = l.length → (∀ i (hi : i < l.length) (hi' : i < t.length), Lg H t[i] (wsV l[i].st)) → omap2 (toImm ⟨vs, tk, H⟩ true (d + 2)) (rowsH l t) = some (enR l) := by
      intro l
      induction l with
      | nil => intro t ht _; cases t <;> simp at ht; rfl
      | cons e l ih =>
        intro t ht hg
        cases t with
        | nil => simp at ht
        | cons s t =>
          have h0 : Lg H s (wsV e.st) := hg 0 (by simp) (by simp)
          have ih' := ih t (by simpa using ht) fun i hi hi' => hg (i + 1) (by simpa using hi) (by simpa using hi')
          simp only [rowsH, rowH, omap2, omap, toImm_int, h0.imm ⟨vs, tk, H⟩ (d + 1), ih']
          rfl
    rw [h1, e_imm_rsl]
    simp only [h2]
    rw [if_pos (by rw [List.length_append]; omega), List.drop_zero, List.take_append_of_le_length (by omega), List.take_of_length_le (by omega), key es ss h.len (fun i hi hi' => h.lg i hi)]
    rfl
end

/-- A store is put into the entries. -/
def addS (b ep : Int) (w : Wr) : List En → List En
  | [] => [⟨b, ep, [w]⟩]
  | e :: es => if e.blk = b ∧ e.ep = ep then { e with st := e.st ++ [w] } :: es else e :: addS b ep w es
theorem plc_lt (b ep : Int) : ∀ (es : List En) (i : Nat), (plc b ep es i).1 ≤ i + es.length
  | [], i => by simp [plc]
  | e :: es, i => by
    unfold plc
    split
    · simp
    · have := plc_lt b ep es (i + 1)
      simp only [List.length_cons]
      omega
/-- The place, and what is put there. -/
theorem plc_addS (b ep : Int) (w : Wr) : ∀ (es : List En) (i : Nat), ∃ k, (plc b ep es i).1 = i + k ∧
    ((k = es.length ∧ addS b ep w es = es ++ [⟨b, ep, [w]⟩]) ∨ (∃ hk : k < es.length, addS b ep w es = es.set k { es[k] with st := es[k].st ++ [w] }))
  | [], i => ⟨0, by simp [plc], .inl ⟨rfl, rfl⟩⟩
  | e :: es, i => by
    unfold plc addS
    by_cases c : e.blk = b ∧ e.ep = ep
    · rw [if_pos c, if_pos c]
      exact ⟨0, rfl, .inr ⟨by simp, rfl⟩⟩
    · rw [if_neg c, if_neg c]
      obtain ⟨k, h1, h2⟩ := plc_addS b ep w es (i + 1)
      refine ⟨k + 1, by omega, ?_⟩
      rcases h2 with ⟨h2, h3⟩ | ⟨h2, h3⟩
      · exact .inl ⟨by simp [h2], by rw [h3]; rfl⟩
      · exact .inr ⟨by simpa using h2, by rw [h3]; rfl⟩
theorem appE_row (es : List En) (ss : List V) (b ep : Int) (h : ss.length = es.length) : rowsH es ss ++ [[.int .i64 b, .int .i64 ep, .nils]] = rowsH (es ++ [⟨b, ep, []⟩]) (ss ++ [.nils]) := by
  rw [rowsH_app _ _ _ _ h]; rfl
/-- A row behind the entries. -/
theorem BufAt.app {H : List Vm.Obj} {p : Nat} {es : List En} {ep : Int} {ev : V} {ss : List V} {x : List (List V)} (h : BufAt H p es ep ev ss x) (hn : es.length ≤ 4) (b : Int) (vs : List (List V)) (tk : List Nat) :
    ∃ ev' x' H1, appV 0 3 40 ⟨vs, tk, H⟩ ev (.els [[.int .i64 b, .int .i64 ep, .nils]]) = some (ev', ⟨vs, tk, H1⟩) ∧ H1[p]? = some (.arr [[ev, .int .i64 ep]]) ∧ ev'.flat = true ∧ ev'.exp = some ev' ∧ ev'.cells = [ev'] ∧
      BufAt (H1.set p (.arr [[ev', .int .i64 ep]])) p (es ++ [⟨b, ep, []⟩]) ep ev' (ss ++ [.nils]) x' ∧ H.length ≤ H1.length ∧ (∀ q, q < H.length → vid ev ≠ some q → H1[q]? = H[q]?) ∧ (∀ q, ft p ev' (ss ++ [.nils]) q → ft p ev ss q ∨ H.length ≤ q) := by
  have hp := get_lt h.obj
  have hl := rowsH_len es ss h.len
  have hrz : szAll 3 (rowsH es ss ++ x ++ [[.int .i64 b, .int .i64 ep, .nils]]) = true := by
    simp only [szAll, List.all_eq_true, List.mem_append, List.mem_singleton]
    rintro r ((hr | hr) | rfl)
    · simp [rowsH_sz _ _ _ hr]
    · simp [h.sx _ hr]
    · rfl
  have hfit : ∀ n, n ≤ 5 → fits 40 n = true := fun n hn => fits_of (by omega) (by omega)
  have newlen : (ss ++ [V.nils]).length = (es ++ [(⟨b, ep, []⟩ : En)]).length := by simp [h.len]
  have lgs : ∀ (H' : List Vm.Obj), (∀ q, (∃ s ∈ ss, vid s = some q) → H'[q]? = H[q]?) → ∀ i (hi : i < (es ++ [(⟨b, ep, []⟩ : En)]).length), Lg H' ((ss ++ [V.nils])[i]'(by rw [newlen]; exact hi)) (wsV (es ++ [(⟨b, ep, []⟩ : En)])[i].st) := by
    intro H' hf i hi
    have hsl := h.len
    by_cases c : i < es.length
    · rw [List.getElem_append_left (by omega), List.getElem_append_left c]
      exact (h.lg i c).frame fun id hid => hf id ⟨_, List.getElem_mem _, hid⟩
    · have e1 : i = es.length := by simp at hi; omega
      subst e1
      rw [List.getElem_append_right (by omega), List.getElem_append_right (by omega)]
      simp [hsl]
      exact .nils
  have dss : ∀ i k (hi : i < k) (hk : k < (es ++ [(⟨b, ep, []⟩ : En)]).length) (j : Nat), vid ((ss ++ [V.nils])[i]'(by rw [newlen]; omega)) = some j → vid ((ss ++ [V.nils])[k]'(by rw [newlen]; exact hk)) ≠ some j := by
    intro i k hi hk j hj
    have hsl := h.len
    by_cases c : k < es.length
    · rw [List.getElem_append_left (by omega)] at hj ⊢
      exact h.ds i k hi c j hj
    · have e1 : k = es.length := by simp at hk; omega
      subst e1
      rw [List.getElem_append_right (by omega)]
      simp [hsl, vid]
  have fts : ∀ (ev' : V) (id' : Nat), vid ev' = some id' → (vid ev = some id' ∨ H.length ≤ id') → ∀ q, ft p ev' (ss ++ [.nils]) q → ft p ev ss q ∨ H.length ≤ q := by
    intro ev' id' hid hor q hq
    rcases hq with rfl | hq | ⟨s, hs, hq⟩
    · exact .inl (.inl rfl)
    · rw [hid] at hq; cases hq
      rcases hor with hor | hor
      · exact .inl (.inr (.inl hor))
      · exact .inr hor
    · rcases List.mem_append.1 hs with hs | hs
      · exact .inl (.inr (.inr ⟨s, hs, hq⟩))
      · simp at hs; subst hs; cases hq
  rcases h.ent with ⟨h1, h2, h3⟩ | ⟨id, h1, h2, h3⟩
  · subst h2 h3
    have hss : ss = [] := by have := h.len; simpa using this
    subst hss
    refine ⟨.rsl H.length 0 1, [], H ++ [.arr [[.int .i64 b, .int .i64 ep, .nils]]], ?_, by rw [List.getElem?_append_left hp]; exact h.obj, rfl, rfl, rfl, ⟨?_, .inr ⟨H.length, rfl, ?_, by simp [rowsH, rowH]⟩, newlen, by simp, lgs _ (fun q hq => by simp at hq), dss⟩, by simp, fun q hq _ => List.getElem?_append_left hq, fts _ H.length rfl (.inr (Nat.le_refl _))⟩
    · rw [h1]
      simp [appV, srcV, hfit 1 (by omega), szAll, flatAll, V.flat]
    · rw [List.getElem?_set_self (by simp; omega)]
    · rw [List.getElem?_set_ne (by omega)]
      simp [rowsH, rowH]
  · have hid := get_lt h2
    have hpid : id ≠ p := by have := h.vid_p; rw [h1] at this; intro e; exact this (by rw [e]; rfl)
    have hsid : ∀ q, (∃ s ∈ ss, vid s = some q) → id ≠ q ∧ p ≠ q := by
      rintro q ⟨s, hs, hq⟩
      have := h.vid_s hs hq
      rw [h1] at this
      exact ⟨fun e => this.2 (by rw [e]; rfl), this.1.symm⟩
    cases x with
    | nil =>
      rw [List.append_nil] at h2 h3 hrz
      have hpos : 0 < es.length := by
        cases es with
        | nil => simp [rowsH] at h3
        | cons e es => simp
      refine ⟨.rsl H.length 0 (es.length + 1), [], H.set id .dead ++ [.arr (rowsH es ss ++ [[.int .i64 b, .int .i64 ep, .nils]])], ?_, ?_, rfl, rfl, rfl, ⟨?_, .inr ⟨H.length, by simp, ?_, by simp [rowsH_app _ _ _ _ h.len, rowsH]⟩, newlen, by simp, lgs _ (fun q hq => ?_), dss⟩, by simp, fun q hq hq2 => ?_, fts _ H.length rfl (.inr (Nat.le_refl _))⟩
      · rw [h1]
        have hnl : ¬ es.length + 1 ≤ es.length := by omega
        simp [appV, srcV, h2, hl, hfit (es.length + 1) (by omega), flatAll, V.flat, hrz, hpos, hnl]
      · rw [List.getElem?_append_left (by simpa using hp), List.getElem?_set_ne hpid]; exact h.obj
      · rw [List.getElem?_set_self (by simp; omega)]
      · rw [List.getElem?_set_ne (by omega), appE_row es ss b ep h.len, List.append_nil]
        simp
      · obtain ⟨a1, a2⟩ := hsid q hq
        have hql : q < H.length := by obtain ⟨s, hs, hv⟩ := hq; exact h.lt (.inr (.inr ⟨s, hs, hv⟩))
        rw [List.getElem?_set_ne a2, List.getElem?_append_left (by simpa using hql), List.getElem?_set_ne a1]
      · have : id ≠ q := by rw [h1] at hq2; intro e; exact hq2 (by rw [e]; rfl)
        rw [List.getElem?_append_left (by simpa using hq), List.getElem?_set_ne this]
    | cons x0 x =>
      refine ⟨.rsl id 0 (es.length + 1), x, H.set id (.arr (rowsH (es ++ [⟨b, ep, []⟩]) (ss ++ [.nils]) ++ x)), ?_, ?_, rfl, rfl, rfl, ⟨?_, .inr ⟨id, by simp, ?_, by simp [rowsH_app _ _ _ _ h.len, rowsH]⟩, newlen, fun r hr => h.sx r (List.mem_cons_of_mem _ hr), lgs _ (fun q hq => ?_), dss⟩, by simp, fun q hq hq2 => ?_, fts _ id rfl (.inl (by rw [h1]; rfl))⟩
      · rw [h1]
        have e1 : (rowsH es ss ++ x0 :: x).take (0 + es.length) = rowsH es ss := by rw [Nat.zero_add, List.take_append_of_le_length (by omega), List.take_of_length_le (by omega)]
        have e2 : (rowsH es ss ++ x0 :: x).drop (0 + es.length + 1) = x := by rw [Nat.zero_add, List.drop_append, hl, List.drop_of_length_le (by omega), Nat.add_sub_cancel_left]; rfl
        have hle : 0 + es.length + 1 ≤ (rowsH es ss ++ x0 :: x).length := by rw [List.length_append, hl]; simp
        simp only [appV, srcV, h2, List.length_singleton, hfit (es.length + 1) (by omega), hrz]
        rw [if_neg (by simp [flatAll, V.flat]), if_pos hle, e1, e2, appE_row es ss b ep h.len]
      · rw [List.getElem?_set_ne hpid]; exact h.obj
      · rw [List.getElem?_set_self (by simp; omega)]
      · rw [List.getElem?_set_ne (Ne.symm hpid)]
        simp [hid]
      · obtain ⟨a1, a2⟩ := hsid q hq
        rw [List.getElem?_set_ne a2, List.getElem?_set_ne a1]
      · have : id ≠ q := by rw [h1] at hq2; intro e; exact hq2 (by rw [e]; rfl)
        rw [List.getElem?_set_ne this]
end Go.Proofs.Ytaedicechhbhdaa
