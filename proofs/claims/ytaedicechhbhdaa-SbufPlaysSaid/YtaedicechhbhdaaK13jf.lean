/- Layer 13: the document's buffer on the heap: a store that is put (no claim; lemmas). -/
import Derived.Test.YtaedicechhbhdaaK13je
set_option linter.unusedSimpArgs false
set_option linter.unusedVariables false
namespace Go.Proofs.Ytaedicechhbhdaa
open Go Go.Vm

/-- Stores in their own array. -/
inductive Rs (H : List Vm.Obj) : V → Option Nat → List SE → Prop
  | nil : Rs H .nils none []
  | one (id : Nat) (l : List SE) (hne : l ≠ []) (h : H[id]? = some (.arr (seR l))) : Rs H (.rsl id 0 l.length) (some id) l
theorem Rs.frame {H H' : List Vm.Obj} {v : V} {o : Option Nat} {l : List SE} (h : Rs H v o l) (hf : ∀ q, o = some q → H'[q]? = H[q]?) : Rs H' v o l := by
  cases h with
  | nil => exact .nil
  | one id l hne h => exact .one id l hne (by rw [hf id rfl, h])
theorem Rs.lt {H : List Vm.Obj} {v : V} {o : Option Nat} {l : List SE} (h : Rs H v o l) {q : Nat} (hq : o = some q) : q < H.length := by
  cases h with
  | nil => cases hq
  | one id l hne h => cases hq; exact get_lt h
theorem Rs.flat {H : List Vm.Obj} {v : V} {o : Option Nat} {l : List SE} (h : Rs H v o l) : v.flat = true := by cases h <;> rfl
theorem Rs.slot {H : List Vm.Obj} {v : V} {o : Option Nat} {l : List SE} (h : Rs H v o l) (q : Option Nat) : slotV q v = some v := by cases h <;> rfl
theorem Rs.len {H : List Vm.Obj} {v : V} {o : Option Nat} {l : List SE} (h : Rs H v o l) : lenV v = some l.length := by cases h <;> rfl
theorem Rs.imm {H : List Vm.Obj} {v : V} {o : Option Nat} {l : List SE} (h : Rs H v o l) : ∃ u, Sl u (seR l) ∧ ∀ vs tk d, toImm ⟨vs, tk, H⟩ true (d + 3) v = some u := by
  cases h with
  | nil => exact ⟨.nils, .nils, fun _ _ _ => rfl⟩
  | one id l hne h =>
    refine ⟨.isl true (seR l), .isl _ _, fun vs tk d => ?_⟩
    have hsame : omap2 (toImm ⟨vs, tk, H⟩ true (d + 2)) (seR l) = some (seR l) := omap2_same fun q hq x hx => by
      obtain ⟨y, _, rfl⟩ := List.mem_map.1 hq
      exact seV_imm y x hx _ _ _
    have hlen := seR_len l
    rw [e_imm_rsl]
    simp only [h]
    rw [if_pos (by omega), List.drop_zero, List.take_of_length_le (by omega), hsame]
    rfl
theorem Rs.app {H : List Vm.Obj} {v : V} {o : Option Nat} {l : List SE} (h : Rs H v o l) (hl : l.length ≤ 1000) (x : SE) :
    ∃ H', (∀ vs tk, appV 0 5 40 ⟨vs, tk, H⟩ v (.els [seV x]) = some (.rsl H.length 0 (l.length + 1), ⟨vs, tk, H'⟩)) ∧ Rs H' (.rsl H.length 0 (l.length + 1)) (some H.length) (l ++ [x]) ∧ H'.length = H.length + 1 ∧ ∀ q, q < H.length → o ≠ some q → H'[q]? = H[q]? := by
  have hfit : fits 40 (l.length + 1) = true := fits_of (by omega) (by omega)
  have hs : szAll 5 (seR l ++ [seV x]) = true := by
    have := seR_sz (l ++ [x])
    simpa [seR] using this
  have hf : flatAll [seV x] = true := by simp [flatAll, seV, V.flat]
  have e : seR (l ++ [x]) = seR l ++ [seV x] := by simp [seR]
  have hll : (l ++ [x]).length = l.length + 1 := by simp
  have mk : ∀ H' : List Vm.Obj, H'[H.length]? = some (.arr (seR (l ++ [x]))) → Rs H' (.rsl H.length 0 (l.length + 1)) (some H.length) (l ++ [x]) := fun H' hh => by
    have := Rs.one H.length (l ++ [x]) (by simp) hh
    rwa [hll] at this
  cases h with
  | nil =>
    refine ⟨H ++ [.arr (seR [x])], fun vs tk => ?_, mk _ (by simp), by simp, fun q hq _ => List.getElem?_append_left hq⟩
    simp only [List.length_nil, Nat.zero_add] at hfit
    have hs' : szAll 5 [seV x] = true := hs
    simp [appV, srcV, hfit, hs', hf, seR]
  | one id l hne h =>
    have hidl := get_lt h
    have hsl := seR_len l
    have hpos : 0 < l.length := List.length_pos_iff.2 hne
    refine ⟨H.set id .dead ++ [.arr (seR (l ++ [x]))], fun vs tk => ?_, mk _ ?_, by simp, fun q hq hne' => ?_⟩
    · rw [e]
      unfold appV
      simp only [srcV, h, List.length_singleton, hfit, hf, hs, Bool.and_self, Bool.not_true, Bool.false_eq_true, if_false]
      rw [if_neg (by omega), if_pos ⟨trivial, hsl.symm, hpos⟩]
    · rw [List.getElem?_append_right (by simp), List.length_set, Nat.sub_self]; rfl
    · rw [List.getElem?_append_left (by simpa using hq), List.getElem?_set_ne (fun e => hne' (by rw [e]))]
/-- The document's buffer that stands at a place; its objects. -/
def Dv (H : List Vm.Obj) (p : Nat) (L : List SE) (ep : Int) (F : Nat → Prop) : Prop := ∃ lv o, H[p]? = some (.arr [[lv, .int .i64 ep]]) ∧ Rs H lv o L ∧ o ≠ some p ∧ ∀ q, F q ↔ (q = p ∨ o = some q)
section
variable {H : List Vm.Obj} {p : Nat} {L : List SE} {ep : Int} {F : Nat → Prop} (h : Dv H p L ep F)
include h
theorem Dv.frame {H' : List Vm.Obj} (hf : ∀ q, F q → H'[q]? = H[q]?) : Dv H' p L ep F := by
  obtain ⟨lv, o, h1, h2, h3, h4⟩ := h
  exact ⟨lv, o, by rw [hf p ((h4 p).2 (.inl rfl)), h1], h2.frame fun q hq => hf q ((h4 q).2 (.inr hq)), h3, h4⟩
theorem Dv.lt {q : Nat} (hq : F q) : q < H.length := by
  obtain ⟨lv, o, h1, h2, h3, h4⟩ := h
  rcases (h4 q).1 hq with rfl | hq
  · exact get_lt h1
  · exact h2.lt hq
theorem Dv.imm : ∃ lv u, H[p]? = some (.arr [[lv, .int .i64 ep]]) ∧ Sl u (seR L) ∧ ∀ vs tk d, toImm ⟨vs, tk, H⟩ true (d + 3) lv = some u := by
  obtain ⟨lv, o, h1, h2, h3, h4⟩ := h
  obtain ⟨u, h5, h6⟩ := h2.imm
  exact ⟨lv, u, h1, h5, h6⟩
end
theorem Dv.new (H : List Vm.Obj) (p : Nat) (h : H[p]? = some (.arr [[.nils, .int .i64 0]])) : Dv H p [] 0 (fun q => q = p) :=
  ⟨.nils, none, h, .nil, by simp, fun q => by simp⟩

/-! ### is there room -/
def ptl (s : SE) : List (List SE) → Bool → Option Bool
  | [], b => some b
  | g :: G, b => if mtch s g then (if 7 < g.length then none else ptl s G true) else ptl s G b
theorem ptl_no (s : SE) : ∀ (G : List (List SE)) (b : Bool), (∀ g ∈ G, mtch s g = false) → ptl s G b = some b
  | [], _, _ => rfl
  | g :: G, b, h => by
    unfold ptl
    rw [h g (by simp)]
    simp only [Bool.false_eq_true, if_false]
    exact ptl_no s G b fun g hg => h g (by simp [hg])
theorem ptl_plc (s : SE) : ∀ (G : List (List SE)) (i : Nat), (G.map fun g => key (hdG g)).Nodup → (plc (s.1.addr / 8) s.2 (G.map toE) i).2 = match ptl s G false with
    | none => false
    | some true => true
    | some false => decide (i + G.length < 4)
  | [], i, _ => by simp [plc, ptl]
  | g :: G, i, hn => by
    rw [List.map_cons, List.nodup_cons] at hn
    have hm : mtch s g = true ↔ ((toE g).blk = s.1.addr / 8 ∧ (toE g).ep = s.2) := by
      unfold mtch key toE
      simp
    rw [List.map_cons]
    unfold plc ptl
    by_cases c : mtch s g = true
    · have hno : ∀ g' ∈ G, mtch s g' = false := by
        intro g' hg'
        cases q : mtch s g' with
        | false => rfl
        | true =>
          exfalso
          apply hn.1
          unfold mtch at c q
          rw [decide_eq_true_eq] at c q
          rw [c, ← q]
          exact List.mem_map_of_mem hg'
      rw [if_pos (hm.1 c), if_pos c, ptl_no s G true hno]
      have hl : (toE g).st.length = g.length := by simp [toE]
      rw [hl]
      by_cases d : 7 < g.length
      · rw [if_pos d, decide_eq_false (by omega)]
      · rw [if_neg d, decide_eq_true (by omega)]
    · rw [if_neg (fun e => c (hm.2 e)), if_neg c, ptl_plc s G (i + 1) hn.2]
      have : i + 1 + G.length = i + (g :: G).length := by simp; omega
      rw [this]
section
variable {u : V} {G : List (List SE)} (hu : Sl u (gR G)) (hne : ∀ g ∈ G, g ≠ []) (hG : G.length ≤ 1000) (hGl : ∀ g ∈ G, g.length ≤ 1000) (hGa : ∀ g ∈ G, adr (hdG g))
include hu hne hG hGl hGa
theorem PutD_loop (s : SE) (hs : adr s) (p : Nat) (H : List Vm.Obj) (k : Nat) (hk : k ≤ G.length) (b : Bool) :
    evCI pg (.loop ir_undertowref13_Buffer_Putl0) ⟨[.ptr p 0 0, .undef, .undef, .undef, .lp 1 0, u, .bool b, .int .i64 (k : Int), .undef, .undef, .undef, .undef, .undef], ⟨[[], seV s], [], H⟩⟩ =
      some (match ptl s (G.drop k) b with
        | none => (.ret, ⟨[.undef, .undef, .undef, .bool false, .undef, .undef, .undef, .undef, .undef, .undef, .undef, .undef, .undef], ⟨[[], []], [], H⟩⟩)
        | some b' => (.exit 0, ⟨[.ptr p 0 0, .undef, .undef, .undef, .lp 1 0, u, .bool b', .int .i64 (G.length : Int), .undef, .bool false, .undef, .undef, .undef], ⟨[[], seV s], [], H⟩⟩)) := by
  obtain ⟨B, hB⟩ : ∃ B, B = C.loop ir_undertowref13_Buffer_Putl0 := ⟨_, rfl⟩
  by_cases c : k < G.length
  · obtain ⟨b1, b2, b3⟩ := gR_facts hu hne c
    have hmem := List.getElem_mem c
    have e3 := succ_i64 c (by omega)
    have hto := together_ok (hdG G[k]) s (hGa _ hmem) hs
    have hm : decide (key (hdG G[k]) = key s) = mtch s G[k] := rfl
    rw [hm] at hto
    have hlen := seR_len G[k]
    have hd : G.drop k = G[k] :: G.drop (k + 1) := List.drop_eq_getElem_cons c
    have hgl := hGl _ hmem
    have i1 := PutD_loop s hs p H (k + 1) (by omega) true
    have i2 := PutD_loop s hs p H (k + 1) (by omega) b
    rw [hd]
    unfold ptl
    rw [← hB] at i1 i2
    rw [← hB, s_loop_at hB]
    clear hmem hm hd
    generalize mtch s G[k] = mk at *
    generalize hdG G[k] = y at *
    generalize hgg : G[k] = g at *
    generalize seR g = sy at *
    have b3' : sy[0] = seV y := by
      rw [List.getElem?_eq_getElem b2] at b3; exact Option.some.inj b3
    have b2' : 0 < g.length := by omega
    simp only [seV] at b3 b3' hto i1 i2 ⊢
    cases mk with
    | true =>
      simp only [if_true]
      by_cases d : 7 < g.length
      · rw [if_pos d]
        have d' : ¬ (g.length : Int) ≤ 7 := by omega
        have d'' : (7 : Int) < (g.length : Int) := by omega
        simp [ir_undertowref13_Buffer_Putl0, go_sem, hu.is, hu.rows, gR_len, c, e3, b1, b2, b2', b3, b3', hto, hlen, d, d', d'', loadAt, V.cells, V.exp, -Int.natCast_add]
      · rw [if_neg d, ← i1]
        have d' : (g.length : Int) ≤ 7 := by omega
        have d'' : ¬ (7 : Int) < (g.length : Int) := by omega
        simp [ir_undertowref13_Buffer_Putl0, go_sem, hu.is, hu.rows, gR_len, c, e3, b1, b2, b2', b3, b3', hto, hlen, d, d', d'', loadAt, V.cells, V.exp, -Int.natCast_add]
    | false =>
      simp only [Bool.false_eq_true, if_false]
      rw [← i2]
      simp [ir_undertowref13_Buffer_Putl0, go_sem, hu.is, hu.rows, gR_len, c, e3, b1, b2, b2', b3, b3', hto, hlen, loadAt, V.cells, V.exp, -Int.natCast_add]
  · obtain rfl : k = G.length := by omega
    rw [← hB, s_loop_at hB, List.drop_length]
    simp [ir_undertowref13_Buffer_Putl0, go_sem, hu.is, hu.rows, gR_len, ptl, seV]
termination_by G.length - k
end
end Go.Proofs.Ytaedicechhbhdaa
