/- Layer 13: the document's buffer: its stores by entries (no claim; lemmas). -/
import Derived.Test.YtaedicechhbhdaaK13w
set_option linter.unusedSimpArgs false
set_option linter.unusedVariables false
namespace Go.Proofs.Ytaedicechhbhdaa
open Go Go.Vm

def seV (x : SE) : List V := [.int .i64 x.1.id, .int .i64 x.1.addr, .int .i64 x.1.size, .int .u64 (x.1.data : Int), .int .i64 x.2]
def seR (L : List SE) : List (List V) := L.map seV
theorem seR_len (l : List SE) : (seR l).length = l.length := by simp [seR]
theorem seR_el (l : List SE) (i : Nat) (h : i < (seR l).length) : (seR l)[i] = seV (l[i]'(by simpa [seR] using h)) := by simp [seR]
theorem seR_all (l : List SE) : ∀ e ∈ seR l, e.length = 5 := by
  intro e he
  obtain ⟨w, _, rfl⟩ := List.mem_map.1 he
  rfl
theorem seR_flat (l : List SE) : flatAll (seR l) = true := by simp [flatAll, seR, seV, V.flat]
theorem seR_sz (l : List SE) : szAll 5 (seR l) = true := by simp [szAll, seR, seV]
def adr (x : SE) : Prop := 0 ≤ x.1.addr ∧ x.1.addr ≤ 1024
theorem quo8 {a : Int} (h : 0 ≤ a ∧ a ≤ 1024) : IntKind.i64.wrap (a.tdiv 8) = a / 8 ∧ IntKind.i64.wrap (a / 8) = a / 8 := by
  rw [Int.tdiv_eq_ediv_of_nonneg h.1]
  have : IntKind.i64.wrap (a / 8) = a / 8 := wrap_i64 (by omega) (by omega)
  exact ⟨this, this⟩
theorem together_ok (x y : SE) (hx : adr x) (hy : adr y) : evI pg .val n_undertowref13_together [.agg (seV x), .agg (seV y)] [] = some (.bool (decide (key x = key y)), []) := by
  obtain ⟨a1, a2⟩ := quo8 hx
  obtain ⟨b1, b2⟩ := quo8 hy
  have e : decide (key x = key y) = (decide (x.2 = y.2) && decide (x.1.addr / 8 = y.1.addr / 8)) := by
    unfold key
    rw [Bool.eq_iff_iff]
    simp only [Prod.mk.injEq, decide_eq_true_eq, Bool.and_eq_true]
    exact and_comm
  rw [e]
  rw [s_fn fn_undertowref13_together]
  by_cases c : x.2 = y.2
  · by_cases d : x.1.addr / 8 = y.1.addr / 8
    · simp [ir_undertowref13_together, go_sem, seV, a1, a2, b1, b2, c, d, V.cells, V.exp, loadAt, -Int.natCast_ediv]
    · simp [ir_undertowref13_together, go_sem, seV, a1, a2, b1, b2, c, d, V.cells, V.exp, loadAt, -Int.natCast_ediv]
  · simp [ir_undertowref13_together, go_sem, seV, a1, a2, b1, b2, c, V.cells, V.exp, loadAt, -Int.natCast_ediv]

/-! ### entries on the heap -/
def zSE : SE := (zW, 0)
def hdG (g : List SE) : SE := g.headD zSE
structure EAt (H : List Vm.Obj) (ov : V) (T : Nat) (I : Nat → Nat) (G : List (List SE)) : Prop where
  top : (G = [] ∧ ov = .nils) ∨ (G ≠ [] ∧ ov = .rsl T 0 G.length ∧ H[T]? = some (.arr ((List.range G.length).map fun a => [.rsl (I a) 0 (G.getD a []).length])))
  row : ∀ a, a < G.length → H[I a]? = some (.arr (seR (G.getD a [])))
  inj : ∀ a b, a < G.length → b < G.length → I a = I b → a = b
  sep : ∀ a, a < G.length → I a ≠ T
  ne : ∀ g ∈ G, g ≠ []
section
variable {H : List Vm.Obj} {ov : V} {T : Nat} {I : Nat → Nat} {G : List (List SE)} (h : EAt H ov T I G)
include h
theorem EAt.pos (hn : 0 < G.length) : ov = .rsl T 0 G.length ∧ H[T]? = some (.arr ((List.range G.length).map fun a => [.rsl (I a) 0 (G.getD a []).length])) := by
  rcases h.top with ⟨h1, _⟩ | ⟨_, h2, h3⟩
  · rw [h1] at hn; simp at hn
  · exact ⟨h2, h3⟩
theorem EAt.len : lenV ov = some G.length := by
  rcases h.top with ⟨h1, h2⟩ | ⟨_, h2, _⟩
  · rw [h1, h2]; rfl
  · rw [h2]; rfl
theorem EAt.slot (q : Option Nat) : slotV q ov = some ov := by
  rcases h.top with ⟨_, h2⟩ | ⟨_, h2, _⟩ <;> rw [h2] <;> rfl
theorem EAt.grow (hG : G.length ≤ 100000) (x : SE) :
    ∃ H2, appV 0 1 24 ⟨[], [], H ++ [.arr [seV x]]⟩ ov (.els [[.rsl H.length 0 1]]) = some (.rsl (H.length + 1) 0 (G.length + 1), ⟨[], [], H2⟩) ∧ EAt H2 (.rsl (H.length + 1) 0 (G.length + 1)) (H.length + 1) (fun a => if a = G.length then H.length else I a) (G ++ [[x]]) := by
  have hfit : fits 24 (G.length + 1) = true := fits_of (by omega) (by omega)
  have hlt : ∀ a, a < G.length → I a < H.length := fun a ha => get_lt (h.row a ha)
  have gd : ∀ a, (G ++ [[x]]).getD a [] = if a < G.length then G.getD a [] else if a = G.length then [x] else [] := by
    intro a
    rw [List.getD_eq_getElem?_getD, List.getD_eq_getElem?_getD]
    by_cases c : a < G.length
    · rw [if_pos c, List.getElem?_append_left c]
    · rw [if_neg c, List.getElem?_append_right (by omega)]
      by_cases d : a = G.length
      · subst d; simp
      · rw [if_neg d, List.getElem?_eq_none (by simp; omega)]; rfl
  have rowsN : (List.range (G.length + 1)).map (fun a => [V.rsl (if a = G.length then H.length else I a) 0 ((G ++ [[x]]).getD a []).length]) = ((List.range G.length).map fun a => [V.rsl (I a) 0 (G.getD a []).length]) ++ [[.rsl H.length 0 1]] := by
    rw [List.range_succ, List.map_append]
    congr 1
    · apply List.map_congr_left
      intro a ha
      have := List.mem_range.1 ha
      rw [if_neg (by omega), gd, if_pos this]
    · simp [gd]
  have mk : ∀ H2 : List Vm.Obj, H2[H.length + 1]? = some (.arr ((List.range (G.length + 1)).map fun a => [.rsl (if a = G.length then H.length else I a) 0 ((G ++ [[x]]).getD a []).length])) → H2[H.length]? = some (.arr [seV x]) → (∀ a, a < G.length → H2[I a]? = H[I a]?) →
      EAt H2 (.rsl (H.length + 1) 0 (G.length + 1)) (H.length + 1) (fun a => if a = G.length then H.length else I a) (G ++ [[x]]) := by
    intro H2 h1 h2 h3
    have hl : (G ++ [[x]]).length = G.length + 1 := by simp
    refine ⟨.inr ⟨by simp, by rw [hl], by rw [hl]; exact h1⟩, fun a ha => ?_, fun a b ha hb e => ?_, fun a ha => ?_, fun g hg => ?_⟩
    · rw [hl] at ha
      rw [gd]
      by_cases c : a = G.length
      · subst c
        simp only [if_true, Nat.lt_irrefl, if_false]
        exact h2
      · have : a < G.length := by omega
        simp only [c, if_false, this, if_true]
        rw [h3 a this]; exact h.row a this
    · rw [hl] at ha hb
      by_cases c : a = G.length
      · by_cases d : b = G.length
        · rw [c, d]
        · simp only [c, d, if_true, if_false] at e
          have := hlt b (by omega); omega
      · by_cases d : b = G.length
        · simp only [c, d, if_true, if_false] at e
          have := hlt a (by omega); omega
        · simp only [c, d, if_false] at e
          exact h.inj a b (by omega) (by omega) e
    · rw [hl] at ha
      by_cases c : a = G.length
      · simp only [c, if_true]; omega
      · simp only [c, if_false]; have := hlt a (by omega); omega
    · rcases List.mem_append.1 hg with hg | hg
      · exact h.ne g hg
      · simp at hg; subst hg; simp
  rcases h.top with ⟨h1, h2⟩ | ⟨h1, h2, h3⟩
  · subst h2
    have h0 : G.length = 0 := by rw [h1]; rfl
    refine ⟨H ++ [.arr [seV x]] ++ [.arr [[.rsl H.length 0 1]]], ?_, mk _ ?_ (by simp) (fun a ha => by omega)⟩
    · rw [h0] at hfit ⊢
      simp [appV, srcV, hfit, szAll, flatAll, V.flat]
    · rw [rowsN, h0]; simp
  · have hT := get_lt h3
    have h0 : 0 < G.length := List.length_pos_iff.2 h1
    subst h2
    have hT' : (H ++ [Vm.Obj.arr [seV x]])[T]? = some (.arr ((List.range G.length).map fun a => [.rsl (I a) 0 (G.getD a []).length])) := by rw [List.getElem?_append_left hT]; exact h3
    refine ⟨(H ++ [Vm.Obj.arr [seV x]]).set T Vm.Obj.dead ++ [Vm.Obj.arr (((List.range G.length).map fun a => [.rsl (I a) 0 (G.getD a []).length]) ++ [[.rsl H.length 0 1]])], ?_, mk _ (by rw [rowsN]; simp) ?_ (fun a ha => ?_)⟩
    · have hs : szAll 1 (((List.range G.length).map fun a => [V.rsl (I a) 0 (G.getD a []).length]) ++ [[.rsl H.length 0 1]]) = true := by simp [szAll]
      have c1 : ¬ (0 + G.length + [[V.rsl H.length 0 1]].length ≤ ((List.range G.length).map fun a => [V.rsl (I a) 0 (G.getD a []).length]).length) := by simp
      have c2 : (0 = 0 ∧ G.length = ((List.range G.length).map fun a => [V.rsl (I a) 0 (G.getD a []).length]).length ∧ 0 < G.length) := ⟨rfl, by simp, h0⟩
      have hf : flatAll [[V.rsl H.length 0 1]] = true := by simp [flatAll, V.flat]
      unfold appV
      simp only [srcV, hT', List.length_singleton, hfit, hf, hs, Bool.and_self, Bool.not_true, Bool.false_eq_true, if_false]
      rw [if_neg (by simp), if_pos ⟨trivial, c2.2⟩]
      simp
    · rw [List.getElem?_append_left (by simp), List.getElem?_set_ne (by omega), List.getElem?_append_right (by omega)]; simp
    · have := hlt a ha
      rw [List.getElem?_append_left (by simp; omega), List.getElem?_set_ne (Ne.symm (h.sep a ha)), List.getElem?_append_left this]
/-- A store more in an entry. -/
theorem EAt.add (x : SE) {k : Nat} (hk : k < G.length) (hg : (G.getD k []).length ≤ 100000) (hx : 0 < (G.getD k []).length) :
    appV 2 5 40 ⟨[], [], H⟩ (.rsl (I k) 0 (G.getD k []).length) (.els [seV x]) = some (.rsl H.length 0 ((G.getD k []).length + 1), ⟨[], [], H.set (I k) .dead ++ [.arr (seR (G.getD k [] ++ [x]))]⟩) ∧
      EAt ((H.set (I k) Vm.Obj.dead ++ [Vm.Obj.arr (seR (G.getD k [] ++ [x]))]).set T (Vm.Obj.arr (((List.range G.length).map fun a => [V.rsl (I a) 0 (G.getD a []).length]).set k [V.rsl H.length 0 ((G.getD k []).length + 1)]))) ov T
        (fun a => if a = k then H.length else I a) (G.set k (G.getD k [] ++ [x])) := by
  have hrow := h.row k hk
  have hlt : ∀ a, a < G.length → I a < H.length := fun a ha => get_lt (h.row a ha)
  obtain ⟨hv, hT⟩ := h.pos (by omega)
  have hTl := get_lt hT
  have hsep := h.sep k hk
  have gd : ∀ a, (G.set k (G.getD k [] ++ [x])).getD a [] = if a = k then G.getD k [] ++ [x] else G.getD a [] := by
    intro a
    rw [List.getD_eq_getElem?_getD]
    by_cases c : a = k
    · subst c; simp [hk]
    · rw [if_neg c, List.getElem?_set_ne (Ne.symm c), List.getD_eq_getElem?_getD]
  constructor
  · have hfit : fits 40 ((G.getD k []).length + 1) = true := fits_of (by omega) (by omega)
    have hs : szAll 5 (seR (G.getD k []) ++ [seV x]) = true := by
      have := seR_sz (G.getD k [] ++ [x])
      simpa [seR] using this
    have hf : flatAll [seV x] = true := by simp [flatAll, seV, V.flat]
    have hsl := seR_len (G.getD k [])
    have e : seR (G.getD k [] ++ [x]) = seR (G.getD k []) ++ [seV x] := by simp [seR]
    rw [e]
    unfold appV
    simp only [srcV, hrow, List.length_singleton, hfit, hf, hs, Bool.and_self, Bool.not_true, Bool.false_eq_true, if_false]
    rw [if_neg (by omega), if_pos ⟨trivial, hsl.symm, hx⟩]
  · have hl : (G.set k (G.getD k [] ++ [x])).length = G.length := by simp
    refine ⟨.inr ⟨fun e => by rw [e] at hl; simp at hl; omega, by rw [hl]; exact hv, ?_⟩, fun a ha => ?_, fun a b ha hb e => ?_, fun a ha => ?_, fun g hg' => ?_⟩
    · rw [List.getElem?_set_self (by simp; omega), hl]
      congr 2
      apply List.ext_getElem
      · simp
      · intro j h1 h2
        simp only [List.length_set, List.length_map, List.length_range] at h1
        rw [List.getElem_set]
        simp only [List.getElem_map, List.getElem_range, gd]
        by_cases c : k = j
        · subst c; simp
        · rw [if_neg c, if_neg (fun e => c e.symm), if_neg (fun e => c e.symm)]
    · rw [hl] at ha
      rw [gd]
      by_cases c : a = k
      · subst c
        simp only [if_true]
        rw [List.getElem?_set_ne (by omega), List.getElem?_append_right (by simp), List.length_set, Nat.sub_self]
        rfl
      · simp only [c, if_false]
        have h1 := hlt a ha
        have h2 : I k ≠ I a := fun e => c (h.inj a k ha hk e.symm)
        rw [List.getElem?_set_ne (Ne.symm (h.sep a ha)), List.getElem?_append_left (by simp; omega), List.getElem?_set_ne h2]
        exact h.row a ha
    · rw [hl] at ha hb
      by_cases c : a = k
      · by_cases d : b = k
        · rw [c, d]
        · simp only [c, d, if_true, if_false] at e
          have := hlt b hb; omega
      · by_cases d : b = k
        · simp only [c, d, if_true, if_false] at e
          have := hlt a ha; omega
        · simp only [c, d, if_false] at e
          exact h.inj a b ha hb e
    · rw [hl] at ha
      by_cases c : a = k
      · simp only [c, if_true]; omega
      · simp only [c, if_false]; exact h.sep a ha
    · rcases List.mem_or_eq_of_mem_set hg' with hg' | hg'
      · exact h.ne g hg'
      · subst hg'; simp
end
end Go.Proofs.Ytaedicechhbhdaa
