/- Layer 13: the document's entries (no claim; lemmas). -/
import Derived.Test.YtaedicechhbhdaaK13ja
set_option linter.unusedSimpArgs false
set_option linter.unusedVariables false
namespace Go.Proofs.Ytaedicechhbhdaa
open Go Go.Vm

/-! ### plain -/
def mtch (x : SE) (g : List SE) : Bool := decide (key (hdG g) = key x)
def latD (x : SE) : List (List SE) → Nat → Int → Int
  | [], _, a => a
  | g :: G, k, a => latD x G (k + 1) (if mtch x g then (k : Int) else a)
def addG (x : SE) : List (List SE) → List (List SE)
  | [] => [[x]]
  | g :: G => if mtch x g then (g ++ [x]) :: G else g :: addG x G
def ents (L : List SE) : List (List SE) := L.foldl (fun G x => addG x G) []
def toE (g : List SE) : En := ⟨(hdG g).1.addr / 8, (hdG g).2, g.map Prod.fst⟩
theorem ents_snoc (L : List SE) (x : SE) : ents (L ++ [x]) = addG x (ents L) := by simp [ents, List.foldl_append]
theorem ek_toE (g : List SE) : ek (toE g) = key (hdG g) := rfl
theorem addG_ne (x : SE) : ∀ {G : List (List SE)}, (∀ g ∈ G, g ≠ []) → ∀ g ∈ addG x G, g ≠ []
  | [], _, g, hg => by simp [addG] at hg; subst hg; simp
  | g0 :: G, h, g, hg => by
    unfold addG at hg
    split at hg
    · rcases List.mem_cons.1 hg with rfl | hg
      · simp
      · exact h g (List.mem_cons_of_mem _ hg)
    · rcases List.mem_cons.1 hg with rfl | hg
      · exact h _ (by simp)
      · exact addG_ne x (fun g hg => h g (List.mem_cons_of_mem _ hg)) g hg
theorem ents_ne (L : List SE) : ∀ g ∈ ents L, g ≠ [] := by
  induction L using snoc_ind with
  | h0 => intro g hg; simp [ents] at hg
  | hs l a ih => rw [ents_snoc]; exact addG_ne a ih
theorem addG_toE (x : SE) : ∀ {G : List (List SE)}, (∀ g ∈ G, g ≠ []) → (addG x G).map toE = addS (x.1.addr / 8) x.2 x.1 (G.map toE)
  | [], _ => rfl
  | g :: G, h => by
    have ih := addG_toE x (G := G) fun g hg => h g (List.mem_cons_of_mem _ hg)
    have hg := h g (by simp)
    have hm : mtch x g = true ↔ ((toE g).blk = x.1.addr / 8 ∧ (toE g).ep = x.2) := by
      unfold mtch key toE
      simp
    unfold addG
    rw [List.map_cons, addS_cons]
    by_cases c : mtch x g = true
    · rw [if_pos c, if_pos (hm.1 c), List.map_cons]
      congr 1
      obtain ⟨y, r, rfl⟩ := List.exists_cons_of_ne_nil hg
      simp [toE, hdG]
    · rw [if_neg c, if_neg (fun e => c (hm.2 e)), List.map_cons, ih]
theorem ents_toE (L : List SE) : (ents L).map toE = grp L := by
  induction L using snoc_ind with
  | h0 => rfl
  | hs l a ih => rw [ents_snoc, grp_snoc, addG_toE a (ents_ne l), ih]
theorem ents_len (L : List SE) : (ents L).length = (grp L).length := by rw [← ents_toE, List.length_map]
theorem lat_none (x : SE) : ∀ (G : List (List SE)) (k : Nat) (a : Int), (∀ g ∈ G, mtch x g = false) → latD x G k a = a ∧ addG x G = G ++ [[x]]
  | [], _, _, _ => ⟨rfl, rfl⟩
  | g :: G, k, a, h => by
    have hg := h g (by simp)
    obtain ⟨h1, h2⟩ := lat_none x G (k + 1) a fun g hg => h g (List.mem_cons_of_mem _ hg)
    unfold latD addG
    rw [hg]
    simp only [Bool.false_eq_true, if_false, h1, h2, List.cons_append, and_self]
theorem lat_some (x : SE) : ∀ (G : List (List SE)) (k : Nat) (a : Int), (G.map fun g => key (hdG g)).Nodup → (∃ g ∈ G, mtch x g = true) →
    ∃ j : Nat, j < G.length ∧ latD x G k a = ((k + j : Nat) : Int) ∧ addG x G = G.set j (G.getD j [] ++ [x])
  | [], _, _, _, h => by obtain ⟨g, hg, _⟩ := h; cases hg
  | g :: G, k, a, hn, h => by
    rw [List.map_cons, List.nodup_cons] at hn
    unfold latD addG
    by_cases c : mtch x g = true
    · have hno : ∀ g' ∈ G, mtch x g' = false := by
        intro g' hg'
        cases q : mtch x g' with
        | false => rfl
        | true =>
          exfalso
          apply hn.1
          unfold mtch at c q
          rw [decide_eq_true_eq] at c q
          rw [c, ← q]
          exact List.mem_map_of_mem hg'
      obtain ⟨h1, _⟩ := lat_none x G (k + 1) (k : Int) hno
      rw [if_pos c, if_pos c, h1]
      exact ⟨0, by simp, by simp, rfl⟩
    · rw [if_neg c, if_neg c]
      obtain ⟨g', hg', hm⟩ := h
      have : g' ∈ G := by
        rcases List.mem_cons.1 hg' with rfl | h
        · exact absurd hm c
        · exact h
      obtain ⟨j, h1, h2, h3⟩ := lat_some x G (k + 1) a hn.2 ⟨g', this, hm⟩
      refine ⟨j + 1, by simp; omega, by rw [h2]; omega, ?_⟩
      rw [h3]
      rfl
theorem ents_nodup (L : List SE) : ((ents L).map fun g => key (hdG g)).Nodup := by
  have := grp_nodup L
  rw [← ents_toE, List.map_map] at this
  exact this
theorem hd_mem {g : List SE} (h : g ≠ []) : hdG g ∈ g := by
  obtain ⟨y, r, rfl⟩ := List.exists_cons_of_ne_nil h
  simp [hdG]
theorem addG_sub (x : SE) : ∀ {G : List (List SE)} {y : SE} {g : List SE}, g ∈ addG x G → y ∈ g → y = x ∨ ∃ g' ∈ G, y ∈ g'
  | [], y, g, hg, hy => by
    simp [addG] at hg
    subst hg
    simp at hy
    exact .inl hy
  | g0 :: G, y, g, hg, hy => by
    unfold addG at hg
    split at hg
    · rcases List.mem_cons.1 hg with rfl | hg
      · rcases List.mem_append.1 hy with hy | hy
        · exact .inr ⟨g0, by simp, hy⟩
        · simp at hy; exact .inl hy
      · exact .inr ⟨g, List.mem_cons_of_mem _ hg, hy⟩
    · rcases List.mem_cons.1 hg with rfl | hg
      · exact .inr ⟨_, by simp, hy⟩
      · rcases addG_sub x hg hy with h | ⟨g', h1, h2⟩
        · exact .inl h
        · exact .inr ⟨g', List.mem_cons_of_mem _ h1, h2⟩
theorem ents_sub (L : List SE) : ∀ g ∈ ents L, ∀ y ∈ g, y ∈ L := by
  induction L using snoc_ind with
  | h0 => intro g hg; simp [ents] at hg
  | hs l a ih =>
    rw [ents_snoc]
    intro g hg y hy
    rcases addG_sub a hg hy with rfl | ⟨g', h1, h2⟩
    · simp
    · exact List.mem_append_left _ (ih g' h1 y h2)
theorem ents_glen (L : List SE) : (ents L).length ≤ L.length ∧ ∀ g ∈ ents L, g.length ≤ L.length := by
  induction L using snoc_ind with
  | h0 => simp [ents]
  | hs l a ih =>
    rw [ents_snoc]
    by_cases h : ∃ g ∈ ents l, mtch a g = true
    · obtain ⟨j, h1, _, h3⟩ := lat_some a (ents l) 0 0 (ents_nodup l) h
      rw [h3]
      refine ⟨by simp; omega, fun g hg => ?_⟩
      rcases List.mem_or_eq_of_mem_set hg with hg | hg
      · have := ih.2 g hg; simp; omega
      · subst hg
        have : (ents l).getD j [] ∈ ents l := by rw [List.getD_eq_getElem?_getD, List.getElem?_eq_getElem h1]; exact List.getElem_mem h1
        have := ih.2 _ this
        simp only [List.length_append, List.length_singleton]; omega
    · obtain ⟨_, h3⟩ := lat_none a (ents l) 0 0 fun g hg => by
        cases q : mtch a g with
        | false => rfl
        | true => exact absurd ⟨g, hg, q⟩ h
      rw [h3]
      refine ⟨by simp; omega, fun g hg => ?_⟩
      rcases List.mem_append.1 hg with hg | hg
      · have := ih.2 g hg; simp; omega
      · simp at hg; subst hg; simp

/-! ### the walk -/
theorem EAt.facts {H : List Vm.Obj} {ov : V} {T : Nat} {I : Nat → Nat} {G : List (List SE)} (h : EAt H ov T I G) {k : Nat} (hk : k < G.length) :
    ∃ tr, ov = .rsl T 0 G.length ∧ tr = ((List.range G.length).map fun a => [V.rsl (I a) 0 (G.getD a []).length]) ∧ tr.length = G.length ∧ H[T]? = some (.arr tr) ∧ T < H.length ∧ tr[k]? = some [.rsl (I k) 0 (G.getD k []).length] ∧ H[I k]? = some (.arr (seR (G.getD k []))) ∧ I k < H.length ∧
      (seR (G.getD k []))[0]? = some (seV (hdG (G.getD k []))) ∧ 0 < (G.getD k []).length ∧ G.getD k [] ∈ G := by
  obtain ⟨h1, h2⟩ := h.pos (by omega)
  have hm : G.getD k [] ∈ G := by rw [List.getD_eq_getElem?_getD, List.getElem?_eq_getElem hk]; exact List.getElem_mem hk
  have hne := h.ne _ hm
  refine ⟨_, h1, rfl, by simp, h2, get_lt h2, by simp [hk], h.row k hk, get_lt (h.row k hk), ?_, List.length_pos_iff.2 hne, hm⟩
  obtain ⟨y, r, hy⟩ := List.exists_cons_of_ne_nil hne
  rw [hy]
  simp [seR, hdG]
section
variable {t : Bool} {lv : V} {L : List SE} {ep : Int} (hv : Sl lv (seR L)) (ha : ∀ x ∈ L, adr x)
include hv ha
theorem Ent_l0 (i : Nat) (hi : i < L.length) {H : List Vm.Obj} {ov : V} {T : Nat} {I : Nat → Nat} {G : List (List SE)} (h : EAt H ov T I G) (hG : G.length ≤ 1000) (hGa : ∀ g ∈ G, adr (hdG g)) (k : Nat) (hk : k ≤ G.length) (a : Int) :
    evCI pg (.loop ir_undertowref13_Buffer_Entriesl0) ⟨[.ip t [lv, .int .i64 ep] 0, .undef, ov, .int .i64 (i : Int), .int .i64 a, .int .i64 (k : Int), .undef, .undef, .undef, .undef], ⟨[], [], H⟩⟩ =
      some (.exit 2, ⟨[.ip t [lv, .int .i64 ep] 0, .undef, ov, .int .i64 (i : Int), .int .i64 (latD L[i] (G.drop k) k a), .int .i64 (G.length : Int), .undef, .bool false, .undef, .undef], ⟨[], [], H⟩⟩) := by
  obtain ⟨B, hB⟩ : ∃ B, B = C.loop ir_undertowref13_Buffer_Entriesl0 := ⟨_, rfl⟩
  by_cases c : k < G.length
  · obtain ⟨tr, f1, f0, f2, f3, f4, f5, f6, f7, f8, f9, f10⟩ := h.facts c
    clear f0
    have e1 := fun m => hv.ia (sz := 5) m .i64 (i := i) (by rw [seR_len]; exact hi) (seR_all _ _ (List.getElem_mem _))
    simp only [seR_el] at e1
    have hgk : G[k] = G.getD k [] := by rw [List.getD_eq_getElem?_getD, List.getElem?_eq_getElem c]; rfl
    have hto := together_ok (hdG (G.getD k [])) L[i] (hGa _ f10) (ha _ (List.getElem_mem hi))
    have hm : decide (key (hdG (G.getD k [])) = key L[i]) = mtch L[i] (G.getD k []) := rfl
    rw [hm] at hto
    have e3 := succ_i64 c (by omega)
    have ih := Ent_l0 i hi h hG hGa (k + 1) (by omega) (if mtch L[i] (G.getD k []) then (k : Int) else a)
    have hd : latD L[i] (G.drop k) k a = latD L[i] (G.drop (k + 1)) (k + 1) (if mtch L[i] (G.getD k []) then (k : Int) else a) := by
      rw [List.drop_eq_getElem_cons c, hgk]; rfl
    rw [hd, ← ih, ← hB]
    conv => lhs; rw [s_loop_at hB]
    have g3 := get_el f3 f4
    have g6 := get_el f6 f7
    subst f1
    generalize G.getD k [] = g at *
    have hsl : 0 < (seR g).length := by rw [seR_len]; exact f9
    have f8' : (seR g)[0] = seV (hdG g) := by
      rw [List.getElem?_eq_getElem hsl] at f8; exact Option.some.inj f8
    have hgl := seR_len g
    generalize seR g = sg at *
    have hkt : k < tr.length := by omega
    have f5' : tr[k] = [V.rsl (I k) 0 g.length] := by
      rw [List.getElem?_eq_getElem hkt] at f5; exact Option.some.inj f5
    simp only [seV] at f8 f8' e1 hto
    cases q : mtch L[i] g with
    | true =>
      rw [q] at hto
      simp [ir_undertowref13_Buffer_Entriesl0, go_sem, c, e1, e3, hto, f2, f3, f4, f5, f5', hkt, f6, f7, f8, f8', f9, g3, g6, hgl, hsl, loadAt, hv.is, -Int.natCast_add]
    | false =>
      rw [q] at hto
      simp [ir_undertowref13_Buffer_Entriesl0, go_sem, c, e1, e3, hto, f2, f3, f4, f5, f5', hkt, f6, f7, f8, f8', f9, g3, g6, hgl, hsl, loadAt, hv.is, -Int.natCast_add]
  · obtain rfl : k = G.length := by omega
    have hlen := h.len
    have hsl := h.slot
    rw [← hB, s_loop_at hB, List.drop_length]
    rcases h.top with ⟨h1, h2⟩ | ⟨_, h2, _⟩
    · subst h1; subst h2
      simp [ir_undertowref13_Buffer_Entriesl0, go_sem, latD, hv.is]
    · subst h2
      simp [ir_undertowref13_Buffer_Entriesl0, go_sem, latD, hv.is]
termination_by G.length - k
end
end Go.Proofs.Ytaedicechhbhdaa
