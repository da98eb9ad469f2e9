/- Layer 13: the document's entries, whole (no claim; lemmas). -/
import Derived.Test.YtaedicechhbhdaaK13jb
set_option linter.unusedSimpArgs false
set_option linter.unusedVariables false
namespace Go.Proofs.Ytaedicechhbhdaa
open Go Go.Vm

theorem addG_len (x : SE) : ∀ G : List (List SE), (addG x G).length ≤ G.length + 1
  | [] => by simp [addG]
  | g :: G => by
    have := addG_len x G
    unfold addG
    split
    · simp
    · simp; omega
/-- Entries, as values. -/
def gR (G : List (List SE)) : List (List V) := G.map fun g => [.isl false (seR g)]
theorem gR_len (G : List (List SE)) : (gR G).length = G.length := by simp [gR]
theorem gR_el (G : List (List SE)) (i : Nat) (h : i < (gR G).length) : (gR G)[i] = [.isl false (seR (G[i]'(by simpa [gR] using h)))] := by simp [gR]
theorem gR_all (G : List (List SE)) : ∀ e ∈ gR G, e.length = 1 := by
  intro e he
  obtain ⟨w, _, rfl⟩ := List.mem_map.1 he
  rfl
theorem seV_imm (x : SE) : ∀ v ∈ seV x, ∀ (m : Mem) (t : Bool) (d : Nat), toImm m t (d + 1) v = some v := by
  intro v hv m t d
  simp only [seV, List.mem_cons, List.not_mem_nil, or_false] at hv
  rcases hv with rfl | rfl | rfl | rfl | rfl <;> rfl
theorem EAt.imm {H : List Vm.Obj} {ov : V} {T : Nat} {I : Nat → Nat} {G : List (List SE)} (h : EAt H ov T I G) : ∀ vs tk d, toImm ⟨vs, tk, H⟩ false (d + 3) ov = some (ils (gR G)) := by
  rcases h.top with ⟨h0, h1⟩ | ⟨h0, h1, h2⟩
  · subst h1; subst h0
    exact fun _ _ _ => rfl
  · subst h1
    have hil : ils (gR G) = .isl false (gR G) := by
      obtain ⟨g, G', rfl⟩ := List.exists_cons_of_ne_nil h0
      rfl
    rw [hil]
    intro vs tk d
    have key : ∀ l : List Nat, (∀ a ∈ l, a < G.length) → omap2 (toImm ⟨vs, tk, H⟩ false (d + 2)) (l.map fun a => [V.rsl (I a) 0 (G.getD a []).length]) = some (l.map fun a => [V.isl false (seR (G.getD a []))]) := by
      intro l
      induction l with
      | nil => intro _; rfl
      | cons a l ih =>
        intro hl
        have ha := hl a (by simp)
        have hrow := h.row a ha
        have hlen := seR_len (G.getD a [])
        have hsame : omap2 (toImm ⟨vs, tk, H⟩ false (d + 1)) (seR (G.getD a [])) = some (seR (G.getD a [])) := omap2_same fun q hq x hx => by
          obtain ⟨y, _, rfl⟩ := List.mem_map.1 hq
          exact seV_imm y x hx _ _ _
        have e1 : toImm ⟨vs, tk, H⟩ false (d + 2) (.rsl (I a) 0 (G.getD a []).length) = some (.isl false (seR (G.getD a []))) := by
          rw [e_imm_rsl]
          simp only [hrow]
          rw [if_pos (by omega), List.drop_zero, List.take_of_length_le (by omega), hsame]
          rfl
        simp only [List.map_cons, omap2, omap, e1, ih (fun b hb => hl b (by simp [hb]))]
    have e2 : ((List.range G.length).map fun a => [V.isl false (seR (G.getD a []))]) = gR G := by
      apply List.ext_getElem
      · simp [gR]
      · intro i h1 h2
        rw [gR_el]
        simp at h1
        simp [h1]
    rw [e_imm_rsl]
    simp only [h2]
    rw [if_pos (by simp), List.drop_zero, List.take_of_length_le (by simp), key _ (fun a ha => List.mem_range.1 ha), e2]
    rfl
section
variable {t : Bool} {lv : V} {L : List SE} {ep : Int} (hv : Sl lv (seR L)) (ha : ∀ x ∈ L, adr x) (hL : L.length ≤ 1000)
include hv ha hL
theorem Ent_l1 (i : Nat) (hi : i ≤ L.length) {H : List Vm.Obj} {ov : V} {T : Nat} {I : Nat → Nat} (h : EAt H ov T I (ents (L.take i))) :
    ∃ H' ov' T' I', evCI pg (.loop ir_undertowref13_Buffer_Entriesl1) ⟨[.ip t [lv, .int .i64 ep] 0, .undef, ov, .int .i64 (i : Int), .undef, .undef, .undef, .undef, .undef, .undef], ⟨[], [], H⟩⟩ =
        some (.exit 0, ⟨[.ip t [lv, .int .i64 ep] 0, .undef, ov', .int .i64 (L.length : Int), .undef, .undef, .bool false, .undef, .undef, .undef], ⟨[], [], H'⟩⟩) ∧ EAt H' ov' T' I' (ents L) := by
  obtain ⟨B, hB⟩ : ∃ B, B = C.loop ir_undertowref13_Buffer_Entriesl1 := ⟨_, rfl⟩
  by_cases c : i < L.length
  · have e1 := fun m => hv.ia (sz := 5) m .i64 (i := i) (by rw [seR_len]; exact c) (seR_all _ _ (List.getElem_mem _))
    simp only [seR_el] at e1
    have e3 := succ_i64 c (by omega)
    have hgl := ents_glen (L.take i)
    have htl : (L.take i).length = i := by rw [List.length_take]; omega
    rw [htl] at hgl
    have hGa : ∀ g ∈ ents (L.take i), adr (hdG g) := fun g hg => ha _ (List.mem_of_mem_take (ents_sub _ g hg _ (hd_mem (ents_ne _ g hg))))
    have hl0 := Ent_l0 (t := t) (ep := ep) hv ha i c h (by omega) hGa 0 (by omega) (-1)
    rw [List.drop_zero, Int.natCast_zero] at hl0
    have hsn : ents (L.take (i + 1)) = addG L[i] (ents (L.take i)) := by rw [List.take_succ_eq_append_getElem c, ents_snoc]
    by_cases hm : ∃ g ∈ ents (L.take i), mtch L[i] g = true
    · obtain ⟨k, k1, k2, k3⟩ := lat_some L[i] (ents (L.take i)) 0 (-1) (ents_nodup _) hm
      obtain ⟨tr, f1, f0, f2, f3, f4, f5, f6, f7, f8, f9, f10⟩ := h.facts k1
      have hg8 := hgl.2 _ f10
      obtain ⟨a1, a2⟩ := h.add L[i] k1 (by omega) f9
      rw [← f0] at a2
      rw [← k3, ← hsn] at a2
      obtain ⟨H', ov', T', I', r1, r2⟩ := Ent_l1 (i + 1) (by omega) a2
      refine ⟨H', ov', T', I', ?_, r2⟩
      rw [k2, Nat.zero_add] at hl0
      have hkn : ¬ (k : Int) < 0 := by omega
      have hsep := h.sep k k1
      have u1 : (H.set (I k) Vm.Obj.dead ++ [Vm.Obj.arr (seR ((ents (L.take i)).getD k [] ++ [L[i]]))])[T]? = some (.arr tr) := by
        rw [List.getElem?_append_left (by simp; omega), List.getElem?_set_ne hsep]; exact f3
      have g3 := get_el f3 f4
      have g6 := get_el f6 f7
      rw [← r1, ← hB]
      conv => lhs; rw [s_loop_at hB]
      subst f1
      generalize ents (L.take i) = G at *
      generalize G.getD k [] = g at *
      generalize hH1 : H.set (I k) Vm.Obj.dead ++ [Vm.Obj.arr (seR (g ++ [L[i]]))] = H1 at *
      have u2 := get_lt u1
      have u3 := get_el u1 u2
      have hkt : k < tr.length := by omega
      have f5' : tr[k] = [V.rsl (I k) 0 g.length] := by
        rw [List.getElem?_eq_getElem hkt] at f5; exact Option.some.inj f5
      have hkG : (k : Int) < (G.length : Int) := by omega
      clear f0 k3 hsn hH1
      simp only [seV] at e1 a1
      simp [ir_undertowref13_Buffer_Entriesl1, go_sem, hv.is, hv.rows, seR_len, c, e1, e3, hl0, hkn, k1, hkG, f2, f3, f4, f5, f5', hkt, g3, u1, u2, u3, a1, litParts, V.cells, evStore, splice, loadAt, -Int.natCast_add]
    · have hno : ∀ g ∈ ents (L.take i), mtch L[i] g = false := fun g hg => by
        cases q : mtch L[i] g with
        | false => rfl
        | true => exact absurd ⟨g, hg, q⟩ hm
      obtain ⟨k2, k3⟩ := lat_none L[i] (ents (L.take i)) 0 (-1) hno
      obtain ⟨H2, a1, a2⟩ := h.grow (by omega) L[i]
      rw [← k3, ← hsn] at a2
      obtain ⟨H', ov', T', I', r1, r2⟩ := Ent_l1 (i + 1) (by omega) a2
      refine ⟨H', ov', T', I', ?_, r2⟩
      rw [k2] at hl0
      have hsl := h.slot
      rw [← r1, ← hB]
      conv => lhs; rw [s_loop_at hB]
      generalize ents (L.take i) = G at *
      clear k3 hsn
      simp only [seV] at e1 a1
      simp [ir_undertowref13_Buffer_Entriesl1, go_sem, hv.is, hv.rows, seR_len, c, e1, e3, hl0, a1, hsl, litParts, V.cells, loadAt, -Int.natCast_add]
  · obtain rfl : i = L.length := by omega
    rw [List.take_length] at h
    have hsl := h.slot
    refine ⟨H, ov, T, I, ?_, h⟩
    rw [← hB, s_loop_at hB]
    simp [ir_undertowref13_Buffer_Entriesl1, go_sem, hv.is, hv.rows, seR_len, hsl]
termination_by L.length - i
theorem EntriesD_eq : evI pg .val n_undertowref13_Buffer_Entries [.ip t [lv, .int .i64 ep] 0] [] = some (ils (gR (ents L)), []) := by
  have h0 : EAt [] .nils 0 (fun _ => 0) (ents (L.take 0)) := ⟨.inl ⟨rfl, rfl⟩, fun a ha => by simp [ents] at ha, fun a b ha => by simp [ents] at ha, fun a ha => by simp [ents] at ha, fun g hg => by simp [ents] at hg⟩
  obtain ⟨H', ov', T', I', r1, r2⟩ := Ent_l1 (t := t) (ep := ep) hv ha hL 0 (by omega) h0
  have him8 := fun vs tk => r2.imm vs tk 5
  simp only [Nat.reduceAdd] at him8
  have hsl := r2.slot
  rw [Int.natCast_zero] at r1
  rw [s_fn fn_undertowref13_Buffer_Entries]
  simp [ir_undertowref13_Buffer_Entries, go_sem, r1, hsl, him8]
theorem EntriesD_ok : ∃ u, evI pg .val n_undertowref13_Buffer_Entries [.ip t [lv, .int .i64 ep] 0] [] = some (u, []) ∧ Sl u (gR (ents L)) := ⟨_, EntriesD_eq hv ha hL, .ils _⟩
end
end Go.Proofs.Ytaedicechhbhdaa
