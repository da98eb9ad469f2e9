/- The machine, part Vf: a small evaluation of the given code, and that the given code comes to what it says (no claim; lemmas). -/
import Derived.Test.YtnmljkhpmcgdoaaVe
import Derived.ChangeArms
import Derived.WalkKit
import Derived.ProofKit
import Derived.OpenShut
import Derived.Below
import Derived.ChangeSame
import Derived.WideKeyArgs
set_option linter.unusedSimpArgs false
set_option linter.unusedVariables false
namespace Go.Vm

def contig (P : Program) : List (TypeId × Nat) → Nat → Nat → Bool
  | [], a, b => a == b
  | (t, o) :: l, a, b => o == a && contig P l (a + P.cellsOf t) b
/-- Types of plain data. -/
def plainT (P : Program) : Nat → TypeId → Bool
  | 0, _ => false
  | n + 1, t => match P.underlying t with
    | some .bool | some (.int _) | some (.float .f64) | some .string => true
    | some (.slice e) => plainT P n e && P.cellsOf e != 0
    | some (.struct fs) => (fs.toList.all fun f => plainT P n f.type) && contig P (fs.toList.map fun f => (f.type, f.offset)) 0 (P.cellsOf t)
    | some (.array k e) => plainT P n e && contig P ((List.range k).map fun i => (e, i * P.cellsOf e)) 0 (P.cellsOf t)
    | _ => false
def PVs (f : TypeId → List V → Prop) : List TypeId → List V → Prop
  | [], vs => vs = []
  | t :: ts, vs => ∃ a b, vs = a ++ b ∧ f t a ∧ PVs f ts b
/-- The cells of a value of a type. -/
def PV (P : Program) : Nat → TypeId → List V → Prop
  | 0, _, _ => False
  | n + 1, t, vs => match P.underlying t with
    | some .bool => ∃ b, vs = [.bool b]
    | some (.int k) => ∃ x, vs = [.int k x] ∧ (Lit.int k x).wf = true
    | some (.float .f64) => ∃ b, vs = [.flt b] ∧ (Lit.float .f64 b).wf = true
    | some .string => ∃ l : List UInt8, vs = [.str l] ∧ l.length ≤ maxLen
    | some (.slice e) => vs = [.nils] ∨ ∃ es : List (List V), vs = [.isl false es] ∧ es.length ≤ maxLen ∧ ∀ q ∈ es, PV P n e q
    | some (.struct fs) => PVs (PV P n) (fs.toList.map (·.type)) vs
    | some (.array k e) => PVs (PV P n) (List.replicate k e) vs
    | _ => False
def Pic (E : Bool → Nat → Nat → Prop) (w : World) (vs : List V) (cs : List Value) : Prop :=
  vs.length = cs.length ∧ ∀ (j : Nat) (v : V), vs[j]? = some v → v.flat = true ∧ ∃ x, cs[j]? = some x ∧ VR (Gh.imm E) w 0 v x
theorem Pic.one {E : Bool → Nat → Nat → Prop} {w : World} {v : V} {x : Value} (hf : v.flat = true) (h : VR (Gh.imm E) w 0 v x) : Pic E w [v] [x] :=
  ⟨rfl, fun j u hj => by
    match j, hj with
    | 0, hj => simp at hj; subst hj; exact ⟨hf, x, rfl, h⟩
    | j + 1, hj => simp at hj⟩
theorem Pic.append {E : Bool → Nat → Nat → Prop} {w : World} {vs vs' : List V} {cs cs' : List Value} (h : Pic E w vs cs) (h' : Pic E w vs' cs') : Pic E w (vs ++ vs') (cs ++ cs') := by
  refine ⟨by simp [h.1, h'.1], fun j v hj => ?_⟩
  by_cases hl : j < vs.length
  · rw [List.getElem?_append_left hl] at hj
    rw [List.getElem?_append_left (by rw [← h.1]; exact hl)]
    exact h.2 j v hj
  · rw [List.getElem?_append_right (by omega)] at hj
    rw [List.getElem?_append_right (by rw [← h.1]; omega), ← h.1]
    exact h'.2 _ v hj

section
variable {H : Type} {enc : TypeId × Value → H} {P : Program} {w : World} {base : Nat} {spare : Nat → Bool} {held : Bool} {E : Bool → Nat → Nat → Prop}

theorem contig_le : ∀ (l : List (TypeId × Nat)) (a b : Nat), contig P l a b = true → a ≤ b
  | [], a, b, h => by simp [contig] at h; omega
  | (t, o) :: l, a, b, h => by
    simp only [contig, Bool.and_eq_true, beq_iff_eq] at h
    have := contig_le l _ b h.2
    omega
theorem pieces_ok {n m : Nat} {cs : List Value} (ih : ∀ t cs x, plainT P n t = true → DataW.trod enc P w base spare held m t cs = some x → (∀ b o, .cell b o ∈ x.2 → ∀ t, E t b o) → ∃ vs, PV P n t vs ∧ Pic E w vs cs) :
    ∀ (l : List (TypeId × Nat)) (a : Nat) (xs : List (DataW H × List MemPlace)), contig P l a cs.length = true → (∀ p ∈ l, plainT P n p.1 = true) →
      l.mapM (fun p => DataW.trod enc P w base spare held m p.1 ((cs.drop p.2).take (P.cellsOf p.1))) = some xs → (∀ x ∈ xs, ∀ b o, .cell b o ∈ x.2 → ∀ t, E t b o) →
      ∃ vs, PVs (PV P n) (l.map (·.1)) vs ∧ Pic E w vs (cs.drop a)
  | [], a, xs, hc, hp, hm, hE => by
    simp only [contig, beq_iff_eq] at hc
    subst hc
    exact ⟨[], rfl, by simp [Pic]⟩
  | (t, o) :: l, a, xs, hc, hp, hm, hE => by
    simp only [contig, Bool.and_eq_true, beq_iff_eq] at hc
    obtain ⟨rfl, hc⟩ := hc
    simp only [List.mapM_cons, Option.bind_eq_bind, Option.bind_eq_some_iff, Option.pure_def, Option.some.injEq] at hm
    obtain ⟨x, hx, ys, hys, rfl⟩ := hm
    obtain ⟨vs, h1, h2⟩ := ih t _ x (hp (t, o) (by simp)) hx (fun b o' hb => hE x (by simp) b o' hb)
    obtain ⟨us, h3, h4⟩ := pieces_ok ih l _ ys hc (fun p hp' => hp p (by simp [hp'])) hys (fun y hy => hE y (by simp [hy]))
    refine ⟨vs ++ us, ⟨vs, us, rfl, h1, h3⟩, ?_⟩
    have := h2.append h4
    have e : (cs.drop o).take (P.cellsOf t) ++ cs.drop (o + P.cellsOf t) = cs.drop o := by
      rw [← List.drop_drop, List.take_append_drop]
    rwa [e] at this

theorem cells_len {a : Addr} {n : Nat} {cs : List Value} (h : w.cells? base a n = some cs) : cs.length = n ∧ ∀ j, j < n → ∃ x, cs[j]? = some x ∧ w.cell? (a.add j) = some x := by
  unfold World.cells? at h
  split at h
  · have hl := mapM_some_length h
    refine ⟨by simpa using hl, fun j hj => ?_⟩
    have := mapM_some_get h j j (by simp [hj])
    have hj' : j < cs.length := by rw [hl]; simpa using hj
    exact ⟨cs[j], List.getElem?_eq_getElem hj', by rw [this, List.getElem?_eq_getElem hj']⟩
  · cases h
theorem spot_none {a : Addr} {x : Value} (h : w.cell? a = some x) : a.spot = none := by
  unfold World.cell? at h
  split at h
  · split at h
    · cases h
    · rename_i hs; simpa using hs
  · cases h
theorem add_eq {a : Addr} (hs : a.spot = none) (j : Nat) : a.add j = ⟨a.block, a.off + j, none⟩ := by
  unfold Addr.add
  split
  · rename_i h; subst h; cases a; simp_all
  · rfl
theorem trod_float {k : FloatKind} {fuel : Nat} {t : TypeId} {cs : List Value} {x : DataW H × List MemPlace} (ht : P.underlying t = some (.float k)) (h : DataW.trod enc P w base spare held fuel t cs = some x) : ∃ n, cs = [.float k n] ∧ (Lit.float k n).wf = true := by
  cases fuel with
  | zero => simp [DataW.trod] at h
  | succ n =>
    unfold DataW.trod at h
    rw [ht] at h
    split at h <;> simp_all
theorem trod_structM {fs : Array Field} {fuel : Nat} {t : TypeId} {cs : List Value} {x : DataW H × List MemPlace} (ht : P.underlying t = some (.struct fs)) (h : DataW.trod enc P w base spare held fuel t cs = some x) :
    ∃ (xs : List (DataW H × List MemPlace)) (n : Nat), fuel = n + 1 ∧ x.2 = xs.flatMap (·.2) ∧ cs.length = P.cellsOf t ∧ (fs.toList.mapM fun f => DataW.trod enc P w base spare held n f.type ((cs.drop f.offset).take (P.cellsOf f.type))) = some xs := by
  cases fuel with
  | zero => simp [DataW.trod] at h
  | succ n =>
    unfold DataW.trod at h
    rw [ht] at h
    split at h <;> simp_all
    obtain ⟨hl, xs, hp, hd⟩ := h
    exact ⟨xs, by rw [← hd], hp⟩
theorem trod_arrayM {k : Nat} {e : TypeId} {fuel : Nat} {t : TypeId} {cs : List Value} {x : DataW H × List MemPlace} (ht : P.underlying t = some (.array k e)) (h : DataW.trod enc P w base spare held fuel t cs = some x) :
    ∃ (xs : List (DataW H × List MemPlace)) (n : Nat), fuel = n + 1 ∧ x.2 = xs.flatMap (·.2) ∧ cs.length = P.cellsOf t ∧ ((List.range k).mapM fun i => DataW.trod enc P w base spare held n e ((cs.drop (i * P.cellsOf e)).take (P.cellsOf e))) = some xs := by
  cases fuel with
  | zero => simp [DataW.trod] at h
  | succ n =>
    unfold DataW.trod at h
    rw [ht] at h
    split at h <;> simp_all
    obtain ⟨hl, xs, hp, hd⟩ := h
    exact ⟨xs, by rw [← hd], hp⟩
theorem mapM_map' {α β γ : Type} (f : α → β) (g : β → Option γ) : ∀ (l : List α), (l.map f).mapM g = l.mapM fun x => g (f x)
  | [] => by simp
  | x :: xs => by simp [List.mapM_cons, mapM_map' f g xs]
/-- **What can be read as plain data is a picture.** -/
theorem trod_pic : ∀ (n m : Nat) (t : TypeId) (cs : List Value) (x : DataW H × List MemPlace), plainT P n t = true → DataW.trod enc P w base spare held m t cs = some x → (∀ b o, .cell b o ∈ x.2 → ∀ t, E t b o) →
    ∃ vs, PV P n t vs ∧ Pic E w vs cs := by
  intro n
  induction n with
  | zero => intro m t cs x h; simp [plainT] at h
  | succ n ih =>
    intro m t cs x hp ht hE
    cases hu : P.underlying t with
    | none => simp [plainT, hu] at hp
    | some d =>
      cases d <;> simp only [plainT, hu, Bool.false_eq_true] at hp
      case bool =>
        obtain ⟨b, rfl, _⟩ := DataW.trod_bool hu ht
        exact ⟨[.bool b], by simp [PV, hu], .one rfl (.bool _ _)⟩
      case int k =>
        obtain ⟨i, rfl, _, hw⟩ := DataW.trod_int hu ht
        exact ⟨[.int k i], by simpa [PV, hu] using hw, .one rfl (.int _ _ _)⟩
      case float k =>
        cases k <;> simp only [Bool.false_eq_true] at hp
        obtain ⟨b, rfl, hw⟩ := trod_float hu ht
        exact ⟨[.flt b], by simpa [PV, hu] using hw, .one rfl (.flt _ _)⟩
      case string =>
        obtain ⟨⟨⟨l⟩⟩, rfl, _, hl⟩ := DataW.trod_string hu ht
        exact ⟨[.str l], by simpa [PV, hu, ByteArray.size] using hl, .one rfl (.str _ _)⟩
      case struct fs =>
        simp only [Bool.and_eq_true, List.all_eq_true] at hp
        obtain ⟨xs, m', rfl, hx2, hl, hxs⟩ := trod_structM hu ht
        have := pieces_ok (H := H) (enc := enc) (w := w) (base := base) (spare := spare) (held := held) (cs := cs) (E := E) (m := m') (fun t cs x => ih m' t cs x) (fs.toList.map fun f => (f.type, f.offset)) 0 xs (by rw [hl]; exact hp.2) (fun p hp' => by
          obtain ⟨f, hf, rfl⟩ := List.mem_map.1 hp'
          exact hp.1 f hf) (by rw [mapM_map']; exact hxs) (fun x hx b o hb => hE b o (by rw [hx2]; exact List.mem_flatMap.2 ⟨x, hx, hb⟩))
        obtain ⟨vs, h1, h2⟩ := this
        refine ⟨vs, ?_, by simpa using h2⟩
        simp only [PV, hu]
        simpa [List.map_map, Function.comp_def] using h1
      case array k e =>
        simp only [Bool.and_eq_true] at hp
        obtain ⟨xs, m', rfl, hx2, hl, hxs⟩ := trod_arrayM hu ht
        have := pieces_ok (H := H) (enc := enc) (w := w) (base := base) (spare := spare) (held := held) (cs := cs) (E := E) (m := m') (fun t cs x => ih m' t cs x) ((List.range k).map fun i => (e, i * P.cellsOf e)) 0 xs (by rw [hl]; exact hp.2) (fun p hp' => by
          obtain ⟨f, hf, rfl⟩ := List.mem_map.1 hp'
          exact hp.1) (by rw [mapM_map']; exact hxs) (fun x hx b o hb => hE b o (by rw [hx2]; exact List.mem_flatMap.2 ⟨x, hx, hb⟩))
        obtain ⟨vs, h1, h2⟩ := this
        refine ⟨vs, ?_, by simpa using h2⟩
        simp only [PV, hu]
        have e1 : List.map (fun x : TypeId × Nat => x.1) ((List.range k).map fun i => (e, i * P.cellsOf e)) = List.replicate k e := by
          rw [List.map_map]
          apply List.ext_getElem <;> simp
        rwa [e1] at h1
      case slice e =>
        simp only [Bool.and_eq_true, bne_iff_ne, ne_eq] at hp
        obtain ⟨hp, hnz⟩ := hp
        rcases DataW.trod_slice hu ht with ⟨rfl, _⟩ | ⟨a, len, cap, elems, rest, m', rfl, rfl, rfl, hb, hlc, hcm, hle, hel, _, _⟩
        · exact ⟨[.nils], by simp [PV, hu], .one rfl (.nils _)⟩
        · have each : ∀ i, i < len → ∃ cs' vs, w.cells? base (a.add (i * P.cellsOf e)) (P.cellsOf e) = some cs' ∧ PV P n e vs ∧ Pic E w vs cs' := by
            intro i hi
            have h1 := hel i hi
            rw [List.getElem?_eq_getElem (by omega : i < elems.length)] at h1
            simp only [Option.bind_eq_some_iff] at h1
            obtain ⟨cs', h2, h3⟩ := h1
            obtain ⟨vs, h4, h5⟩ := ih m' e cs' _ hp h3 (fun b o hb => hE b o (by
              refine List.mem_append_right _ (List.mem_flatMap.2 ⟨elems[i], List.mem_append_left _ (List.getElem_mem _), hb⟩)))
            exact ⟨cs', vs, h2, h4, h5⟩
          obtain ⟨F, hF⟩ := Classical.axiomOfChoice (fun i : {i // i < len} => each i.1 i.2)
          obtain ⟨G, hG⟩ := Classical.axiomOfChoice hF
          let es : List (List V) := (List.range len).attach.map fun i => G ⟨i.1, by simpa using i.2⟩
          have hes : es.length = len := by simp [es]
          have hget : ∀ i q, es[i]? = some q → ∃ hi : i < len, q = G ⟨i, hi⟩ := by
            intro i q hq
            have hi : i < len := by rw [← hes]; exact (List.getElem?_eq_some_iff.1 hq).1
            refine ⟨hi, ?_⟩
            have := (List.getElem?_eq_some_iff.1 hq).2
            rw [← this]
            simp [es]
          refine ⟨[.isl false es], ?_, ?_⟩
          · simp only [PV, hu]
            refine .inr ⟨es, rfl, by rw [hes]; omega, fun q hq => ?_⟩
            obtain ⟨i, hi⟩ := List.getElem?_of_mem hq
            obtain ⟨hi', rfl⟩ := hget i q hi
            exact (hG ⟨i, hi'⟩).2.1
          · refine .one rfl ?_
            rw [← hes]
            by_cases hz : len = 0
            · have : es = [] := List.length_eq_zero_iff.1 (by omega)
              rw [this]; exact .isl0 _ _ _ _
            · have hs : a.spot = none := by
                obtain ⟨x, _, hx⟩ := (cells_len (hG ⟨0, by omega⟩).1).2 0 (by omega)
                rw [Nat.zero_mul] at hx
                exact spot_none (a := (a.add 0).add 0) hx
              have ea : (some a : Option Addr) = some ⟨a.block, a.off, none⟩ := by cases a; simp_all
              rw [ea]
              refine islT (s := P.cellsOf e) (fun q hq => ?_) (by omega) (fun i j q v hq hv => ?_)
              · obtain ⟨i, hi⟩ := List.getElem?_of_mem hq
                obtain ⟨hi', rfl⟩ := hget i q hi
                have := hG ⟨i, hi'⟩
                rw [this.2.2.1, (cells_len this.1).1]
              · obtain ⟨hi', rfl⟩ := hget i q hq
                have h3 := hG ⟨i, hi'⟩
                obtain ⟨hf, x, hx, hvr⟩ := h3.2.2.2 j v hv
                have hj : j < P.cellsOf e := by rw [← (cells_len h3.1).1, ← h3.2.2.1]; exact (List.getElem?_eq_some_iff.1 hv).1
                obtain ⟨x', hx1, hx2⟩ := (cells_len h3.1).2 j hj
                rw [hx] at hx1; cases hx1
                have e2 : (a.add (i * P.cellsOf e)).add j = ⟨a.block, a.off + i * P.cellsOf e + j, none⟩ := by
                  rw [add_eq hs, add_eq rfl]
                rw [e2] at hx2
                refine ⟨hf, ?_, x, hx2, hvr⟩
                refine hE _ _ (List.mem_append_left _ ?_) false
                refine List.mem_map.2 ⟨i * P.cellsOf e + j, ?_, by rw [Nat.add_assoc]⟩
                have hlt : i * P.cellsOf e + j < (elems.length + rest.length) * P.cellsOf e := by
                  have := Nat.mul_le_mul_right (P.cellsOf e) (show i + 1 ≤ elems.length + rest.length by omega)
                  rw [Nat.add_mul, Nat.one_mul] at this
                  omega
                simpa using hlt
end
end Go.Vm

namespace Go.Vm
open Go.RowKit Go.WideShapes Go.ChangeShapes

section
variable {H : Type} {enc : TypeId × Value → H} {P : Program}
theorem post_of_below' {f : Func} {s : ChangeSpec} {apart fresh handsOn again : Bool} {W W' : World} {args : Array Value} {v : Value} {ds gs : List (DataW H)} {before pa pv : List MemPlace}
    (hW : DataW.Whole enc P f.params.toList s.vars apart W args.toList ds gs before)
    (hres : ∀ (b : Nat) (sp : Nat → Bool) (hd : Bool), DataW.TrodAll enc P W' b sp hd f.resultTypes.toList (v.resultList f.resultTypes.size) (s.fn H (ds ++ gs)).results [])
    (hargs : ∀ sp : Nat → Bool, (∀ p ∈ before, sp p.block = true) → DataW.TrodAll enc P W' 0 sp true f.params.toList args.toList (s.fn H (ds ++ gs)).args pa)
    (hvars : ∀ sp : Nat → Bool, (∀ p ∈ before, sp p.block = true) → DataW.TrodVars enc P W' sp s.vars (s.fn H (ds ++ gs)).vars pv)
    (hps : before = pa ++ pv) (hb : Below W.heap.size W W')
    (hok : ∀ (j : Nat) (t : TypeId) (r : Value), f.resultTypes[j]? = some t → (v.resultList f.resultTypes.size)[j]? = some r → Value.okWide P W' .any 0 t r) :
    s.post enc P f apart fresh handsOn again W args v W' := by
  have hlt : ∀ p ∈ before, p.block < W.heap.size := fun p hp => hW.lt p hp
  have hold : ∀ p ∈ before, (fun b => decide (b < W.heap.size)) p.block = true := fun p hp => by simpa using hlt p hp
  refine ⟨ds, gs, before, [], pa, pv, hW, hres _ _ _, hargs _ hold, hvars _ hold, World.keptBut_mono (fun p hp => ⟨hp, ?_⟩) (hb.frame (· ∈ before)), fun _ => ?_⟩
  · rw [hps, List.mem_append] at hp
    exact Or.inr hp
  · obtain ⟨_, _, _, _, _, hz, hn⟩ := hW
    refine ⟨hok, _, _, ([] ++ pa) ++ pv, ⟨[] ++ pa, pv, trodAll_append (hargs _ (fun _ _ => rfl)) (hres _ _ _), hvars _ (fun _ _ => rfl), rfl, ?_, ?_⟩, ?_⟩
    · intro b off hp
      have hin : MemPlace.cell b off ∈ before := by rw [hps]; simpa using hp
      rw [hb.frozen (hlt _ hin)]
      exact hz b off hin
    · intro ha
      have := hn ha
      rw [hps] at this
      simpa using this
    · intro p hp _
      rw [hps]
      simpa using hp

/-- An argument of a type. -/
def ArgPV (P : Program) (n : Nat) (t : TypeId) (v : V) : Prop := match P.underlying t with
  | some (.struct _) | some (.array _ _) => ∃ vs, v = .agg vs ∧ PV P n t vs
  | _ => PV P n t [v]
def PArgs (P : Program) (n : Nat) : List TypeId → List V → Prop
  | [], vs => vs = []
  | t :: ts, vs => ∃ v us, vs = v :: us ∧ ArgPV P n t v ∧ PArgs P n ts us

theorem arg_pic {w : World} {base n : Nat} {r : Reach} {held : Bool} {spare : Nat → Bool} {E : Bool → Nat → Nat → Prop} {t : TypeId} {x : Value} {d : DataW H} {ps : List MemPlace} (hp : plainT P n t = true)
    (ht : DataW.Trod enc P w 0 spare held t x d ps) (hok : Value.okWide P w r base t x) (hE : ∀ b o, .cell b o ∈ ps → ∀ t, E t b o) : ∃ v, ArgPV P n t v ∧ VR (Gh.imm E) w 0 v x := by
  obtain ⟨m, hm⟩ := ht
  obtain ⟨vs, h1, h2⟩ := trod_pic n m t _ _ hp hm hE
  cases n with
  | zero => simp [plainT] at hp
  | succ n =>
  have agg : (∃ cs, x = .agg cs) → ((∃ fs, P.underlying t = some (.struct fs)) ∨ ∃ k e, P.underlying t = some (.array k e)) → ∃ v, ArgPV P (n + 1) t v ∧ VR (Gh.imm E) w 0 v x := by
    rintro ⟨cs, rfl⟩ hu
    refine ⟨.agg vs, ?_, .agg 0 vs cs (by simpa [Value.cells] using h2.1.symm) (fun v hv => ?_) (fun j v hj => ?_)⟩
    · rcases hu with ⟨fs, hu⟩ | ⟨k, e, hu⟩
      · simp only [ArgPV, hu]; exact ⟨vs, rfl, h1⟩
      · simp only [ArgPV, hu]; exact ⟨vs, rfl, h1⟩
    · obtain ⟨j, hj⟩ := List.getElem?_of_mem hv
      exact (h2.2 j v hj).1
    · obtain ⟨_, y, hy, hvr⟩ := h2.2 j v hj
      simp only [Value.cells, Array.getElem?_toList] at hy
      simp only [Array.getD_eq_getD_getElem?, hy]
      exact hvr
  have single : (∀ cs, x ≠ .agg cs) → (match P.underlying t with
      | some (.struct _) | some (.array _ _) => False
      | _ => True) → ∃ v, ArgPV P (n + 1) t v ∧ VR (Gh.imm E) w 0 v x := by
    intro hne hu
    have hc : x.cells.toList = [x] := by cases x <;> first | rfl | exact absurd rfl (hne _)
    rw [hc] at h2
    match vs, h1, h2 with
    | [v], h1, h2 =>
      refine ⟨v, ?_, ?_⟩
      · unfold ArgPV
        split
        · rename_i hu'; rw [hu'] at hu; exact hu.elim
        · rename_i hu'; rw [hu'] at hu; exact hu.elim
        · exact h1
      · obtain ⟨_, y, hy, hvr⟩ := h2.2 0 v rfl
        simp at hy; subst hy; exact hvr
    | [], _, h2 => simp [Pic] at h2
    | _ :: _ :: _, _, h2 => simp [Pic] at h2
  cases hu : P.underlying t with
  | none => simp [plainT, hu] at hp
  | some dd =>
    cases dd <;> simp only [plainT, hu, Bool.false_eq_true] at hp
    case struct fs =>
      simp only [Value.okWide, hu] at hok
      obtain ⟨cs, h, _⟩ := hok
      exact agg ⟨cs, h⟩ (.inl ⟨fs, hu⟩)
    case array k e =>
      simp only [Value.okWide, hu] at hok
      obtain ⟨cs, h, _⟩ := hok
      exact agg ⟨cs, h⟩ (.inr ⟨k, e, hu⟩)
    all_goals
      refine single (fun cs hx => ?_) (by rw [hu]; trivial)
      subst hx
      simp [Value.okWide, hu, Cell.okWide, Cell.ok] at hok

theorem argsPics {w : World} {base n : Nat} {r : Reach} {held : Bool} {spare : Nat → Bool} {E : Bool → Nat → Nat → Prop} : ∀ (ts : List TypeId) (xs : List Value) (ds : List (DataW H)) (ps : List MemPlace), (∀ t ∈ ts, plainT P n t = true) →
    DataW.TrodAll enc P w 0 spare held ts xs ds ps → (∀ (j : Nat) t x, ts[j]? = some t → xs[j]? = some x → Value.okWide P w r base t x) → (∀ b o, .cell b o ∈ ps → ∀ t, E t b o) →
    ds.length = ts.length ∧ ∃ vs, PArgs P n ts vs ∧ xs.length = vs.length ∧ ∀ (i : Nat) (v : V), vs[i]? = some v → VR (Gh.imm E) w 0 v (xs.getD i undef)
  | [], xs, ds, ps, hp, ht, hok, hE => by
    cases xs <;> cases ds <;> simp [DataW.TrodAll] at ht
    exact ⟨rfl, [], rfl, rfl, by simp⟩
  | t :: ts, xs, ds, ps, hp, ht, hok, hE => by
    cases xs with
    | nil => simp [DataW.TrodAll] at ht
    | cons x xs =>
      cases ds with
      | nil => simp [DataW.TrodAll] at ht
      | cons d ds =>
        obtain ⟨p, q, h1, h2, rfl⟩ := ht
        obtain ⟨v, h3, h4⟩ := arg_pic (hp t (by simp)) h1 (hok 0 t x rfl rfl) (fun b o hb => hE b o (List.mem_append_left _ hb))
        obtain ⟨hl, vs, h5, h6, h7⟩ := argsPics ts xs ds q (fun t ht => hp t (by simp [ht])) h2 (fun j t x h h' => hok (j + 1) t x (by simpa using h) (by simpa using h')) (fun b o hb => hE b o (List.mem_append_right _ hb))
        refine ⟨by simp [hl], v :: vs, ⟨v, vs, rfl, h3, h5⟩, by simp [h6], fun i u hi => ?_⟩
        cases i with
        | zero => simp at hi; subst hi; simpa using h4
        | succ i => simpa using h7 i u (by simpa using hi)
theorem trodAll_stays {W W' : World} {sp' : Nat → Bool} (hl : laidOutB P = true) : ∀ (ts : List TypeId) (xs : List Value) (ds : List (DataW H)) (ps : List MemPlace), (∀ t ∈ ts, P.readableRec t = true ∧ t < P.types.size) →
    DataW.TrodAll enc P W 0 (fun _ => true) true ts xs ds ps → (∀ p ∈ ps, W.sameAt W' p) → (∀ p ∈ ps, sp' p.block = true) → DataW.TrodAll enc P W' 0 sp' true ts xs ds ps
  | [], xs, ds, ps, hr, ht, hs, hsp => by
    cases xs <;> cases ds <;> simp [DataW.TrodAll] at ht ⊢
    exact ht
  | t :: ts, xs, ds, ps, hr, ht, hs, hsp => by
    cases xs with
    | nil => simp [DataW.TrodAll] at ht
    | cons x xs =>
      cases ds with
      | nil => simp [DataW.TrodAll] at ht
      | cons d ds =>
        obtain ⟨p, q, h1, h2, rfl⟩ := ht
        exact ⟨p, q, WideElems.Trod_stays hl (hr t (by simp)).1 (hr t (by simp)).2 h1 (fun x hx => hs x (List.mem_append_left _ hx)) (fun x hx => hsp x (List.mem_append_left _ hx)),
          trodAll_stays hl ts xs ds q (fun t ht => hr t (by simp [ht])) h2 (fun x hx => hs x (List.mem_append_right _ hx)) (fun x hx => hsp x (List.mem_append_right _ hx)), rfl⟩
end

/-- **A law that the evaluation says is true, whatever it is handed, holds.** -/
theorem law_lifted {C : Checked} {tg : Nat → Option Tg} {p : Pg} {f : Nat} {fn : Func} {s : ChangeSpec} {n : Nat} {tb : TypeId} {H : Type} {enc : TypeId × Value → H} (os : Os) (started : os.Started)
    (own : ownKnob C.prog.godebug = none) (noInit : C.prog.inits.idxOf? f = none) (hfn : C.prog.funcs[f]? = some fn) (hfo : C.prog.follows .mixedOrders = true) (hT : TgOK C.prog tg) (hp : PgOK C.prog tg p) (hl : laidOutB C.prog = true)
    (hread : fn.params.toList.all (fun t => C.prog.readableRec t && decide (t < C.prog.types.size) && plainT C.prog n t) = true) (hres : fn.resultTypes = #[tb]) (htb : C.prog.underlying tb = some .bool)
    (hv : s.vars = []) (hspec : ∀ (ds : List (DataW H)), ds.length = fn.params.size → s.fn H ds = { results := [.lit (.bool true)], args := ds })
    (witness : ∃ (w : World) (tape : Tape) (i : Input), w.os = os ∧ (w.forCall tape i).Shaped C.prog ∧ i.vars = [] ∧ Input.okWide C.prog (w.forCall tape i) .any w.heap.size f i ∧
      s.pre6 enc C.prog fn [] false (w.forCall tape i).memory i.args ∧ ({} : Assume).holds C.prog (lone (Frame.enter C.prog f i.args .normal) [] (w.forCall tape i)))
    (law : ∀ vs, PArgs C.prog n fn.params.toList vs → ∃ k, evF p k .val f vs [] = some (.bool true, [])) :
    ReturnsInHanded {} C os f .any (s.pre6 enc C.prog fn [] false) (s.post enc C.prog fn false true false false) := by
  refine returnsInHanded_of_change own started noInit hfn witness ?_
  intro W base args ds gs before hval hW _ _
  simp only [List.all_eq_true, Bool.and_eq_true, decide_eq_true_eq] at hread
  have hW' := hW
  obtain ⟨pl, q, hA, hV, rfl, hfz, hnd⟩ := hW
  rw [hv] at hV
  obtain ⟨rfl, rfl⟩ := trodVars_none hV
  obtain ⟨hdl, vs, h1, h2, h3⟩ := argsPics (E := fun _ b o => MemPlace.cell b o ∈ pl) (n := n) fn.params.toList args.toList ds pl (fun t ht => (hread t ht).2) hA (fun j t x h h' => hval j t x (by simpa using h) (by simpa using h')) (fun b o hb _ => hb)
  obtain ⟨k, hk⟩ := law vs h1
  refine ((snd_all hfo hT hp k).1 f vs (.bool true) [] hk (fun _ b o => MemPlace.cell b o ∈ pl) W args (fun _ _ h => h) (fun _ b o h => hW'.lt _ (List.mem_append_left _ h)) (by simpa using h2) (fun i v hi => ?_)).mono fun e W' ⟨x, he, hx, hf⟩ => ?_
  · have := h3 i v hi
    simpa [Array.getD_eq_getD_getElem?, List.getD_eq_getElem?_getD] using this
  · subst he
    have := hx.bool_inv
    subst this
    have hb : Below W.heap.size W W' := ⟨hf.os, hf.tape, hf.output, hf.size, hf.kept⟩
    have hsp : s.fn H (ds ++ []) = { results := [.lit (.bool true)], args := ds } := by rw [List.append_nil]; exact hspec ds (by simpa using hdl)
    refine ⟨_, rfl, post_of_below' (pa := pl) (pv := []) hW' (fun b sp hd => ?_) (fun sp hs => ?_) (fun sp hs => ?_) rfl hb (ok_one hres rfl (okWide_bool_mk htb _))⟩
    · rw [hsp, hres]
      exact trodAll_cons_mk (shut_bool htb _) trodAll_mk0
    · rw [hsp]
      exact trodAll_stays hl _ _ _ _ (fun t ht => (hread t ht).1) hA (fun x hx => hb.same (hW'.lt x (List.mem_append_left _ hx))) (fun x hx => hs x (List.mem_append_left _ hx))
    · rw [hsp, hv]; rfl
end Go.Vm

namespace Go.Vm
def tgP (P : Program) (f : Nat) : Option Tg := match P.funcs[f]? with
  | none => none
  | some fn => if fn.name == "runtime.NumGoroutine" then none else match fn.body with
    | some _ => some (.enter f)
    | none => if (Extern.findNext fn).isSome then none
      else if fn.name == "math.Float64bits" then some (.prim .bits)
      else if fn.name == "math.Float64frombits" then some (.prim .frombits)
      else if fn.name == "math.archFloor" then some (.prim .floor)
      else if fn.name == "math.archTrunc" then some (.prim .trunc)
      else none
theorem find_of {fn : Func} {n : String} {e : Array Value → Sem Value} (hn : fn.name = n) (h1 : (Extern.allGenericRows.lookup n).isNone = true) (h2 : (Extern.allTypedRows.lookup n).isNone = true) (h3 : Extern.allRows.lookup n = some e) : Extern.find fn = some e := by
  subst hn
  unfold Extern.find
  dsimp only
  rw [Option.isNone_iff_eq_none.1 h1, Option.isNone_iff_eq_none.1 h2, h3]
  rfl
theorem find_bits {fn : Func} (hn : fn.name = "math.Float64bits") : Extern.find fn = some Extern.MathFloatBits.float64bits := find_of hn (by kernel_rfl) (by kernel_rfl) (by kernel_rfl)
theorem find_frombits {fn : Func} (hn : fn.name = "math.Float64frombits") : Extern.find fn = some Extern.MathFloatBits.float64frombits := find_of hn (by kernel_rfl) (by kernel_rfl) (by kernel_rfl)
theorem find_floor {fn : Func} (hn : fn.name = "math.archFloor") : Extern.find fn = some (Extern.MathFloor.toIntegral "math.archFloor" .down) := find_of hn (by kernel_rfl) (by kernel_rfl) (by kernel_rfl)
theorem find_trunc {fn : Func} (hn : fn.name = "math.archTrunc") : Extern.find fn = some (Extern.MathFloor.toIntegral "math.archTrunc" .zero) := find_of hn (by kernel_rfl) (by kernel_rfl) (by kernel_rfl)
theorem integral_run {P : Program} {name : String} {way : Ieee.Toward} {b : Nat} {u : V} (h : integral way b = some u) (w : World) : (Extern.MathFloor.toIntegral name way #[.float .f64 b]).run P w = .ok (sc u) w := by
  have key : ∀ d, FloatKind.f64.decode b = d → (∀ s t, d ≠ .nan s t) → (Extern.MathFloor.toIntegral name way #[.float .f64 b]).run P w = .ok (.float .f64 (FloatKind.f64.encode (d.integral way))) w := by
    intro d hd hn
    delta Extern.MathFloor.toIntegral
    show Sem.run P (match FloatKind.f64.decode b with
      | .nan s t => if FloatKind.f64.format.quiet t = t then pure (Value.float FloatKind.f64 b)
          else do
            let kept ← choose (Question.extern "math.Floor,Ceil,Trunc,RoundToEven.signallingNaN kept" 2)
            pure (Value.float FloatKind.f64 (if kept == 1 then b else FloatKind.f64.encode (Ieee.Datum.nan s (FloatKind.f64.format.quiet t))))
      | d => pure (Value.float FloatKind.f64 (FloatKind.f64.encode (d.integral way)))) w = _
    rw [hd]
    cases d with
    | nan s t => exact absurd rfl (hn s t)
    | _ => rfl
  unfold integral at h
  split at h
  · cases h
  · rename_i d hd
    cases h
    exact key _ rfl (fun s t he => hd s t he)
theorem tgP_ok (P : Program) : TgOK P (tgP P) where
  enter f j h args w := by
    unfold tgP at h
    cases hf : P.funcs[f]? with
    | none => rw [hf] at h; cases h
    | some fn =>
      rw [hf] at h
      simp only at h
      split at h
      · cases h
      · rename_i hn
        cases hb : fn.body with
        | some b =>
          rw [hb] at h; cases h
          have hn' : ¬ fn.name = "runtime.NumGoroutine" := by simpa using hn
          simp [callFunc, hf, hn', hb]
        | none =>
          rw [hb] at h
          simp only at h
          repeat' split at h
          all_goals cases h
  prim f k h v u w hv := by
    unfold tgP at h
    cases hf : P.funcs[f]? with
    | none => rw [hf] at h; cases h
    | some fn =>
      rw [hf] at h
      simp only at h
      split at h
      · cases h
      · rename_i hn
        have hn' : (fn.name == "runtime.NumGoroutine") = false := by simpa using hn
        cases hb : fn.body with
        | some b => rw [hb] at h; cases h
        | none =>
          rw [hb] at h
          simp only at h
          have hb' : fn.body.isNone = true := by rw [hb]; rfl
          split at h
          · cases h
          · rename_i hx
            have hx' : Extern.findNext fn = none := by simpa using hx
            split at h
            · rename_i hs
              cases h
              rw [run_callFunc_extern hf hn' hb' hx' (find_bits (by simpa using hs))]
              cases v <;> simp only [primV, reduceCtorEq] at hv
              · rename_i kk nn
                cases kk <;> simp only [reduceCtorEq] at hv
              · cases hv; rfl
            · split at h
              · rename_i hs
                cases h
                rw [run_callFunc_extern hf hn' hb' hx' (find_frombits (by simpa using hs))]
                cases v <;> simp only [primV, reduceCtorEq] at hv
                rename_i kk nn
                cases kk <;> simp only [reduceCtorEq, Option.some.injEq] at hv
                subst hv; rfl
              · split at h
                · rename_i hs
                  cases h
                  rw [run_callFunc_extern hf hn' hb' hx' (find_floor (by simpa using hs))]
                  cases v <;> simp only [primV, reduceCtorEq] at hv
                  · rename_i kk nn
                    cases kk <;> simp only [reduceCtorEq] at hv
                  · simp only [sc]; rw [integral_run hv]; rfl
                · split at h
                  · rename_i hs
                    cases h
                    rw [run_callFunc_extern hf hn' hb' hx' (find_trunc (by simpa using hs))]
                    cases v <;> simp only [primV, reduceCtorEq] at hv
                    · rename_i kk nn
                      cases kk <;> simp only [reduceCtorEq] at hv
                    · simp only [sc]; rw [integral_run hv]; rfl
                  · cases h
end Go.Vm
namespace Go.Vm
/-- The functions' own form, of what is given. -/
def pgOf (P : Program) (hs : Nat → Option Hint) : Pg := ⟨fun f => match hs f with
  | some h => match P.funcs[f]? with
    | some fn => cFn P (tgP P) h fn
    | none => none
  | none => none, fun _ _ => none⟩
theorem pgOf_ok (P : Program) (hs : Nat → Option Hint) : PgOK P (tgP P) (pgOf P hs) where
  ext _ _ := rfl
  fn f ir h := by
    simp only [pgOf] at h
    split at h
    · rename_i hh _
      split at h
      · rename_i fn hf; exact ⟨fn, hh, hf, h⟩
      · cases h
    · cases h
end Go.Vm

namespace Go.Vm

def CallLe (c d : CallT) : Prop := ∀ md f as H r, c md f as H = some r → d md f as H = some r
section
variable {c d : CallT}
theorem callF_le (h : CallLe c d) {md : Md} {f : Nat} {m : Mem} {vs : List V} {r : V × Mem} (e : callF c md f m vs = some r) : callF d md f m vs = some r := by
  cases md <;> simp only [callF] at e ⊢
  · split at e
    · rename_i as has
      try simp only [has]
      split at e
      · rename_i hr; rw [h _ _ _ _ _ hr]; exact e
      · cases e
    · rename_i has
      try simp only [has]
      split at e
      · rename_i as has'
        try simp only [has']
        split at e
        · rename_i hr; rw [h _ _ _ _ _ hr]; exact e
        · cases e
      · cases e
  · split at e
    · rename_i as has
      try simp only [has]
      split at e
      · rename_i hr; rw [h _ _ _ _ _ hr]; exact e
      · cases e
    · cases e
theorem evO_le (h : CallLe c d) {ρ : X → V} {m : Mem} {o : O} {r : V × Mem} (e : evO c ρ m o = some r) : evO d ρ m o = some r := by
  cases o <;> first
    | (simp only [evO] at e ⊢; exact e)
    | skip
  case call md f xs => simp only [evO] at e ⊢; exact callF_le h e
  case callv md x xs =>
    simp only [evO] at e ⊢
    split at e
    · exact callF_le h e
    · cases e
theorem evOps_le (h : CallLe c d) {ss : List V} : ∀ (ps : List Op) (rs : List V) (m : Mem) {r : List V × Mem}, evOps c ss ps rs m = some r → evOps d ss ps rs m = some r
  | [], rs, m, r, e => e
  | p :: ps, rs, m, r, e => by
    simp only [evOps] at e ⊢
    split at e
    · cases e
    · exact evOps_le h ps _ _ e
    · split at e
      · rename_i hv; rw [evO_le h hv]; exact evOps_le h ps _ _ e
      · cases e
theorem evReg_of {ops : List Op} {kl : List (Bool × Nat)} {prs : List (Nat × Nat)} {outs : List (Nat × Nat × Option Nat)} {st st' : St} (e : evReg c ops kl prs outs st = some st') :
    ∃ rs m ss, evOps c (killS kl st.s) ops [] st.m = some (rs, m) ∧ prs.all (apart st.m.H.length ops (lk rs (killS kl st.s))) = true ∧ evOuts rs outs (killS kl st.s) = some ss ∧ st' = ⟨ss, m⟩ := by
  unfold evReg at e
  cases hops : evOps c (killS kl st.s) ops [] st.m with
  | none => rw [hops] at e; cases e
  | some q =>
    obtain ⟨rs, m1⟩ := q
    rw [hops] at e
    simp only at e
    split at e
    · rename_i hp
      cases hss : evOuts rs outs (killS kl st.s) with
      | none => rw [hss] at e; cases e
      | some ss => rw [hss] at e; cases e; exact ⟨rs, m1, ss, rfl, hp, hss, rfl⟩
    · cases e
theorem evReg_mk {ops : List Op} {kl : List (Bool × Nat)} {prs : List (Nat × Nat)} {outs : List (Nat × Nat × Option Nat)} {st : St} {rs : List V} {m : Mem} {ss : List V} (h1 : evOps c (killS kl st.s) ops [] st.m = some (rs, m))
    (h2 : prs.all (apart st.m.H.length ops (lk rs (killS kl st.s))) = true) (h3 : evOuts rs outs (killS kl st.s) = some ss) : evReg c ops kl prs outs st = some ⟨ss, m⟩ := by
  unfold evReg
  rw [h1]
  simp only [h2, if_true, h3]
theorem evReg_le (h : CallLe c d) {ops : List Op} {kl : List (Bool × Nat)} {prs : List (Nat × Nat)} {outs : List (Nat × Nat × Option Nat)} {st st' : St} (e : evReg c ops kl prs outs st = some st') : evReg d ops kl prs outs st = some st' := by
  obtain ⟨rs, m, ss, h1, h2, h3, rfl⟩ := evReg_of e
  exact evReg_mk (evOps_le h _ _ _ h1) h2 h3
theorem evLoop_le {f g : St → Option (Ex × St)} (h : ∀ st r, f st = some r → g st = some r) : ∀ (n n' : Nat), n ≤ n' → ∀ (st : St) (r : Ex × St), evLoop f n st = some r → evLoop g n' st = some r
  | 0, n', _, st, r, e => by simp [evLoop] at e
  | n + 1, n', hn, st, r, e => by
    obtain ⟨n'', rfl⟩ : ∃ k, n' = k + 1 := ⟨n' - 1, by omega⟩
    simp only [evLoop] at e ⊢
    split at e
    · rename_i hs; rw [h _ _ hs]; exact evLoop_le h n n'' (by omega) _ _ e
    · rename_i hne
      rw [h _ _ e]
      split
      · rename_i hs
        cases hs
        exact absurd e (hne _)
      · rfl
theorem evC_le (h : CallLe c d) {n n' : Nat} (hn : n ≤ n') : ∀ (x : C) (st : St) (r : Ex × St), evC c n x st = some r → evC d n' x st = some r := by
  intro x
  induction x with
  | skip => intro st r e; exact e
  | ret => intro st r e; exact e
  | exit id => intro st r e; exact e
  | reg ops kl prs outs =>
    intro st r e
    simp only [evC] at e ⊢
    split at e
    · rename_i hs; rw [evReg_le h hs]; exact e
    · cases e
  | seq a b iha ihb =>
    intro st r e
    simp only [evC] at e ⊢
    split at e
    · rename_i hs; rw [iha _ _ hs]; exact ihb _ _ e
    · rename_i hne
      rw [iha _ _ e]
      split
      · rename_i hs; cases hs; exact absurd e (hne _)
      · rfl
  | cond y a b iha ihb =>
    intro st r e
    simp only [evC] at e ⊢
    split at e
    · exact iha _ _ e
    · exact ihb _ _ e
    · cases e
  | block id a iha =>
    intro st r e
    simp only [evC] at e ⊢
    split at e
    · rename_i hs; rw [iha _ _ hs]; exact e
    · rename_i hne
      rw [iha _ _ e]
      split
      · rename_i hs; cases hs; exact absurd e (hne _ _)
      · rfl
  | loop a iha =>
    intro st r e
    simp only [evC] at e ⊢
    exact evLoop_le (fun st r => iha st r) n n' hn st r e
end

section
variable {p : Pg}
theorem evF_succ (hx : ∀ f as, p.ext f as = none) : ∀ (k : Nat), CallLe (evF p k) (evF p (k + 1))
  | 0 => fun md f as H r h => by simp [evF] at h
  | k + 1 => fun md f as H r h => by
    rw [evF] at h ⊢
    simp only [hx] at h ⊢
    split at h
    · cases h
    · rename_i fn hfn
      have mono : ∀ r, evC (evF p k) k fn.body (ini fn as H) = some r → evC (evF p (k + 1)) (k + 1) fn.body (ini fn as H) = some r := fun r e => evC_le (evF_succ hx k) (Nat.le_succ k) _ _ _ e
      split at h
      · cases h
      · rename_i ex st hne hst
        rw [mono _ hst]
        split
        · rename_i id st' hs; cases hs; exact absurd rfl (hne id)
        · rename_i hs; cases hs; exact h
        · rename_i hs; cases hs
      · cases h
theorem evF_le (hx : ∀ f as, p.ext f as = none) {k k' : Nat} (h : k ≤ k') : CallLe (evF p k) (evF p k') := by
  induction h with
  | refl => exact fun _ _ _ _ _ h => h
  | step _ ih => exact fun _ _ _ _ _ h => evF_succ hx _ _ _ _ _ _ (ih _ _ _ _ _ h)

open Classical in
/-- What a call comes to, with as many steps as it takes. -/
noncomputable def evI (p : Pg) : CallT := fun md f as H => if h : ∃ k r, evF p k md f as H = some r then some h.choose_spec.choose else none
open Classical in
noncomputable def evCI (p : Pg) (c : C) (st : St) : Option (Ex × St) := if h : ∃ k r, evC (evF p k) k c st = some r then some h.choose_spec.choose else none

theorem evI_iff (hx : ∀ f as, p.ext f as = none) {md : Md} {f : Nat} {as : List V} {H : List Obj} {r : V × List Obj} : evI p md f as H = some r ↔ ∃ k, evF p k md f as H = some r := by
  unfold evI
  constructor
  · intro h
    split at h
    · rename_i hk
      cases h
      exact ⟨_, hk.choose_spec.choose_spec⟩
    · cases h
  · rintro ⟨k, hk⟩
    have he : ∃ k r, evF p k md f as H = some r := ⟨k, r, hk⟩
    rw [dif_pos he]
    have h1 := he.choose_spec.choose_spec
    have h2 := evF_le hx (Nat.le_max_left he.choose k) _ _ _ _ _ h1
    have h3 := evF_le hx (Nat.le_max_right he.choose k) _ _ _ _ _ hk
    rw [h2] at h3
    exact h3
theorem evCI_iff (hx : ∀ f as, p.ext f as = none) {c : C} {st : St} {r : Ex × St} : evCI p c st = some r ↔ ∃ k, evC (evF p k) k c st = some r := by
  unfold evCI
  constructor
  · intro h
    split at h
    · rename_i hk
      cases h
      exact ⟨_, hk.choose_spec.choose_spec⟩
    · cases h
  · rintro ⟨k, hk⟩
    have he : ∃ k r, evC (evF p k) k c st = some r := ⟨k, r, hk⟩
    rw [dif_pos he]
    have h1 := he.choose_spec.choose_spec
    have h2 := evC_le (evF_le hx (Nat.le_max_left he.choose k)) (Nat.le_max_left he.choose k) _ _ _ h1
    have h3 := evC_le (evF_le hx (Nat.le_max_right he.choose k)) (Nat.le_max_right he.choose k) _ _ _ hk
    rw [h2] at h3
    exact h3
theorem opt_ext {α : Type} {a b : Option α} (h : ∀ r, a = some r ↔ b = some r) : a = b := by
  cases a with
  | none =>
    cases b with
    | none => rfl
    | some y => exact absurd ((h y).2 rfl) (by simp)
  | some x => exact ((h x).1 rfl).symm

/-- What calls of a region come to is there with enough steps. -/
theorem callF_lim (hx : ∀ f as, p.ext f as = none) {md : Md} {f : Nat} {m : Mem} {vs : List V} {r : V × Mem} (e : callF (evI p) md f m vs = some r) : ∃ k, callF (evF p k) md f m vs = some r := by
  cases md <;> simp only [callF] at e ⊢
  · split at e
    · rename_i as has
      try simp only [has]
      split at e
      · rename_i hr
        obtain ⟨k, hk⟩ := (evI_iff hx).1 hr
        exact ⟨k, by rw [hk]; exact e⟩
      · cases e
    · rename_i has
      try simp only [has]
      split at e
      · rename_i as has'
        try simp only [has']
        split at e
        · rename_i hr
          obtain ⟨k, hk⟩ := (evI_iff hx).1 hr
          exact ⟨k, by rw [hk]; exact e⟩
        · cases e
      · cases e
  · split at e
    · rename_i as has
      try simp only [has]
      split at e
      · rename_i hr
        obtain ⟨k, hk⟩ := (evI_iff hx).1 hr
        exact ⟨k, by rw [hk]; exact e⟩
      · cases e
    · cases e
theorem evO_lim (hx : ∀ f as, p.ext f as = none) {ρ : X → V} {m : Mem} {o : O} {r : V × Mem} (e : evO (evI p) ρ m o = some r) : ∃ k, evO (evF p k) ρ m o = some r := by
  cases o <;> first
    | (simp only [evO] at e ⊢; exact ⟨0, e⟩)
    | skip
  case call md f xs => simp only [evO] at e ⊢; exact callF_lim hx e
  case callv md x xs =>
    simp only [evO] at e ⊢
    split at e
    · exact callF_lim hx e
    · cases e
theorem evOps_lim (hx : ∀ f as, p.ext f as = none) {ss : List V} : ∀ (ps : List Op) (rs : List V) (m : Mem) {r : List V × Mem}, evOps (evI p) ss ps rs m = some r → ∃ k, evOps (evF p k) ss ps rs m = some r
  | [], rs, m, r, e => ⟨0, e⟩
  | q :: ps, rs, m, r, e => by
    simp only [evOps] at e ⊢
    split at e
    · cases e
    · exact evOps_lim hx ps _ _ e
    · split at e
      · rename_i v m' hv
        obtain ⟨k1, h1⟩ := evO_lim hx hv
        obtain ⟨k2, h2⟩ := evOps_lim hx ps _ _ e
        refine ⟨max k1 k2, ?_⟩
        rw [evO_le (evF_le hx (Nat.le_max_left k1 k2)) h1]
        exact evOps_le (evF_le hx (Nat.le_max_right k1 k2)) _ _ _ h2
      · cases e

/-! ### equations -/
variable (hx : ∀ f as, p.ext f as = none)
include hx
theorem evCI_skip (st : St) : evCI p .skip st = some (.nrm, st) := (evCI_iff hx).2 ⟨0, rfl⟩
theorem evCI_ret (st : St) : evCI p .ret st = some (.ret, st) := (evCI_iff hx).2 ⟨0, rfl⟩
theorem evCI_exit (id : Nat) (st : St) : evCI p (.exit id) st = some (.exit id, st) := (evCI_iff hx).2 ⟨0, rfl⟩
theorem evCI_reg (ops : List Op) (kl : List (Bool × Nat)) (prs : List (Nat × Nat)) (outs : List (Nat × Nat × Option Nat)) (st : St) :
    evCI p (.reg ops kl prs outs) st = match evReg (evI p) ops kl prs outs st with
      | some st' => some (.nrm, st')
      | none => none := by
  refine opt_ext fun r => ?_
  rw [evCI_iff hx]
  constructor
  · rintro ⟨k, hk⟩
    simp only [evC] at hk
    split at hk
    · rename_i hs
      rw [evReg_le (fun md f as H r h => (evI_iff hx).2 ⟨k, h⟩) hs]; exact hk
    · cases hk
  · intro h
    split at h
    · rename_i st' hs
      obtain ⟨rs, m, ss, h1, h2, h3, rfl⟩ := evReg_of hs
      obtain ⟨k, hk⟩ := evOps_lim hx _ _ _ h1
      refine ⟨k, ?_⟩
      simp only [evC, evReg_mk hk h2 h3]; exact h
    · cases h
theorem evCI_seq (a b : C) (st : St) : evCI p (.seq a b) st = match evCI p a st with
      | some (.nrm, st') => evCI p b st'
      | r => r := by
  refine opt_ext fun r => ?_
  rw [evCI_iff hx]
  constructor
  · rintro ⟨k, hk⟩
    simp only [evC] at hk
    split at hk
    · rename_i hs
      rw [(evCI_iff hx).2 ⟨k, hs⟩]; exact (evCI_iff hx).2 ⟨k, hk⟩
    · rename_i hne
      rw [(evCI_iff hx).2 ⟨k, hk⟩]
      split
      · rename_i hs; cases hs; exact absurd hk (hne _)
      · rfl
  · intro h
    split at h
    · rename_i st' hs
      obtain ⟨k1, h1⟩ := (evCI_iff hx).1 hs
      obtain ⟨k2, h2⟩ := (evCI_iff hx).1 h
      refine ⟨max k1 k2, ?_⟩
      simp only [evC]
      rw [evC_le (evF_le hx (Nat.le_max_left k1 k2)) (Nat.le_max_left k1 k2) _ _ _ h1]
      exact evC_le (evF_le hx (Nat.le_max_right k1 k2)) (Nat.le_max_right k1 k2) _ _ _ h2
    · rename_i hne
      obtain ⟨k, hk⟩ := (evCI_iff hx).1 h
      refine ⟨k, ?_⟩
      simp only [evC]
      rw [hk]
      split
      · rename_i hs; cases hs; exact absurd h (hne _)
      · rfl
theorem evCI_cond (x : X) (a b : C) (st : St) : evCI p (.cond x a b) st = match lk [] st.s x with
      | .bool true => evCI p a st
      | .bool false => evCI p b st
      | _ => none := by
  refine opt_ext fun r => ?_
  rw [evCI_iff hx]
  simp only [evC]
  cases hq : lk [] st.s x <;> try (simp; done)
  rename_i t
  cases t <;> simp only <;> rw [evCI_iff hx]
theorem evCI_block (id : Nat) (a : C) (st : St) : evCI p (.block id a) st = match evCI p a st with
      | some (.exit j, st') => if j = id then some (.nrm, st') else some (.exit j, st')
      | r => r := by
  refine opt_ext fun r => ?_
  rw [evCI_iff hx]
  constructor
  · rintro ⟨k, hk⟩
    simp only [evC] at hk
    split at hk
    · rename_i hs
      rw [(evCI_iff hx).2 ⟨k, hs⟩]; exact hk
    · rename_i hne
      rw [(evCI_iff hx).2 ⟨k, hk⟩]
      split
      · rename_i hs; cases hs; exact absurd hk (hne _ _)
      · rfl
  · intro h
    split at h
    · rename_i hs
      obtain ⟨k, hk⟩ := (evCI_iff hx).1 hs
      exact ⟨k, by simp only [evC, hk]; exact h⟩
    · rename_i hne
      obtain ⟨k, hk⟩ := (evCI_iff hx).1 h
      refine ⟨k, ?_⟩
      simp only [evC]
      rw [hk]
      split
      · rename_i hs; cases hs; exact absurd h (hne _ _)
      · rfl
theorem evCI_loop (a : C) (st : St) : evCI p (.loop a) st = match evCI p a st with
      | some (.nrm, st') => evCI p (.loop a) st'
      | r => r := by
  refine opt_ext fun r => ?_
  rw [evCI_iff hx]
  constructor
  · rintro ⟨k, hk⟩
    simp only [evC] at hk
    cases k with
    | zero => simp [evLoop] at hk
    | succ k =>
      simp only [evLoop] at hk
      split at hk
      · rename_i hs
        rw [(evCI_iff hx).2 ⟨k + 1, hs⟩]
        refine (evCI_iff hx).2 ⟨k + 1, ?_⟩
        simp only [evC]
        exact evLoop_le (fun _ _ h => h) k (k + 1) (Nat.le_succ k) _ _ hk
      · rename_i hne
        rw [(evCI_iff hx).2 ⟨k + 1, hk⟩]
        split
        · rename_i hs; cases hs; exact absurd hk (hne _)
        · rfl
  · intro h
    split at h
    · rename_i st' hs
      obtain ⟨k1, h1⟩ := (evCI_iff hx).1 hs
      obtain ⟨k2, h2⟩ := (evCI_iff hx).1 h
      refine ⟨max k1 k2 + 1, ?_⟩
      simp only [evC, evLoop] at h2 ⊢
      rw [evC_le (evF_le hx (show k1 ≤ max k1 k2 + 1 by omega)) (show k1 ≤ max k1 k2 + 1 by omega) _ _ _ h1]
      exact evLoop_le (fun st r e => evC_le (evF_le hx (show k2 ≤ max k1 k2 + 1 by omega)) (show k2 ≤ max k1 k2 + 1 by omega) _ _ _ e) k2 _ (by omega) _ _ h2
    · rename_i hne
      obtain ⟨k, hk⟩ := (evCI_iff hx).1 h
      refine ⟨k + 1, ?_⟩
      simp only [evC, evLoop]
      rw [evC_le (evF_le hx (Nat.le_succ k)) (Nat.le_succ k) _ _ _ hk]
      split
      · rename_i hs; cases hs; exact absurd h (hne _)
      · rfl
theorem evI_of {md : Md} {f : Nat} {as : List V} {H : List Obj} {ir : Vm.Fn} {ex : Ex} {st : St} {r : V × List Obj} (hf : p.fn f = some ir) (h : evCI p ir.body (ini ir as H) = some (ex, st)) (hex : ex = .nrm ∨ ex = .ret)
    (hfin : fin md st ir.res = some r) : evI p md f as H = some r := by
  obtain ⟨k, hk⟩ := (evCI_iff hx).1 h
  refine (evI_iff hx).2 ⟨k + 1, ?_⟩
  simp only [evF, hx, hf, hk]
  rcases hex with rfl | rfl <;> exact hfin
end
end Go.Vm

namespace Go.Vm

section
variable (p : Pg)
noncomputable def thenC (r : Option (Ex × St)) (b : C) : Option (Ex × St) := match r with
  | some (.nrm, st') => evCI p b st'
  | r => r
noncomputable def condC (v : V) (a b : C) (st : St) : Option (Ex × St) := match v with
  | .bool true => evCI p a st
  | .bool false => evCI p b st
  | _ => none
def blockC (id : Nat) (r : Option (Ex × St)) : Option (Ex × St) := match r with
  | some (.exit j, st') => if j = id then some (.nrm, st') else some (.exit j, st')
  | r => r
def outsC (ops : List Op) (prs : List (Nat × Nat)) (outs : List (Nat × Nat × Option Nat)) (ss : List V) (L : Nat) (r : Option (List V × Mem)) : Option (Ex × St) := match r with
  | some (rs, m) => if prs.all (apart L ops (lk rs ss)) then match evOuts rs outs ss with
    | some ss' => some (.nrm, ⟨ss', m⟩)
    | none => none
    else none
  | none => none
variable (call : CallT) (ss : List V)
def opsV (ps : List Op) (rs : List V) (r : Option (V × Mem)) : Option (List V × Mem) := match r with
  | some (v, m) => evOps call ss ps (rs ++ [v]) m
  | none => none
def opsG (ps : List Op) (rs : List V) (m : Mem) (o : O) (g : Option Bool) : Option (List V × Mem) := match g with
  | none => none
  | some false => evOps call ss ps (rs ++ [.skp]) m
  | some true => opsV call ss ps rs (evO call (lk rs ss) m o)
noncomputable def finC (md : Md) (rv : List RV) (r : Option (Ex × St)) : Option (V × List Obj) := match r with
  | some (.exit _, _) => none
  | some (_, st) => fin md st rv
  | none => none
end

section
variable {P : Program} {hs : Nat → Option Hint}
theorem hx (P : Program) (hs : Nat → Option Hint) (f : Nat) (q : List V) : (pgOf P hs).ext f q = none := rfl
theorem s_seq (a b : C) (st : St) : evCI (pgOf P hs) (.seq a b) st = thenC (pgOf P hs) (evCI (pgOf P hs) a st) b := evCI_seq (hx P hs) a b st
theorem s_cond (x : X) (a b : C) (s : List V) (m : Mem) : evCI (pgOf P hs) (.cond x a b) ⟨s, m⟩ = condC (pgOf P hs) (lk [] s x) a b ⟨s, m⟩ := evCI_cond (hx P hs) x a b _
theorem s_block (id : Nat) (a : C) (st : St) : evCI (pgOf P hs) (.block id a) st = blockC id (evCI (pgOf P hs) a st) := evCI_block (hx P hs) id a st
theorem s_loop (a : C) (st : St) : evCI (pgOf P hs) (.loop a) st = thenC (pgOf P hs) (evCI (pgOf P hs) a st) (.loop a) := evCI_loop (hx P hs) a st
theorem s_reg (ops : List Op) (kl : List (Bool × Nat)) (prs : List (Nat × Nat)) (outs : List (Nat × Nat × Option Nat)) (s : List V) (m : Mem) :
    evCI (pgOf P hs) (.reg ops kl prs outs) ⟨s, m⟩ = outsC ops prs outs (killS kl s) m.H.length (evOps (evI (pgOf P hs)) (killS kl s) ops [] m) := by
  rw [evCI_reg (hx P hs)]
  unfold evReg outsC
  simp only
  cases evOps (evI (pgOf P hs)) (killS kl s) ops [] m with
  | none => rfl
  | some q =>
    obtain ⟨rs, m⟩ := q
    simp only
    split
    · rename_i h
      split at h
      · split at h
        · cases h
        · rename_i hq; cases h; rw [hq]; rw [if_pos (by assumption)]
      · cases h
    · rename_i h
      split at h
      · rename_i hp
        rw [if_pos hp]
        split at h
        · rename_i hq; rw [hq]
        · cases h
      · rename_i hp; rw [if_neg hp]
theorem s_skip (st : St) : evCI (pgOf P hs) .skip st = some (.nrm, st) := evCI_skip (hx P hs) st
theorem s_ret (st : St) : evCI (pgOf P hs) .ret st = some (.ret, st) := evCI_ret (hx P hs) st
theorem s_exit (id : Nat) (st : St) : evCI (pgOf P hs) (.exit id) st = some (.exit id, st) := evCI_exit (hx P hs) id st
theorem s_then_nrm (st : St) (b : C) : thenC (pgOf P hs) (some (.nrm, st)) b = evCI (pgOf P hs) b st := rfl
theorem s_then_ret (st : St) (b : C) : thenC (pgOf P hs) (some (.ret, st)) b = some (.ret, st) := rfl
theorem s_then_exit (id : Nat) (st : St) (b : C) : thenC (pgOf P hs) (some (.exit id, st)) b = some (.exit id, st) := rfl
theorem s_cond_t (a b : C) (st : St) : condC (pgOf P hs) (.bool true) a b st = evCI (pgOf P hs) a st := rfl
theorem s_cond_f (a b : C) (st : St) : condC (pgOf P hs) (.bool false) a b st = evCI (pgOf P hs) b st := rfl
theorem s_block_nrm (id : Nat) (st : St) : blockC id (some (.nrm, st)) = some (.nrm, st) := rfl
theorem s_block_ret (id : Nat) (st : St) : blockC id (some (.ret, st)) = some (.ret, st) := rfl
theorem s_block_exit (id j : Nat) (st : St) : blockC id (some (.exit j, st)) = if j = id then some (.nrm, st) else some (.exit j, st) := rfl
theorem s_outs0 (ops : List Op) (outs : List (Nat × Nat × Option Nat)) (ss : List V) (L : Nat) (rs : List V) (m : Mem) : outsC ops [] outs ss L (some (rs, m)) = match evOuts rs outs ss with
    | some ss' => some (.nrm, ⟨ss', m⟩)
    | none => none := rfl
theorem s_outs (ops : List Op) (q : Nat × Nat) (prs : List (Nat × Nat)) (outs : List (Nat × Nat × Option Nat)) (ss : List V) (L : Nat) (rs : List V) (m : Mem) : outsC ops (q :: prs) outs ss L (some (rs, m)) = if apart L ops (lk rs ss) q then outsC ops prs outs ss L (some (rs, m)) else none := by
  show (if ((q :: prs).all (apart L ops (lk rs ss))) = true then _ else _) = if apart L ops (lk rs ss) q = true then (if (prs.all (apart L ops (lk rs ss))) = true then _ else _) else _
  have e : ((q :: prs).all (apart L ops (lk rs ss))) = true ↔ apart L ops (lk rs ss) q = true ∧ prs.all (apart L ops (lk rs ss)) = true := by rw [List.all_cons, Bool.and_eq_true]
  by_cases h3 : ((q :: prs).all (apart L ops (lk rs ss))) = true
  · rw [if_pos h3, if_pos (e.1 h3).1, if_pos (e.1 h3).2]
  · rw [if_neg h3]
    by_cases h : apart L ops (lk rs ss) q = true
    · rw [if_pos h, if_neg (fun h2 => h3 (e.2 ⟨h, h2⟩))]
    · rw [if_neg h]
section
variable (call : CallT) (ss : List V)
theorem s_nil (rs : List V) (m : Mem) : evOps call ss [] rs m = some (rs, m) := rfl
theorem s_op (o : O) (ps : List Op) (rs : List V) (m : Mem) : evOps call ss (⟨o, none⟩ :: ps) rs m = opsV call ss ps rs (evO call (lk rs ss) m o) := by
  simp only [evOps, wants, opsV]
  cases evO call (lk rs ss) m o <;> rfl
theorem s_opg (o : O) (g : Nat × Bool) (ps : List Op) (rs : List V) (m : Mem) : evOps call ss (⟨o, some g⟩ :: ps) rs m = opsG call ss ps rs m o (wants rs (some g)) := by
  simp only [evOps, opsV, opsG]
  cases wants rs (some g) with
  | none => rfl
  | some b =>
    cases b with
    | false => rfl
    | true => simp only; cases evO call (lk rs ss) m o <;> rfl
theorem s_opv (ps : List Op) (rs : List V) (v : V) (m : Mem) : opsV call ss ps rs (some (v, m)) = evOps call ss ps (rs ++ [v]) m := rfl
theorem s_opgt (ps : List Op) (rs : List V) (m : Mem) (o : O) : opsG call ss ps rs m o (some true) = opsV call ss ps rs (evO call (lk rs ss) m o) := rfl
theorem s_opgf (ps : List Op) (rs : List V) (m : Mem) (o : O) : opsG call ss ps rs m o (some false) = evOps call ss ps (rs ++ [.skp]) m := rfl
end
theorem s_fn {md : Md} {f : Nat} {ir : Vm.Fn} (hf : (pgOf P hs).fn f = some ir) (as : List V) (H : List Obj) : evI (pgOf P hs) md f as H = finC md ir.res (evCI (pgOf P hs) ir.body (ini ir as H)) := by
  refine opt_ext fun r => ?_
  constructor
  · intro h
    obtain ⟨k, hk⟩ := (evI_iff (hx P hs)).1 h
    cases k with
    | zero => simp [evF] at hk
    | succ k =>
      simp only [evF, hx P hs, hf] at hk
      split at hk
      · cases hk
      · rename_i ex st hne hst
        rw [(evCI_iff (hx P hs)).2 ⟨k, hst⟩]
        cases ex with
        | exit id => exact absurd rfl (hne id)
        | nrm => exact hk
        | ret => exact hk
      · cases hk
  · intro h
    unfold finC at h
    split at h
    · cases h
    · rename_i ex st hne hst
      refine evI_of (hx P hs) hf hst ?_ h
      cases ex with
      | exit id => exact absurd rfl (hne id)
      | nrm => exact .inl rfl
      | ret => exact .inr rfl
    · cases h
theorem s_fin_ret (md : Md) (rv : List RV) (st : St) : finC md rv (some (.ret, st)) = fin md st rv := rfl
theorem s_fin_nrm (md : Md) (rv : List RV) (st : St) : finC md rv (some (.nrm, st)) = fin md st rv := rfl
theorem wants_at (rs : List V) (j : Nat) (b : Bool) : wants rs (some (j, b)) = match rs[j]? with
    | some (.bool c) => some (c == b)
    | some .skp => some false
    | _ => none := rfl

/-- The functions' own form as a list. -/
def pgL (L : List (Nat × Vm.Fn)) : Pg := ⟨fun f => L.lookup f, fun _ _ => none⟩
theorem lookup_mem {α : Type} : ∀ {L : List (Nat × α)} {f : Nat} {a : α}, L.lookup f = some a → (f, a) ∈ L
  | [], f, a, h => by simp at h
  | (g, b) :: L, f, a, h => by
    rw [List.lookup_cons] at h
    split at h
    · rename_i he; cases h; have : f = g := by simpa using he
      subst this; simp
    · exact List.mem_cons_of_mem _ (lookup_mem h)
theorem evF_pg {p q : Pg} (hp : ∀ f r, p.ext f r = none) (hq : ∀ f r, q.ext f r = none) (h : ∀ f ir, p.fn f = some ir → q.fn f = some ir) : ∀ k, CallLe (evF p k) (evF q k)
  | 0 => fun md f r H x h => by simp [evF] at h
  | k + 1 => fun md f r H x e => by
    rw [evF] at e ⊢
    simp only [hp, hq] at e ⊢
    split at e
    · cases e
    · rename_i fn hfn
      rw [h f fn hfn]
      simp only
      have mono : ∀ x, evC (evF p k) k fn.body (ini fn r H) = some x → evC (evF q k) k fn.body (ini fn r H) = some x := fun x e => evC_le (evF_pg hp hq h k) (Nat.le_refl k) _ _ _ e
      split at e
      · cases e
      · rename_i ex st hne hst
        rw [mono _ hst]
        split
        · rename_i id st' hs; cases hs; exact absurd rfl (hne id)
        · rename_i hs; cases hs; exact e
        · rename_i hs; cases hs
      · cases e
/-- What is reckoned is so. -/
theorem closed {L : List (Nat × Vm.Fn)} (h : ∀ q ∈ L, (pgOf P hs).fn q.1 = some q.2) (k : Nat) {md : Md} {f : Nat} {q : List V} {H : List Obj} {r : V × List Obj} (e : evF (pgL L) k md f q H = some r) : evI (pgOf P hs) md f q H = some r :=
  (evI_iff (hx P hs)).2 ⟨k, evF_pg (fun _ _ => rfl) (fun _ _ => rfl) (fun f ir hf => h (f, ir) (lookup_mem hf)) k _ _ _ _ _ e⟩
end
attribute [go_sem] s_outs apart fpO fpL fpS fpC Fp.comm Tc.comm Fp.no Fp.hr Fp.hw callF asIx iaSV offV lenV evLoad loadAt spOK unV minV maxV foldV s_seq s_cond s_block s_reg s_skip s_ret s_exit s_then_nrm s_then_ret s_then_exit s_cond_t s_cond_f s_block_nrm s_block_ret s_block_exit s_outs0 s_nil s_op s_opg s_opv s_opgt s_opgf s_fin_ret s_fin_nrm wants_at
  killV V.loc killS evO lk val binV isSh intV shV evOuts slotV fin resV omap toImm depth one ini
end Go.Vm

namespace Go.Vm

theorem wrap_i64_eq (n : Int) : IntKind.i64.wrap n = if n % 18446744073709551616 ≥ 9223372036854775808 then n % 18446744073709551616 - 18446744073709551616 else n % 18446744073709551616 := by
  show (if (true && decide (n % 18446744073709551616 ≥ 9223372036854775808)) = true then n % 18446744073709551616 - 18446744073709551616 else n % 18446744073709551616) = _
  simp only [Bool.true_and, decide_eq_true_eq]
theorem wrap_i64 {n : Int} (h : -9223372036854775808 ≤ n) (h' : n ≤ 9223372036854775807) : IntKind.i64.wrap n = n := by
  rw [wrap_i64_eq]; split <;> omega
theorem wrap_u64 (a : Nat) : IntKind.u64.wrap (a : Int) = ((a % 18446744073709551616 : Nat) : Int) := by
  simp only [IntKind.wrap, IntKind.bits, IntKind.signed]; simp
theorem wrap_u64' {a : Nat} (h : a < 18446744073709551616) : IntKind.u64.wrap (a : Int) = (a : Int) := by
  rw [wrap_u64, Nat.mod_eq_of_lt h]
theorem wrap_u32 (a : Nat) : IntKind.u32.wrap (a : Int) = ((a % 4294967296 : Nat) : Int) := by
  simp only [IntKind.wrap, IntKind.bits, IntKind.signed]; simp
theorem wrap_u32' {a : Nat} (h : a < 4294967296) : IntKind.u32.wrap (a : Int) = (a : Int) := by
  rw [wrap_u32, Nat.mod_eq_of_lt h]
theorem wrap_u8 (a : Nat) : IntKind.u8.wrap (a : Int) = ((a % 256 : Nat) : Int) := by
  simp only [IntKind.wrap, IntKind.bits, IntKind.signed]; simp
theorem wrap_u8' {a : Nat} (h : a < 256) : IntKind.u8.wrap (a : Int) = (a : Int) := by
  rw [wrap_u8, Nat.mod_eq_of_lt h]
theorem toNat64 {a : Nat} (h : a < 18446744073709551616) : (BitVec.ofInt 64 (a : Int)).toNat = a := by
  rw [BitVec.ofInt_natCast, BitVec.toNat_ofNat]; exact Nat.mod_eq_of_lt (by omega)
theorem toNat32 {a : Nat} (h : a < 4294967296) : (BitVec.ofInt 32 (a : Int)).toNat = a := by
  rw [BitVec.ofInt_natCast, BitVec.toNat_ofNat]; exact Nat.mod_eq_of_lt (by omega)
theorem and_u64 {a b : Nat} (ha : a < 18446744073709551616) (hb : b < 18446744073709551616) : andI .u64 a b = ((a &&& b : Nat) : Int) := by
  have h : a &&& b < 2 ^ 64 := Nat.and_lt_two_pow _ (by omega)
  show IntKind.u64.wrap ((BitVec.ofInt 64 (a : Int) &&& BitVec.ofInt 64 (b : Int)).toNat : Nat) = _
  rw [BitVec.toNat_and, toNat64 ha, toNat64 hb, wrap_u64' (by omega)]
theorem or_u64 {a b : Nat} (ha : a < 18446744073709551616) (hb : b < 18446744073709551616) : orI .u64 a b = ((a ||| b : Nat) : Int) := by
  have h : a ||| b < 2 ^ 64 := Nat.or_lt_two_pow (by omega) (by omega)
  show IntKind.u64.wrap ((BitVec.ofInt 64 (a : Int) ||| BitVec.ofInt 64 (b : Int)).toNat : Nat) = _
  rw [BitVec.toNat_or, toNat64 ha, toNat64 hb, wrap_u64' (by omega)]
theorem xor_u64 {a b : Nat} (ha : a < 18446744073709551616) (hb : b < 18446744073709551616) : xorI .u64 a b = ((a ^^^ b : Nat) : Int) := by
  have h : a ^^^ b < 2 ^ 64 := Nat.xor_lt_two_pow (by omega) (by omega)
  show IntKind.u64.wrap ((BitVec.ofInt 64 (a : Int) ^^^ BitVec.ofInt 64 (b : Int)).toNat : Nat) = _
  rw [BitVec.toNat_xor, toNat64 ha, toNat64 hb, wrap_u64' (by omega)]
theorem and_u32 {a b : Nat} (ha : a < 4294967296) (hb : b < 4294967296) : andI .u32 a b = ((a &&& b : Nat) : Int) := by
  have h : a &&& b < 2 ^ 32 := Nat.and_lt_two_pow _ (by omega)
  show IntKind.u32.wrap ((BitVec.ofInt 32 (a : Int) &&& BitVec.ofInt 32 (b : Int)).toNat : Nat) = _
  rw [BitVec.toNat_and, toNat32 ha, toNat32 hb, wrap_u32' (by omega)]
theorem or_u32 {a b : Nat} (ha : a < 4294967296) (hb : b < 4294967296) : orI .u32 a b = ((a ||| b : Nat) : Int) := by
  have h : a ||| b < 2 ^ 32 := Nat.or_lt_two_pow (by omega) (by omega)
  show IntKind.u32.wrap ((BitVec.ofInt 32 (a : Int) ||| BitVec.ofInt 32 (b : Int)).toNat : Nat) = _
  rw [BitVec.toNat_or, toNat32 ha, toNat32 hb, wrap_u32' (by omega)]

/-! ### shifts -/
/-- A shift to the right. -/
theorem shr_nat (a k : Nat) : ((a : Int)).fdiv (2 ^ k) = ((a / 2 ^ k : Nat) : Int) := by
  rw [Int.fdiv_eq_ediv_of_nonneg _ (by exact_mod_cast Nat.zero_le (2 ^ k))]
  simp
theorem shl_nat (a k : Nat) : (a : Int) * 2 ^ k = ((a * 2 ^ k : Nat) : Int) := by simp
theorem min_nat (a b : Nat) : Nat.min a b = min a b := rfl
theorem neg_nat (k : Nat) : ¬ ((k : Int) < 0) := by omega
theorem one_nat : (1 : Int) = ((1 : Nat) : Int) := rfl
attribute [go_sem] neg_nat min_nat

theorem testBit_and (a k : Nat) : (a / 2 ^ k) &&& 1 = (if a.testBit k then 1 else 0) := by
  rw [Nat.and_one_is_mod]
  rw [Nat.testBit_eq_decide_div_mod_eq]
  by_cases h : a / 2 ^ k % 2 = 1
  · simp [h]
  · simp [h]; omega
theorem mod_succ_bit (a k : Nat) : a % 2 ^ (k + 1) = a % 2 ^ k + if a.testBit k then 2 ^ k else 0 := by
  rw [Nat.pow_succ, Nat.mod_mul, Nat.testBit_eq_decide_div_mod_eq]
  by_cases h : a / 2 ^ k % 2 = 1
  · simp [h]
  · have : a / 2 ^ k % 2 = 0 := by omega
    simp [this]

/-! ### putting behind -/
theorem app_osl {k sz by_ j : Nat} {es ns : List (List V)} {m : Mem} {y : V} (hy : srcV m y = some ns) (hf : fits by_ (es.length + ns.length) = true) (hi : immAll (es ++ ns) = true) (hs : szAll sz (es ++ ns) = true) (ht : m.tk[j]? = some es.length) :
    appV k sz by_ m (.osl false j es) y = some (.osl false j (es ++ ns), { m with tk := m.tk.set j (es.length + ns.length) }) := by
  unfold appV
  rw [hy]
  simp [hf, hi, hs, ht]
theorem imm_append (es ns : List (List V)) : immAll (es ++ ns) = (immAll es && immAll ns) := by simp [immAll]
theorem sz_append (sz : Nat) (es ns : List (List V)) : szAll sz (es ++ ns) = (szAll sz es && szAll sz ns) := by simp [szAll]
theorem cut_step {α : Type} (l : List α) (i : Nat) (h : i < l.length) : l.drop i = l[i] :: l.drop (i + 1) := List.drop_eq_getElem_cons h
end Go.Vm

namespace Go.Vm
open Go.RowKit
section
variable {P : Program} {n : Nat} {t e : TypeId} {v : V}
theorem pv_int {k : IntKind} {vs : List V} (hu : P.underlying t = some (.int k)) (h : PV P (n + 1) t vs) : ∃ x, vs = [.int k x] ∧ (Lit.int k x).wf = true := by simpa [PV, hu] using h
theorem pv_bool {vs : List V} (hu : P.underlying t = some .bool) (h : PV P (n + 1) t vs) : ∃ b, vs = [.bool b] := by simpa [PV, hu] using h
theorem pv_flt {vs : List V} (hu : P.underlying t = some (.float .f64)) (h : PV P (n + 1) t vs) : ∃ b, vs = [.flt b] ∧ (Lit.float .f64 b).wf = true := by simpa [PV, hu] using h
theorem pv_i64 {vs : List V} (hu : P.underlying t = some (.int .i64)) (h : PV P (n + 1) t vs) : ∃ x, vs = [.int .i64 x] ∧ -9223372036854775808 ≤ x ∧ x ≤ 9223372036854775807 := by
  obtain ⟨x, h1, h2⟩ := pv_int hu h
  exact ⟨x, h1, bounds_i64 h2⟩
theorem pv_u64 {vs : List V} (hu : P.underlying t = some (.int .u64)) (h : PV P (n + 1) t vs) : ∃ x : Nat, vs = [.int .u64 x] ∧ x < 18446744073709551616 := by
  obtain ⟨x, h1, h2⟩ := pv_int hu h
  have := bounds_u64 h2
  exact ⟨x.toNat, by rw [h1, Int.toNat_of_nonneg this.1], by omega⟩
theorem pv_u32 {vs : List V} (hu : P.underlying t = some (.int .u32)) (h : PV P (n + 1) t vs) : ∃ x : Nat, vs = [.int .u32 x] ∧ x < 4294967296 := by
  obtain ⟨x, h1, h2⟩ := pv_int hu h
  have := bounds_u32 h2
  exact ⟨x.toNat, by rw [h1, Int.toNat_of_nonneg this.1], by omega⟩
theorem pv_u8 {vs : List V} (hu : P.underlying t = some (.int .u8)) (h : PV P (n + 1) t vs) : ∃ x : Nat, vs = [.int .u8 x] ∧ x < 256 := by
  obtain ⟨x, h1, h2⟩ := pv_int hu h
  have := bounds_u8 h2
  exact ⟨x.toNat, by rw [h1, Int.toNat_of_nonneg this.1], by omega⟩
theorem pv_slice {vs : List V} (hu : P.underlying t = some (.slice e)) (h : PV P (n + 1) t vs) : vs = [.nils] ∨ ∃ es : List (List V), vs = [.isl false es] ∧ es.length ≤ maxLen ∧ ∀ q ∈ es, PV P n e q := by simpa [PV, hu] using h
theorem pv_struct {fs : Array Field} {vs : List V} (hu : P.underlying t = some (.struct fs)) (h : PV P (n + 1) t vs) : PVs (PV P n) (fs.toList.map (·.type)) vs := by simpa only [PV, hu] using h
theorem pv_array {k : Nat} {vs : List V} (hu : P.underlying t = some (.array k e)) (h : PV P (n + 1) t vs) : PVs (PV P n) (List.replicate k e) vs := by simpa only [PV, hu] using h

theorem arg_i64 (hu : P.underlying t = some (.int .i64)) (h : ArgPV P (n + 1) t v) : ∃ x, v = .int .i64 x ∧ -9223372036854775808 ≤ x ∧ x ≤ 9223372036854775807 := by
  simp only [ArgPV, hu] at h
  obtain ⟨x, h1, h2⟩ := pv_i64 hu h
  exact ⟨x, by simpa using h1, h2⟩
theorem arg_u64 (hu : P.underlying t = some (.int .u64)) (h : ArgPV P (n + 1) t v) : ∃ x : Nat, v = .int .u64 x ∧ x < 18446744073709551616 := by
  simp only [ArgPV, hu] at h
  obtain ⟨x, h1, h2⟩ := pv_u64 hu h
  exact ⟨x, by simpa using h1, h2⟩
theorem arg_u32 (hu : P.underlying t = some (.int .u32)) (h : ArgPV P (n + 1) t v) : ∃ x : Nat, v = .int .u32 x ∧ x < 4294967296 := by
  simp only [ArgPV, hu] at h
  obtain ⟨x, h1, h2⟩ := pv_u32 hu h
  exact ⟨x, by simpa using h1, h2⟩
theorem arg_u8 (hu : P.underlying t = some (.int .u8)) (h : ArgPV P (n + 1) t v) : ∃ x : Nat, v = .int .u8 x ∧ x < 256 := by
  simp only [ArgPV, hu] at h
  obtain ⟨x, h1, h2⟩ := pv_u8 hu h
  exact ⟨x, by simpa using h1, h2⟩
theorem arg_bool (hu : P.underlying t = some .bool) (h : ArgPV P (n + 1) t v) : ∃ b, v = .bool b := by
  simp only [ArgPV, hu] at h
  obtain ⟨b, h1⟩ := pv_bool hu h
  exact ⟨b, by simpa using h1⟩
theorem arg_flt (hu : P.underlying t = some (.float .f64)) (h : ArgPV P (n + 1) t v) : ∃ b, v = .flt b ∧ (Lit.float .f64 b).wf = true := by
  simp only [ArgPV, hu] at h
  obtain ⟨b, h1, h2⟩ := pv_flt hu h
  exact ⟨b, by simpa using h1, h2⟩
theorem arg_slice (hu : P.underlying t = some (.slice e)) (h : ArgPV P (n + 1) t v) : v = .nils ∨ ∃ es : List (List V), v = .isl false es ∧ es.length ≤ maxLen ∧ ∀ q ∈ es, PV P n e q := by
  simp only [ArgPV, hu] at h
  rcases pv_slice hu h with h | ⟨es, h1, h2⟩
  · exact .inl (by simpa using h)
  · exact .inr ⟨es, by simpa using h1, h2⟩
theorem arg_struct {fs : Array Field} (hu : P.underlying t = some (.struct fs)) (h : ArgPV P (n + 1) t v) : ∃ vs, v = .agg vs ∧ PVs (PV P n) (fs.toList.map (·.type)) vs := by
  simp only [ArgPV, hu] at h
  obtain ⟨vs, h1, h2⟩ := h
  exact ⟨vs, h1, pv_struct hu h2⟩
/-- Bytes. -/
theorem arg_bytes (hu : P.underlying t = some (.slice e)) (he : P.underlying e = some (.int .u8)) (h : ArgPV P (n + 2) t v) :
    v = .nils ∨ ∃ l : List Nat, (∀ x ∈ l, x < 256) ∧ l.length ≤ maxLen ∧ v = .isl false (l.map fun x : Nat => [.int .u8 (x : Int)]) := by
  rcases arg_slice hu h with h | ⟨es, h1, h2, h3⟩
  · exact .inl h
  · right
    have : ∀ es : List (List V), (∀ q ∈ es, PV P (n + 1) e q) → ∃ l : List Nat, (∀ x ∈ l, x < 256) ∧ es = l.map fun x : Nat => [.int .u8 (x : Int)] := by
      intro es
      induction es with
      | nil => exact fun _ => ⟨[], by simp, rfl⟩
      | cons q es ih =>
        intro hq
        obtain ⟨l, h4, h5⟩ := ih fun q hq' => hq q (by simp [hq'])
        obtain ⟨x, h6, h7⟩ := pv_u8 he (hq q (by simp))
        exact ⟨x :: l, by simpa [h7] using h4, by simp [h6, h5]⟩
    obtain ⟨l, h4, h5⟩ := this es h3
    exact ⟨l, h4, by rw [h5] at h2; simpa using h2, by rw [h1, h5]⟩
end
end Go.Vm
