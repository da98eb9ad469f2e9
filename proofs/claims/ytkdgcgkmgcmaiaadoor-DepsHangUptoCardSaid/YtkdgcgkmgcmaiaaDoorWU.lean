/- A law over one list that the evaluation says is true up to a length, holds of lists up to that length (no claim; lemmas). -/
import Derived.Test.YtkdgcgkmgcmaiaaDoorVf
set_option linter.unusedSimpArgs false
set_option linter.unusedVariables false
namespace Go.Proofs.YtkdgcgkmgcmaiaaDoor
open Go Go.Vm Go.ChangeShapes Go.WideShapes Go.ChangeAt Go.RowKit

theorem law_core_up {C : Checked} {tg : Nat → Option Tg} {p : Pg} {gl : List (Nat × List V)} {f : Nat} {fn : Func} {s : ChangeSpec} {n : Nat} {tb t e : TypeId} {H : Type} {enc : TypeId × Value → H} (N : Nat)
    (hfo : C.prog.follows .mixedOrders = true) (hT : TgOK C.prog tg) (hp : PgOK C.prog tg p gl) (hl : laidOutB C.prog = true)
    (hread : fn.params.toList.all (fun t => C.prog.readableRec t && decide (t < C.prog.types.size) && plainT C.prog n t) = true) (hres : fn.resultTypes = #[tb]) (htb : C.prog.underlying tb = some .bool)
    (hv : s.vars = []) (hspec : ∀ (ds : List (DataW H)), ds.length = fn.params.size → s.fn H ds = { results := [.lit (.bool true)], args := ds })
    (hpar : fn.params.toList = [t]) (hte : C.prog.underlying t = some (.slice e))
    (law : ∀ vs, PArgs C.prog n fn.params.toList vs → (∀ es, vs = [.isl false es] → es.length ≤ N) → ∃ k, evF p k .val f vs [] = some (.bool true, []))
    {W : World} {base : Nat} {args : Array Value} {ds gs : List (DataW H)} {before : List MemPlace}
    (hval : ∀ (j : Nat) t v, fn.params[j]? = some t → args[j]? = some v → Value.okWide C.prog W .any base t v)
    (hW : DataW.Whole enc C.prog fn.params.toList s.vars false W args.toList ds gs before) (hgi : GI gl (Gh.imm fun _ b o => ∃ q ∈ gl, q.1 = b ∧ o < q.2.length) W)
    (hlen : ∀ (elems spare : List (DataW H)), ds = [.slice elems spare] → elems.length ≤ N) :
    Calls C.prog f args W fun e W' => ∃ v, e = .returned v ∧ s.post enc C.prog fn false true false false W args v W' := by
  simp only [List.all_eq_true, Bool.and_eq_true, decide_eq_true_eq] at hread
  have hW' := hW
  obtain ⟨pl, q, hA, hV, rfl, hfz, hnd⟩ := hW
  rw [hv] at hV
  obtain ⟨rfl, rfl⟩ := trodVars_none hV
  obtain ⟨hdl, vs, h1, h2, h3⟩ := argsPics (E := fun _ b o => MemPlace.cell b o ∈ pl ∨ ∃ q ∈ gl, q.1 = b ∧ o < q.2.length) (n := n) fn.params.toList args.toList ds pl (fun t ht => (hread t ht).2) hA (fun j t x h h' => hval j t x (by simpa using h) (by simpa using h')) (fun b o hb _ => .inl hb)
  have hsz : ∀ es, vs = [.isl false es] → es.length ≤ N := by
    intro es hes
    subst hes
    have hA2 := hA
    rw [hpar] at hA2
    obtain ⟨v, vs', d, ds', p', q', e1, rfl, _, ⟨fuel, ht⟩, hr⟩ := trodAll_cons hA2
    obtain ⟨rfl, rfl, _⟩ := trodAll_nil hr
    have hvr := h3 0 (.isl false es) rfl
    have e0 : args.toList.getD 0 undef = v := by rw [e1]; rfl
    rw [e0] at hvr
    cases hvr with
    | isl0 r t a c => simp
    | isl r t es b o sz c x hne hc hsz hf hx hv' =>
      rcases DataW.trod_slice hte ht with ⟨h, _⟩ | ⟨a, len, cap, elems, rest, m, _, h, hd, _, _, _, hlen', _⟩
      · simp [Value.cells] at h
      · have h4 : es.length = len := by
          simp [Value.cells] at h
          exact h.2.1
        have h5 : d = .slice (elems.map (·.1)) (rest.map (·.1)) := (Prod.mk.inj hd).1
        have := hlen _ _ (by rw [h5])
        rw [List.length_map] at this
        omega
  obtain ⟨k, hk⟩ := law vs h1 hsz
  refine ((snd_all hfo hT hp k).1 f vs (.bool true) [] hk (fun _ b o => MemPlace.cell b o ∈ pl ∨ ∃ q ∈ gl, q.1 = b ∧ o < q.2.length) W args (fun _ _ h => h) (fun _ b o h => ?_)
    (hgi.imm fun _ _ _ h => .inr h) (by simpa using h2) (fun i v hi => ?_)).mono fun e W' ⟨x, he, hx, hf⟩ => ?_
  · rcases h with h | ⟨q, hq, rfl, ho⟩
    · exact hW'.lt _ (List.mem_append_left _ h)
    · have := hgi q hq
      generalize hz : Value.pointer (some ⟨q.1, 0, none⟩) = z at this
      cases this with
      | ip _ _ _ _ b o' x hf hx hv' =>
        cases hz
        have := (hx o ho).2
        exact cell_lt this
  · have := h3 i v hi
    simpa [Array.getD_eq_getD_getElem?, List.getD_eq_getElem?_getD] using this
  · subst he
    have := hx.bool_inv
    subst this
    have hb : Below W.heap.size W W' := ⟨hf.os, hf.tape, hf.output, hf.size, hf.kept⟩
    have hsp : s.fn H (ds ++ []) = { results := [.lit (.bool true)], args := ds } := by rw [List.append_nil]; exact hspec ds (by simpa using hdl)
    refine ⟨_, rfl, post_of_below' (pa := pl) (pv := []) hW' (fun b sp hd => ?_) (fun sp hs => ?_) (fun sp hs => ?_) rfl hb (ok_one hres rfl (okWide_bool_mk htb _))⟩
    · rw [hsp, hres]
      exact trodAll_cons_mk (shut_bool htb _) trodAll_mk0
    · rw [hsp]
      exact trodAll_stays hl _ _ _ _ (fun t ht => (hread t ht).1) hA (fun x hx => hb.same (hW'.lt x (List.mem_append_left _ hx))) (fun x hx => hs x (List.mem_append_left _ hx))
    · rw [hsp, hv]; rfl
end Go.Proofs.YtkdgcgkmgcmaiaaDoor
