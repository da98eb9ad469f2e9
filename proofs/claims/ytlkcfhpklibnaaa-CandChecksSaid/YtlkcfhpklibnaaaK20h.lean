/- Layer 20: are numbers wrong, are places wrong (no claim; lemmas). -/
import Derived.Test.YtlkcfhpklibnaaaK20g
set_option linter.unusedSimpArgs false
set_option linter.unusedVariables false
set_option maxRecDepth 20000
namespace Go.Proofs.Ytlkcfhpklibnaaa
open Go Go.Vm

/-! ### a set that is made behind all else -/
def mpH (H0 : List Vm.Obj) (s : List Int) : List Vm.Obj := H0 ++ [.mp (kvR (tl s))]
section
variable (H0 : List Vm.Obj) (s : List Int) (vs : List (List V)) (tk : List Nat)
theorem mpH_new : H0 ++ [Vm.Obj.mp []] = mpH H0 [] := rfl
theorem mpH_at : (mpH H0 s)[H0.length]? = some (.mp (kvR (tl s))) := by simp [mpH]
theorem mpH_len : (mpH H0 s).length = H0.length + 1 := by simp [mpH]
theorem mpH_el (h : H0.length < (mpH H0 s).length) : (mpH H0 s)[H0.length] = .mp (kvR (tl s)) := by simp [mpH]
theorem mpH_set (l : List (Int × V)) (s' : List Int) (h : l = tl s') : (mpH H0 s).set H0.length (.mp (kvR l)) = mpH H0 s' := by subst h; simp [mpH]
theorem mpH_look (n : Int) : lookM ⟨vs, tk, mpH H0 s⟩ false false [.bool false] (.map H0.length) (.int .i64 n) = some (.bool (decide (n ∈ s)), ⟨vs, tk, mpH H0 s⟩) := by
  have := look_kv (mpH_at H0 s) vs tk false (.bool false) n
  simpa [kget_tl] using this
theorem mpH_put (n : Int) : mputM ⟨vs, tk, mpH H0 s⟩ (.map H0.length) (.int .i64 n) (.bool true) = some (.undef, ⟨vs, tk, mpH H0 (if n ∈ s then s else s ++ [n])⟩) := by
  rw [mput_kv (mpH_at H0 s) vs tk n (.bool true) rfl, mpH_set H0 s _ _ (kput_tl s n)]
theorem mpH_del (n : Int) : mdelM ⟨vs, tk, mpH H0 s⟩ (.map H0.length) (.int .i64 n) = some (.tup [], ⟨vs, tk, mpH H0 (s.erase n)⟩) := by
  rw [mdel_kv (mpH_at H0 s) vs tk n, mpH_set H0 s _ _ (kdel_tl s n)]
end
/-- All numbers, each put to those that were seen; none: one may not be. -/
def idw : List Int → List Int → Option (List Int)
  | [], s => some s
  | n :: l, s => if n < 0 ∨ n ∈ s then none else idw l (s ++ [n])
theorem idw_app (a b s : List Int) : idw (a ++ b) s = (idw a s).bind (idw b) := by
  induction a generalizing s with
  | nil => rfl
  | cons n a ih =>
    simp only [List.cons_append, idw]
    split
    · rfl
    · exact ih _
def idsR (R : Nat → List Rt) (h : Nat) : List Int := (R h).map Rt.id
section
variable {x0 : V} {lv : Nat → V} {x4 u : V} {R : Nat → List Rt} {img : List Nat} {cv : List V} {co : List (List Int)} (w : Lk x0 lv x4 u R img cv co) (mid : Nat) (H : List Vm.Obj)
include w
theorem ids_l0 (h : Nat) (hh : h < 3) (ls : List V) (i : Nat) (hi : i ≤ (R h).length) (s : List Int) :
    ∃ s', evCI pg (.loop ir_cand_look_idsl0) ⟨[.undef, .undef, .undef, .map H.length, .undef, .undef, .agg ls, .int .i64 (h : Int), .undef, lv h, .int .i64 ((R h).length : Int), .int .i64 (i : Int), .undef, .undef], ⟨[[], []], [], mpH H s⟩⟩ =
      some (match idw ((idsR R h).drop i) s with
        | none => (.ret, ⟨[.undef, .undef, .bool true, .undef, .undef, .undef, .undef, .undef, .undef, .undef, .undef, .undef, .undef, .undef], ⟨[[], []], [], mpH H s'⟩⟩)
        | some t => (.exit 2, ⟨[.undef, .undef, .undef, .map H.length, .undef, .undef, .agg ls, .int .i64 (h : Int), .undef, lv h, .int .i64 ((R h).length : Int), .int .i64 ((R h).length : Int), .bool false, .undef], ⟨[[], []], [], mpH H t⟩⟩)) := by
  obtain ⟨B, hB⟩ : ∃ B, B = Vm.C.loop ir_cand_look_idsl0 := ⟨_, rfl⟩
  obtain ⟨hv, hbd, hl5⟩ := w.li h hh
  have hvi := hv.is
  have hlen : (idsR R h).length = (R h).length := by simp [idsR]
  by_cases c : i < (R h).length
  · have e3 := succ_i64 c (by omega)
    have e1 := fun m => hv.ia (sz := 27) m .i64 (i := i) (by rw [rwR_len]; exact c) (rwR_sz _ _ (List.getElem_mem _))
    simp only [rwR_el] at e1
    have hd : (idsR R h).drop i = ((R h)[i]).id :: (idsR R h).drop (i + 1) := by
      rw [List.drop_eq_getElem_cons (by rw [hlen]; exact c)]
      simp [idsR]
    have hfl := eq_true (rC_all (R h)[i] (fun v => v.flat = true) (fun _ _ => rfl) (fun _ => rfl) (fun _ => rfl))
    rw [hd]
    unfold idw
    have hlk := fun vs tk => mpH_look H s vs tk ((R h)[i]).id
    have hpt := fun vs tk => mpH_put H s vs tk ((R h)[i]).id
    by_cases c1 : ((R h)[i]).id < 0
    · refine ⟨s, ?_⟩
      rw [if_pos (.inl c1), ← hB, s_loop_at hB]
      generalize (R h)[i] = r at *
      simp [ir_cand_look_idsl0, go_sem, c, hvi, e1, c1, evStore, splice, V.cells, V.exp, -Int.natCast_add]
    · by_cases c2 : ((R h)[i]).id ∈ s
      · refine ⟨s, ?_⟩
        rw [if_pos (.inr c2), ← hB, s_loop_at hB]
        rw [decide_eq_true c2] at hlk
        generalize (R h)[i] = r at *
        simp [ir_cand_look_idsl0, go_sem, c, hvi, e1, c1, hlk, evStore, splice, V.cells, V.exp, -Int.natCast_add]
      · obtain ⟨s', ih⟩ := ids_l0 h hh ls (i + 1) (by omega) (s ++ [((R h)[i]).id])
        refine ⟨s', ?_⟩
        rw [if_neg (by simp [c1, c2]), ← ih, ← hB]
        conv => lhs; rw [s_loop_at hB]
        rw [decide_eq_false c2] at hlk
        simp only [if_neg c2] at hpt
        clear ih hd
        generalize (R h)[i] = r at *
        simp [ir_cand_look_idsl0, go_sem, c, hvi, e1, e3, c1, hlk, hpt, evStore, splice, V.cells, V.exp, -Int.natCast_add]
  · obtain rfl : i = (R h).length := by omega
    refine ⟨s, ?_⟩
    rw [← hB, s_loop_at hB, List.drop_eq_nil_of_le (by omega)]
    simp [ir_cand_look_idsl0, go_sem, idw]
termination_by (R h).length - i
theorem ids_l1 (h : Nat) (hh : h ≤ 3) (s : List Int) :
    ∃ s', evCI pg (.loop ir_cand_look_idsl1) ⟨[.undef, .undef, .undef, .map H.length, .undef, .undef, .agg (ls3 lv), .int .i64 (h : Int), .undef, .undef, .undef, .undef, .undef, .undef], ⟨[[], []], [], mpH H s⟩⟩ =
      some (match idw ((List.range' h (3 - h)).flatMap fun k => idsR R k) s with
        | none => (.ret, ⟨[.undef, .undef, .bool true, .undef, .undef, .undef, .undef, .undef, .undef, .undef, .undef, .undef, .undef, .undef], ⟨[[], []], [], mpH H s'⟩⟩)
        | some t => (.exit 0, ⟨[.undef, .undef, .undef, .map H.length, .undef, .undef, .agg (ls3 lv), .int .i64 (3 : Int), .bool false, .undef, .undef, .undef, .undef, .undef], ⟨[[], []], [], mpH H t⟩⟩)) := by
  obtain ⟨B, hB⟩ : ∃ B, B = Vm.C.loop ir_cand_look_idsl1 := ⟨_, rfl⟩
  by_cases c : h < 3
  · have e3 := succ_i64 c (by omega)
    have hd : List.range' h (3 - h) = h :: List.range' (h + 1) (3 - (h + 1)) := by
      have : 3 - h = (3 - (h + 1)) + 1 := by omega
      rw [this, List.range'_succ]
    have hv := (w.li h c).1
    have hrl : (rows (lv h)).length = (R h).length := by rw [hv.rows, rwR_len]
    have hi := hv.is
    have c2 : (h : Int) < 3 := by omega
    obtain ⟨hg, hg2⟩ := ls3_get lv c
    have hll := ls3_len lv
    have hg' : ∀ q : h < (ls3 lv).length, (ls3 lv)[h] = lv h := fun q => by
      rw [List.getElem?_eq_getElem q] at hg
      exact Option.some.inj hg
    have c3 : h ≤ 2 := by omega
    obtain ⟨s1, hl0⟩ := ids_l0 w H h c (ls3 lv) 0 (Nat.zero_le _) s
    rw [List.drop_zero, Int.natCast_zero] at hl0
    rw [hd, List.flatMap_cons, idw_app]
    cases q : idw (idsR R h) s with
    | none =>
      rw [q] at hl0
      refine ⟨s1, ?_⟩
      rw [← hB, s_loop_at hB]
      generalize ls3 lv = ls at *
      simp [ir_cand_look_idsl1, go_sem, c, c2, c3, hg, hg', hg2, hll, hi, hrl, hl0, -Int.natCast_add]
    | some t =>
      rw [q] at hl0
      obtain ⟨s', ih⟩ := ids_l1 (h + 1) (by omega) t
      refine ⟨s', ?_⟩
      rw [Option.bind_some, ← ih, ← hB]
      conv => lhs; rw [s_loop_at hB]
      clear ih hd
      generalize ls3 lv = ls at *
      simp [ir_cand_look_idsl1, go_sem, c, c2, c3, e3, hg, hg', hg2, hll, hi, hrl, hl0, -Int.natCast_add]
  · obtain rfl : h = 3 := by omega
    refine ⟨s, ?_⟩
    rw [← hB, s_loop_at hB]
    simp [ir_cand_look_idsl1, go_sem, idw]
termination_by 3 - h
def idsB (R : Nat → List Rt) : Bool := (idw (idsR R 0 ++ (idsR R 1 ++ idsR R 2)) []).isNone
theorem ids_ok : ∃ X, evI pg .heap n_cand_look_ids [.agg (xC x0 lv x4 u mid)] H = some (.bool (idsB R), H ++ X) := by
  have i0 := w.im.is
  have i4 := w.co4.is
  have iu := w.ev.is
  have j0 := (w.li 0 (by omega)).1.is
  have j1 := (w.li 1 (by omega)).1.is
  have j2 := (w.li 2 (by omega)).1.is
  obtain ⟨s', hl⟩ := ids_l1 w H 0 (by omega) []
  have e : (List.range' 0 (3 - 0)).flatMap (fun k => idsR R k) = idsR R 0 ++ (idsR R 1 ++ idsR R 2) := by simp [List.range'_succ]
  rw [e, Int.natCast_zero] at hl
  unfold ls3 at hl
  unfold idsB xC
  have hmp := mpH_new H
  cases q : idw (idsR R 0 ++ (idsR R 1 ++ idsR R 2)) [] with
  | none =>
    rw [q] at hl
    refine ⟨[.mp (kvR (tl s'))], ?_⟩
    show _ = some (_, mpH H s')
    rw [s_fn fn_cand_look_ids]
    simp [ir_cand_look_ids, go_sem, i0, i4, iu, j0, j1, j2, hmp, hl, V.cells, V.exp]
  | some t =>
    rw [q] at hl
    refine ⟨[.mp (kvR (tl t))], ?_⟩
    show _ = some (_, mpH H t)
    rw [s_fn fn_cand_look_ids]
    simp [ir_cand_look_ids, go_sem, i0, i4, iu, j0, j1, j2, hmp, hl, V.cells, V.exp]
end
end Go.Proofs.Ytlkcfhpklibnaaa
