/- Layer 20: are tags wrong (no claim; lemmas). -/
import Derived.Test.YtlkcfhpklibnaaaK20j
set_option linter.unusedSimpArgs false
set_option linter.unusedVariables false
set_option maxRecDepth 20000
namespace Go.Proofs.Ytlkcfhpklibnaaa
open Go Go.Vm

section
variable {x0 : V} {lv : Nat → V} {x4 u : V} {R : Nat → List Rt} {img : List Nat} {cv : List V} {co : List (List Int)} (w : Lk x0 lv x4 u R img cv co) {mid : Nat}
include w
theorem tags_l2 (xc : List V) (h : Nat) (hh : h ≤ 3) (H : List Vm.Obj) :
    ∃ X, evCI pg (.loop ir_cand_look_tagsl2) ⟨[.undef, .lp 0 0, .undef, .undef, .undef, .undef, .undef, .undef, .undef, .undef, .undef, .undef, .agg (ls3 lv), .int .i64 (h : Int), .undef, .undef, .undef, .undef, .undef, .undef, .undef, .undef, .undef, .undef, .undef, .undef, .undef, .undef, .undef, .undef, .undef, .undef, .undef, .undef], ⟨[xc, [], []], [], H⟩⟩ =
      some (if ((List.range' h (3 - h)).flatMap fun k => R k).any tagsR = true then (.ret, ⟨[.undef, .undef, .bool true, .undef, .undef, .undef, .undef, .undef, .undef, .undef, .undef, .undef, .undef, .undef, .undef, .undef, .undef, .undef, .undef, .undef, .undef, .undef, .undef, .undef, .undef, .undef, .undef, .undef, .undef, .undef, .undef, .undef, .undef, .undef], ⟨[[], [], []], [], H ++ X⟩⟩)
        else (.exit 0, ⟨[.undef, .lp 0 0, .undef, .undef, .undef, .undef, .undef, .undef, .undef, .undef, .undef, .undef, .agg (ls3 lv), .int .i64 3, .bool false, .undef, .undef, .undef, .undef, .undef, .undef, .undef, .undef, .undef, .undef, .undef, .undef, .undef, .undef, .undef, .undef, .undef, .undef, .undef], ⟨[xc, [], []], [], H ++ X⟩⟩)) := by
  obtain ⟨B, hB⟩ : ∃ B, B = Vm.C.loop ir_cand_look_tagsl2 := ⟨_, rfl⟩
  by_cases c : h < 3
  · have e3 := succ_i64 c (by omega)
    have hd : List.range' h (3 - h) = h :: List.range' (h + 1) (3 - (h + 1)) := by
      have : 3 - h = (3 - (h + 1)) + 1 := by omega
      rw [this, List.range'_succ]
    have hv := (w.li h c).1
    have hrl : (rows (lv h)).length = (R h).length := by rw [hv.rows, rwR_len]
    have hi := hv.is
    have c2 : (h : Int) < 3 := by omega
    obtain ⟨hg, hg2⟩ := ls3_get lv c
    have hll := ls3_len lv
    have hg' : ∀ q : h < (ls3 lv).length, (ls3 lv)[h] = lv h := fun q => by
      rw [List.getElem?_eq_getElem q] at hg
      exact Option.some.inj hg
    have c3 : h ≤ 2 := by omega
    obtain ⟨X1, hl0⟩ := tags_l1 w xc (ls3 lv) h c 0 (Nat.zero_le _) H
    rw [List.drop_zero, Int.natCast_zero] at hl0
    rw [hd, List.flatMap_cons, List.any_append]
    cases q : (R h).any tagsR with
    | true =>
      rw [q, if_pos rfl] at hl0
      refine ⟨X1, ?_⟩
      rw [Bool.true_or, if_pos rfl, ← hB, s_loop_at hB]
      generalize ls3 lv = ls at *
      simp [ir_cand_look_tagsl2, go_sem, c, c2, c3, hg, hg', hg2, hll, hi, hrl, hl0, -Int.natCast_add]
    | false =>
      rw [q, if_neg (by simp)] at hl0
      obtain ⟨X2, ih⟩ := tags_l2 xc (h + 1) (by omega) (H ++ X1)
      refine ⟨X1 ++ X2, ?_⟩
      rw [Bool.false_or, ← List.append_assoc, ← ih, ← hB]
      conv => lhs; rw [s_loop_at hB]
      clear ih hd
      generalize ls3 lv = ls at *
      simp [ir_cand_look_tagsl2, go_sem, c, c2, c3, e3, hg, hg', hg2, hll, hi, hrl, hl0, -Int.natCast_add]
  · obtain rfl : h = 3 := by omega
    refine ⟨[], ?_⟩
    rw [← hB, s_loop_at hB, List.append_nil]
    simp [ir_cand_look_tagsl2, go_sem]
termination_by 3 - h
variable {H : List Vm.Obj} {l : List (Int × V)} (hm : H[mid]? = some (.mp (kvR l))) (hat : AtL l (evs R))
include hm hat
/-- Is a loaded byte's tag no store's that has it? -/
def tgB (E : List Ev) (e : Ev) (k : Nat) : Bool := lod e.r.ins.op && (decide (e.r.tg k ≠ -1) && !wrB E (e.r.tg k) (adE e.r + k))
theorem tags_l3 (e : Ev) (hb : Bd e.r) (i : Nat) (k : Nat) (hk : k ≤ szO e.r.ins.op) :
    evCI pg (.loop ir_cand_look_tagsl3) ⟨[.undef, .lp 0 0, .undef, .undef, .undef, .undef, .undef, .bool false, .lp 1 0, .undef, .undef, .undef, .undef, .undef, .undef, .undef, .undef, .undef, .undef, .undef, .undef, .undef, .undef, .undef, .undef, u, .int .i64 ((evs R).length : Int), .int .i64 (i : Int), .undef, .int .i64 (szO e.r.ins.op : Nat), .int .i64 (k : Int), .undef, .undef, .undef], ⟨[xC x0 lv x4 u mid, evC e, []], [], H⟩⟩ =
      some (if (List.range' k (szO e.r.ins.op - k)).any (tgB (evs R) e) = true then (.exit 6, ⟨[.undef, .undef, .undef, .undef, .undef, .undef, .undef, .bool true, .undef, .undef, .undef, .undef, .undef, .undef, .undef, .undef, .undef, .undef, .undef, .undef, .undef, .undef, .undef, .undef, .undef, .undef, .undef, .undef, .undef, .undef, .undef, .undef, .undef, .undef], ⟨[[], [], []], [], H⟩⟩)
        else (.exit 8, ⟨[.undef, .lp 0 0, .undef, .undef, .undef, .undef, .undef, .bool false, .lp 1 0, .undef, .undef, .undef, .undef, .undef, .undef, .undef, .undef, .undef, .undef, .undef, .undef, .undef, .undef, .undef, .undef, u, .int .i64 ((evs R).length : Int), .int .i64 (i : Int), .undef, .int .i64 (szO e.r.ins.op : Nat), .int .i64 (szO e.r.ins.op : Nat), .bool false, .undef, .undef], ⟨[xC x0 lv x4 u mid, evC e, []], [], H⟩⟩)) := by
  obtain ⟨B, hB⟩ : ∃ B, B = Vm.C.loop ir_cand_look_tagsl3 := ⟨_, rfl⟩
  have h8 := szO_le e.r.ins.op
  have iu := w.ev.is
  by_cases c : k < szO e.r.ins.op
  · have e3 := succ_i64 c (by omega)
    have hd : List.range' k (szO e.r.ins.op - k) = k :: List.range' (k + 1) (szO e.r.ins.op - (k + 1)) := by
      have : szO e.r.ins.op - k = (szO e.r.ins.op - (k + 1)) + 1 := by omega
      rw [this, List.range'_succ]
    have ht := evC_tgq e (k := k) (by omega)
    have ht' : ∀ q : 20 + k < (evC e).length, (evC e)[20 + k] = .int .i64 (e.r.tg k) := fun q => by rw [List.getElem?_eq_getElem q] at ht; exact Option.some.inj ht
    have c8 : (k : Int) < ((szO e.r.ins.op : Nat) : Int) := by omega
    have k8 : (k : Int) < 8 := by omega
    have k7 : k ≤ 7 := by omega
    have k7' : k < 8 := by omega
    have k33 : 20 + k < 33 := by omega
    have had := adE_le hb.ad.1
    have ew : IntKind.i64.wrap (adE e.r + (k : Int)) = adE e.r + k := wrap_i64 (by omega) (by omega)
    have hwr := writer_ok w hm hat (e.r.tg k) (adE e.r + k) (by omega)
    have hx7 : (xC x0 lv x4 u mid).take 7 = xC x0 lv x4 u mid := rfl
    have hxl : (xC x0 lv x4 u mid).length = 7 := rfl
    have wl := wrC_len (evs R) (e.r.tg k)
    have wt := wrC_take (evs R) (e.r.tg k)
    have wd := wrC_drop (evs R) (e.r.tg k)
    have wf := eq_true (wrC_flat (evs R) (e.r.tg k))
    rw [hd, List.any_cons]
    have hdef : tgB (evs R) e k = (lod e.r.ins.op && (decide (e.r.tg k ≠ -1) && !wrB (evs R) (e.r.tg k) (adE e.r + k))) := rfl
    cases q : tgB (evs R) e k with
    | true =>
      rw [Bool.true_or, if_pos rfl, ← hB, s_loop_at hB]
      rw [q] at hdef
      simp only [Bool.true_eq, Bool.and_eq_true, decide_eq_true_eq, Bool.not_eq_true'] at hdef
      obtain ⟨q1, q2, q3⟩ := hdef
      rw [q3] at hwr
      clear hd
      generalize wrC (evs R) (e.r.tg k) = wc at *
      generalize xC x0 lv x4 u mid = xc at *
      generalize (evs R).length = N at *
      simp [ir_cand_look_tagsl3, go_sem, c, c8, k8, k7, k7', k33, iu, ht, ht', q1, q2, ew, hwr, hx7, hxl, wl, wt, wd, wf, evStore, splice, -Int.natCast_add]
    | false =>
      have ih := tags_l3 e hb i (k + 1) (by omega)
      rw [Bool.false_or, ← ih, ← hB]
      conv => lhs; rw [s_loop_at hB]
      rw [q] at hdef
      clear ih hd
      generalize wrC (evs R) (e.r.tg k) = wc at *
      generalize xC x0 lv x4 u mid = xc at *
      generalize (evs R).length = N at *
      cases q1 : lod e.r.ins.op with
      | false => simp [ir_cand_look_tagsl3, go_sem, c, c8, e3, k8, k7, k7', k33, iu, ht, ht', q1, -Int.natCast_add]
      | true =>
        by_cases q2 : e.r.tg k = -1
        · simp [ir_cand_look_tagsl3, go_sem, c, c8, e3, k8, k7, k7', k33, iu, ht, ht', q1, q2, -Int.natCast_add]
        · have q3 : wrB (evs R) (e.r.tg k) (adE e.r + k) = true := by
            rw [q1] at hdef
            simpa [q2] using hdef
          rw [q3] at hwr
          simp [ir_cand_look_tagsl3, go_sem, c, c8, e3, k8, k7, k7', k33, iu, ht, ht', q1, q2, ew, hwr, hx7, hxl, wl, wt, wd, wf, evStore, splice, -Int.natCast_add]
  · obtain rfl : k = szO e.r.ins.op := by omega
    rw [← hB, s_loop_at hB, Nat.sub_self]
    simp [ir_cand_look_tagsl3, go_sem, iu]
termination_by szO e.r.ins.op - k
/-- Is one of an event's tags wrong? -/
def tgE (E : List Ev) (e : Ev) : Bool := (List.range' 0 (szO e.r.ins.op)).any (tgB E e)
theorem tags_l4 (i : Nat) (hi : i ≤ (evs R).length) (hE : (evs R).length ≤ 100000) :
    evCI pg (.loop ir_cand_look_tagsl4) ⟨[.undef, .lp 0 0, .undef, .undef, .undef, .undef, .undef, .bool false, .undef, .undef, .undef, .undef, .undef, .undef, .undef, .undef, .undef, .undef, .undef, .undef, .undef, .undef, .undef, .undef, .undef, u, .int .i64 ((evs R).length : Int), .int .i64 (i : Int), .undef, .undef, .undef, .undef, .undef, .undef], ⟨[xC x0 lv x4 u mid, [], []], [], H⟩⟩ =
      some (if ((evs R).drop i).any (tgE (evs R)) = true then (.exit 6, ⟨[.undef, .undef, .undef, .undef, .undef, .undef, .undef, .bool true, .undef, .undef, .undef, .undef, .undef, .undef, .undef, .undef, .undef, .undef, .undef, .undef, .undef, .undef, .undef, .undef, .undef, .undef, .undef, .undef, .undef, .undef, .undef, .undef, .undef, .undef], ⟨[[], [], []], [], H⟩⟩)
        else (.exit 6, ⟨[.undef, .lp 0 0, .undef, .undef, .undef, .undef, .undef, .bool false, .undef, .undef, .undef, .undef, .undef, .undef, .undef, .undef, .undef, .undef, .undef, .undef, .undef, .undef, .undef, .undef, .undef, u, .int .i64 ((evs R).length : Int), .int .i64 ((evs R).length : Int), .bool false, .undef, .undef, .undef, .undef, .undef], ⟨[xC x0 lv x4 u mid, [], []], [], H⟩⟩)) := by
  obtain ⟨B, hB⟩ : ∃ B, B = Vm.C.loop ir_cand_look_tagsl4 := ⟨_, rfl⟩
  have hb := evs_bd (R := R) fun h hh => (w.li h hh).2.1
  have iu := w.ev.is
  have hur := w.ev.fpR
  by_cases c : i < (evs R).length
  · have e3 := succ_i64 c (by omega)
    have e1 := fun m => w.ev.ia (sz := 33) m .i64 (i := i) (by rw [evR_len]; exact c) (evR_sz _ _ (List.getElem_mem _))
    simp only [evR_el] at e1
    have hd : (evs R).drop i = (evs R)[i] :: (evs R).drop (i + 1) := List.drop_eq_getElem_cons c
    have hl3 := tags_l3 w hm hat (evs R)[i] (hb _ (List.getElem_mem _)) i 0 (Nat.zero_le _)
    have htr : (List.range' 0 (szO ((evs R)[i]).r.ins.op)).any (tgB (evs R) (evs R)[i]) = tgE (evs R) (evs R)[i] := rfl
    rw [Nat.sub_zero, htr, Int.natCast_zero] at hl3
    have hfl := eq_true (evC_flat (evs R)[i])
    rw [hd, List.any_cons]
    cases q : tgE (evs R) (evs R)[i] with
    | true =>
      rw [q, if_pos rfl] at hl3
      rw [Bool.true_or, if_pos rfl, ← hB, s_loop_at hB]
      clear hd htr
      generalize (evs R)[i] = e at *
      generalize xC x0 lv x4 u mid = xc at *
      generalize (evs R).length = N at *
      simp [ir_cand_look_tagsl4, go_sem, c, iu, hur, e1, hl3, hfl, evStore, splice, -Int.natCast_add]
    | false =>
      rw [q, if_neg (by simp)] at hl3
      have ih := tags_l4 (i + 1) (by omega) hE
      rw [Bool.false_or, ← ih, ← hB]
      conv => lhs; rw [s_loop_at hB]
      clear hd htr ih
      generalize (evs R)[i] = e at *
      generalize xC x0 lv x4 u mid = xc at *
      generalize (evs R).length = N at *
      simp [ir_cand_look_tagsl4, go_sem, c, iu, hur, e1, e3, hl3, hfl, evStore, splice, -Int.natCast_add]
  · obtain rfl : i = (evs R).length := by omega
    rw [← hB, s_loop_at hB, List.drop_length]
    simp [ir_cand_look_tagsl4, go_sem, iu]
termination_by (evs R).length - i
def tagB (R : Nat → List Rt) : Bool := (R 0 ++ (R 1 ++ R 2)).any tagsR || (evs R).any (tgE (evs R))
end
theorem get_app {H X : List Vm.Obj} {i : Nat} {o : Vm.Obj} (h : H[i]? = some o) : (H ++ X)[i]? = some o := by
  rw [List.getElem?_append_left (List.getElem?_eq_some_iff.1 h).1]
  exact h
section
variable {x0 : V} {lv : Nat → V} {x4 u : V} {R : Nat → List Rt} {img : List Nat} {cv : List V} {co : List (List Int)} (w : Lk x0 lv x4 u R img cv co) {mid : Nat} {H : List Vm.Obj} {l : List (Int × V)} (hm : H[mid]? = some (.mp (kvR l))) (hat : AtL l (evs R))
include w hm hat
theorem tags_ok : ∃ X, evI pg .heap n_cand_look_tags [.agg (xC x0 lv x4 u mid)] H = some (.bool (tagB R), H ++ X) := by
  have hE : (evs R).length ≤ 100000 := by
    have := evs_len R
    have h0 := (w.li 0 (by omega)).2.2
    have h1 := (w.li 1 (by omega)).2.2
    have h2 := (w.li 2 (by omega)).2.2
    omega
  obtain ⟨X, hl2⟩ := tags_l2 w (xC x0 lv x4 u mid) 0 (by omega) H
  have hl4 := tags_l4 w (get_app (X := X) hm) hat 0 (Nat.zero_le _) hE
  have e : (List.range' 0 (3 - 0)).flatMap (fun k => R k) = R 0 ++ (R 1 ++ R 2) := by simp [List.range'_succ]
  rw [e, Int.natCast_zero] at hl2
  rw [List.drop_zero, Int.natCast_zero] at hl4
  refine ⟨X, ?_⟩
  have i0 := w.im.is
  have i4 := w.co4.is
  have iu := w.ev.is
  have hur : (rows u).length = (evs R).length := by rw [w.ev.rows, evR_len]
  have j0 := (w.li 0 (by omega)).1.is
  have j1 := (w.li 1 (by omega)).1.is
  have j2 := (w.li 2 (by omega)).1.is
  unfold tagB
  unfold ls3 at hl2
  unfold xC at *
  rw [s_fn fn_cand_look_tags]
  cases q : (R 0 ++ (R 1 ++ R 2)).any tagsR with
  | true =>
    rw [q, if_pos rfl] at hl2
    simp [ir_cand_look_tags, go_sem, i0, i4, iu, j0, j1, j2, hl2]
  | false =>
    rw [q, if_neg (by simp)] at hl2
    cases q2 : (evs R).any (tgE (evs R)) with
    | true =>
      rw [q2, if_pos rfl] at hl4
      simp [ir_cand_look_tags, go_sem, i0, i4, iu, hur, j0, j1, j2, hl2, hl4]
    | false =>
      rw [q2, if_neg (by simp)] at hl4
      simp [ir_cand_look_tags, go_sem, i0, i4, iu, hur, j0, j1, j2, hl2, hl4]
end
end Go.Proofs.Ytlkcfhpklibnaaa
