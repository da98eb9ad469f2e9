/- Layer 22: the rules that look along events (no claim; lemmas). -/
import Derived.Test.YtccdkkgimaajbaaDoorK22e
set_option linter.unusedSimpArgs false
set_option linter.unusedVariables false
namespace Go.Proofs.YtccdkkgimaajbaaDoor
open Go Go.Vm

def btw (E : List Ev) (a b : Nat) : List Ev := (E.take b).drop (a + 1)
theorem btw_len {E : List Ev} {a b : Nat} (hb : b ≤ E.length) : (btw E a b).length = b - (a + 1) := by simp [btw]; omega
theorem btw_el {E : List Ev} {a b i : Nat} (h : i < (btw E a b).length) (h2 : a + 1 + i < E.length) : (btw E a b)[i] = E[a + 1 + i] := by simp [btw]
def r12 (R : Nat → List Rt) (A D : Nat → Nat → Nat) (x y : Ev) (M : List Ev) : Bool := M.any fun m => m.st && (retE y m.r.id && (hgs R A x m || hgs R D x m))
theorem i64_small {n : Int} (h : 0 ≤ n ∧ n ≤ 100000) : IntKind.i64.wrap n = n := wrap_i64 (by omega) (by omega)
section
variable {t : Bool} {u : V} {lv av dv cv : Nat → V} {E : List Ev} {R : Nat → List Rt} {A D C : Nat → Nat → Nat} (w : Vw u lv av dv cv E R A D C)
include w
variable {a b : Nat} (hab : a < b) (hb : b < E.length)
include hab hb
theorem known_ok (hlt : (E[a]).at' < (E[b]).at') : evI pg .val n_ppo_view_known [.ip t (vwC u lv av dv cv) 0, .int .i64 (a : Int), .int .i64 (b : Int)] [] = some (.bool (r13 R A E[a] E[b]), []) := by
  have ha : a < E.length := by omega
  have e1 := fun m => w.ia ha m
  have e2 := fun m => w.ia hb m
  have hfp := w.fp
  obtain ⟨k1, k2⟩ := w.ok E[a] (List.getElem_mem _)
  obtain ⟨k3, k4⟩ := w.ok E[b] (List.getElem_mem _)
  have k5 := (w.li (E[b]).hart k3).2
  have hl := known_loop (t := t) w (x := E[a]) (y := E[b]) k1 (by omega) ((E[a]).at' + 1) (by omega) (by omega)
  have ew : IntKind.i64.wrap (((E[a]).at' : Int) + 1) = (((E[a]).at' + 1 : Nat) : Int) := by rw [i64_small (by omega)]; rfl
  unfold r13
  generalize E[a] = x at *
  generalize E[b] = y at *
  have h0 : (vwC u lv av dv cv)[0]? = some u := rfl
  have h0' : ∀ h : 0 < (vwC u lv av dv cv).length, (vwC u lv av dv cv)[0] = u := fun _ => rfl
  generalize vwC u lv av dv cv = c at *
  rw [s_fn fn_ppo_view_known]
  by_cases q : (y.st && (List.range' (x.at' + 1) (y.at' - (x.at' + 1))).any fun k => hasW (R x.hart).length (A x.hart) x.at' k) = true
  · rw [if_pos q] at hl
    rw [q]
    simp [ir_ppo_view_known, go_sem, hfp, e1, e2, h0, h0', ew, hl, evStore, splice, V.cells, V.exp, -Int.natCast_add]
  · rw [if_neg q] at hl
    rw [Bool.eq_false_iff.2 q]
    simp [ir_ppo_view_known, go_sem, hfp, e1, e2, h0, h0', ew, hl, evStore, splice, V.cells, V.exp, -Int.natCast_add]
theorem between_ok : ∃ v, evI pg .val n_ppo_view_between [.ip t (vwC u lv av dv cv) 0, .int .i64 (a : Int), .int .i64 (b : Int)] [] = some (v, []) ∧ Sl v (evR (btw E a b)) := by
  have hle := w.le
  have ew : IntKind.i64.wrap ((a : Int) + 1) = ((a + 1 : Nat) : Int) := by rw [i64_small (by omega)]; rfl
  obtain ⟨v, h1, h2⟩ := w.ev.slc (sz := 33) ⟨[], [], []⟩ (some (.int .i64 ((a + 1 : Nat) : Int))) (some (.int .i64 (b : Int))) (l := a + 1) (k := b) (by decide) (evR_sz _) (by
    rw [evR_len]
    simp only [bnd, asNat]
    rw [if_pos (by omega)]
    simp only [Int.toNat_natCast]
    rw [if_pos (by omega)])
  have e : ((evR E).take b).drop (a + 1) = evR (btw E a b) := by simp [evR, btw, List.map_take, List.map_drop]
  rw [e] at h2
  refine ⟨v, ?_, h2⟩
  have h0 : (vwC u lv av dv cv)[0]? = some u := rfl
  have h0' : ∀ h : 0 < (vwC u lv av dv cv).length, (vwC u lv av dv cv)[0] = u := fun _ => rfl
  generalize vwC u lv av dv cv = c at *
  rw [s_fn fn_ppo_view_between]
  simp [ir_ppo_view_between, go_sem, h0, h0', ew, h1, h2.is, -Int.natCast_add]
theorem through_loop {bv : V} (hbv : Sl bv (evR (btw E a b))) (i : Nat) (hi : i ≤ (btw E a b).length) :
    evCI pg (.loop ir_ppo_view_throughl0) ⟨[.ip t (vwC u lv av dv cv) 0, .int .i64 (a : Int), .int .i64 (b : Int), .undef, .undef, .undef, .undef, bv, .int .i64 ((btw E a b).length : Int), .int .i64 (i : Int), .undef, .undef], ⟨[[]], [], []⟩⟩ =
      some (if r12 R A D E[a] E[b] ((btw E a b).drop i) = true then (.ret, ⟨[.undef, .undef, .undef, .bool true, .undef, .undef, .undef, .undef, .undef, .undef, .undef, .undef], ⟨[[]], [], []⟩⟩)
        else (.exit 0, ⟨[.ip t (vwC u lv av dv cv) 0, .int .i64 (a : Int), .int .i64 (b : Int), .undef, .undef, .undef, .undef, bv, .int .i64 ((btw E a b).length : Int), .int .i64 ((btw E a b).length : Int), .bool false, .undef], ⟨[[]], [], []⟩⟩)) := by
  obtain ⟨B, hB⟩ : ∃ B, B = Vm.C.loop ir_ppo_view_throughl0 := ⟨_, rfl⟩
  have hle := w.le
  have hbl := btw_len (E := E) (a := a) (b := b) (by omega)
  by_cases c : i < (btw E a b).length
  · have hk : a + 1 + i < E.length := by omega
    have ha : a < E.length := by omega
    have e3 := succ_i64 c (by omega)
    have e1 := fun m => hbv.ia (sz := 33) m .i64 (i := i) (by rw [evR_len]; exact c) (evR_sz _ _ (List.getElem_mem _))
    simp only [evR_el] at e1
    have e2 := fun m => w.ia hb m
    have hfp := w.fp
    have ew : IntKind.i64.wrap ((a : Int) + 1) = ((a + 1 : Nat) : Int) := by rw [i64_small (by omega)]; rfl
    have ew2 : IntKind.i64.wrap (((a + 1 : Nat) : Int) + (i : Int)) = ((a + 1 + i : Nat) : Int) := by rw [i64_small (by omega)]; rfl
    have hA := hangsA_ok (t := t) w ha hk
    have hD := hangsD_ok (t := t) w ha hk
    have hre := returns_ok E[b] (E[a + 1 + i]).r.id
    have hel := btw_el c hk
    have ih := through_loop hbv (i + 1) (by omega)
    rw [List.drop_eq_getElem_cons c]
    unfold r12 at ih ⊢
    rw [List.any_cons]
    rw [hel] at e1 ⊢
    have h0 : (vwC u lv av dv cv)[0]? = some u := rfl
    have h0' : ∀ h : 0 < (vwC u lv av dv cv).length, (vwC u lv av dv cv)[0] = u := fun _ => rfl
    rw [← hB] at ih
    rw [← hB, s_loop_at hB]
    clear hel
    generalize vwC u lv av dv cv = cc at *
    generalize E[a + 1 + i] = m at *
    generalize hgs R A E[a] m = g1 at *
    generalize hgs R D E[a] m = g2 at *
    generalize E[b] = y at *
    rcases hq : (m.st && (retE y m.r.id && (g1 || g2))) with _ | _
    · rw [Bool.false_or, ← ih]
      cases q1 : m.st with
      | false =>
        simp only [Ev.st] at q1
        simp [ir_ppo_view_throughl0, go_sem, hbv.is, c, e1, e2, e3, ew, ew2, q1, evStore, splice, V.cells, V.exp, -Int.natCast_add]
      | true =>
        cases q2 : retE y m.r.id with
        | false =>
          rw [q2] at hre
          simp only [Ev.st] at q1
          simp [ir_ppo_view_throughl0, go_sem, hbv.is, c, e1, e2, e3, ew, ew2, q1, hre, hfp, h0, h0', evStore, splice, V.cells, V.exp, -Int.natCast_add]
        | true =>
          rw [q2] at hre
          rw [q1, q2] at hq
          simp only [Bool.true_and, Bool.or_eq_false_iff] at hq
          rw [hq.1] at hA
          rw [hq.2] at hD
          simp only [Ev.st] at q1
          simp [ir_ppo_view_throughl0, go_sem, hbv.is, c, e1, e2, e3, ew, ew2, q1, hre, hfp, h0, h0', hA, hD, evStore, splice, V.cells, V.exp, -Int.natCast_add]
    · rw [Bool.true_or, if_pos rfl]
      simp only [Bool.and_eq_true, Ev.st] at hq
      obtain ⟨q1, q2, q3⟩ := hq
      rw [q2] at hre
      cases g1 with
      | true => simp [ir_ppo_view_throughl0, go_sem, hbv.is, c, e1, e2, e3, ew, ew2, q1, hre, hfp, h0, h0', hA, hD, evStore, splice, V.cells, V.exp, -Int.natCast_add]
      | false =>
        rw [Bool.false_or] at q3
        rw [q3] at hD
        simp [ir_ppo_view_throughl0, go_sem, hbv.is, c, e1, e2, e3, ew, ew2, q1, hre, hfp, h0, h0', hA, hD, evStore, splice, V.cells, V.exp, -Int.natCast_add]
  · obtain rfl : i = (btw E a b).length := by omega
    rw [← hB, s_loop_at hB, List.drop_length]
    simp [ir_ppo_view_throughl0, go_sem, r12]
termination_by (btw E a b).length - i
theorem through_ok : evI pg .val n_ppo_view_through [.ip t (vwC u lv av dv cv) 0, .int .i64 (a : Int), .int .i64 (b : Int)] [] = some (.bool (r12 R A D E[a] E[b] (btw E a b)), []) := by
  obtain ⟨v, h1, h2⟩ := between_ok (t := t) w hab hb
  have hl := through_loop (t := t) w hab hb h2 0 (by omega)
  rw [List.drop_zero, Int.natCast_zero] at hl
  have hlv : (rows v).length = (btw E a b).length := by rw [h2.rows, evR_len]
  generalize vwC u lv av dv cv = c at *
  rw [s_fn fn_ppo_view_through]
  by_cases q : r12 R A D E[a] E[b] (btw E a b) = true
  · rw [if_pos q] at hl
    rw [q]
    simp [ir_ppo_view_through, go_sem, h1, h2.is, hlv, hl]
  · rw [if_neg q] at hl
    rw [Bool.eq_false_iff.2 q]
    simp [ir_ppo_view_through, go_sem, h1, h2.is, hlv, hl]
end
end Go.Proofs.YtccdkkgimaajbaaDoor
