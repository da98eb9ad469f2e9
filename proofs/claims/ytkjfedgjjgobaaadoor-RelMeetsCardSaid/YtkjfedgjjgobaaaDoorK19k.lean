/- Layer 19: what is handed; the pairs' law's loops (no claim; lemmas). -/
import Derived.Test.YtkjfedgjjgobaaaDoorK19j
set_option linter.unusedSimpArgs false
set_option linter.unusedVariables false
namespace Go.Proofs.YtkjfedgjjgobaaaDoor
open Go Go.Vm

theorem alive19 : evI pg .val n_undertowlaw19_alive [] [] = some (.bool true, []) := closed irL_ok 300 (by kernel_rfl)
theorem pv_pair {n : Nat} {vs : List V} (h : PV Tryd.prog (n + 2) 49 vs) : ∃ q : Int × Int, vs = [.int .i64 q.1, .int .i64 q.2] := by
  obtain ⟨_, _, rfl, h1, _, _, rfl, h2, rfl⟩ := pv_array Tryd.underlying49 h
  obtain ⟨x, rfl, _⟩ := pv_i64 Tryd.underlying3 h1
  obtain ⟨y, rfl, _⟩ := pv_i64 Tryd.underlying3 h2
  exact ⟨(x, y), rfl⟩
theorem pv_pairs {n : Nat} : ∀ es : List (List V), (∀ q ∈ es, PV Tryd.prog (n + 2) 49 q) → ∃ l : List (Int × Int), es = pR l
  | [], _ => ⟨[], rfl⟩
  | q :: es, h => by
    obtain ⟨w, rfl⟩ := pv_pair (h q (by simp))
    obtain ⟨l, rfl⟩ := pv_pairs es fun q hq => h q (by simp [hq])
    exact ⟨w :: l, rfl⟩
theorem arg_pairs {n : Nat} {v : V} (h : ArgPV Tryd.prog (n + 3) 22 v) : ∃ l : List (Int × Int), Sl v (pR l) := by
  rcases arg_slice Tryd.underlying22 h with rfl | ⟨es, rfl, _, hes⟩
  · exact ⟨[], .nils⟩
  · obtain ⟨l, rfl⟩ := pv_pairs es hes
    exact ⟨l, .isl _ _⟩
theorem pv_ints {n : Nat} : ∀ es : List (List V), (∀ q ∈ es, PV Tryd.prog (n + 1) 3 q) → ∃ l : List Int, es = iI l
  | [], _ => ⟨[], rfl⟩
  | q :: es, h => by
    obtain ⟨w, rfl, _⟩ := pv_i64 Tryd.underlying3 (h q (by simp))
    obtain ⟨l, rfl⟩ := pv_ints es fun q hq => h q (by simp [hq])
    exact ⟨w :: l, rfl⟩
theorem arg_ints {n : Nat} {v : V} (h : ArgPV Tryd.prog (n + 2) 37 v) : ∃ l : List Int, Sl v (iI l) ∧ l.length ≤ maxLen := by
  rcases arg_slice Tryd.underlying37 h with rfl | ⟨es, rfl, hl, hes⟩
  · exact ⟨[], .nils, by simp [maxLen]⟩
  · obtain ⟨l, rfl⟩ := pv_ints es hes
    exact ⟨l, .isl _ _, by rwa [iI_len] at hl⟩
theorem MatAt.slot {H : List Vm.Obj} {v : V} {n k T : Nat} {I : Nat → Nat} {R : Nat → List (List V)} (h : MatAt H v n k T I R) : ∀ q, slotV q v = some v := by
  intro q
  rcases h.top with ⟨_, h1⟩ | ⟨_, h1, _⟩ <;> subst h1 <;> rfl
theorem TabAt.el {H : List Vm.Obj} {v : V} {n T : Nat} {I : Nat → Nat} {f : Nat → Nat → Bool} (h : TabAt H v n T I f) {a b : Nat} (ha : a < n) (hb : b < n) (vs : List (List V)) (tk : List Nat) :
    iaSV 1 ⟨vs, tk, H⟩ (.rsl (I a) 0 n) (.int .i64 (b : Int)) = some (.ptr (I a) b 0) ∧ evLoad false 1 ⟨vs, tk, H⟩ (.ptr (I a) b 0) = some (.bool (f a b)) := by
  have hrow := MatAt.row h a ha
  have hg := bR_get (n := n) (f a) hb
  constructor
  · rw [e_ia_rsl]
    simp [asIx_nat hb, hrow, hg]
  · rw [e_load_ptr]
    simp [hrow, hg, loadAt]

section
variable (n : Nat) (hn : n ≤ 512) (f g : Nat → Nat → Bool)
/-- A table, as far as another is joined to it. -/
def Q (f g : Nat → Nat → Bool) (i j : Nat) : Nat → Nat → Bool := fun a b => if a < i ∨ (a = i ∧ b < j) then f a b || g a b else f a b
theorem Q_row (i n : Nat) : ∀ a b, b < n → Q f g i n a b = Q f g (i + 1) 0 a b := by
  intro a b hb
  unfold Q
  have : (a < i ∨ (a = i ∧ b < n)) ↔ (a < i + 1 ∨ (a = i + 1 ∧ b < 0)) := by omega
  simp [this]
variable (v2 : V) (T2 : Nat) (I2 : Nat → Nat) (v3 : V) (T3 : Nat) (I3 : Nat → Nat) (hd : ∀ q, mft n T2 I2 q → ¬ mft n T3 I3 q) (r c12 : V)
include hn hd
theorem Pairs_law_l0 (i : Nat) (hi : i < n) (j : Nat) (hj : j ≤ n) (H : List Vm.Obj) (h2 : TabAt H v2 n T2 I2 (Q f g i j)) (h3 : TabAt H v3 n T3 I3 g) :
    ∃ H', evCI pg (.loop ir_undertowlaw19_RelPairsl0) ⟨[.undef, .undef, .undef, .undef, .undef, .undef, .int .i64 (n : Int), r, v2, .undef, .undef, v3, c12, .int .i64 (i : Int), .int .i64 (j : Int), .undef, .undef, .undef, .undef, .undef, .undef, .undef], ⟨[], [], H⟩⟩ =
        some (.exit 2, ⟨[.undef, .undef, .undef, .undef, .undef, .undef, .int .i64 (n : Int), r, v2, .undef, .undef, v3, c12, .int .i64 (i : Int), .int .i64 (n : Int), .undef, .undef, .undef, .undef, .undef, .undef, .bool false], ⟨[], [], H'⟩⟩) ∧
      TabAt H' v2 n T2 I2 (Q f g i n) ∧ (∀ q, (∀ a, a < n → q ≠ I2 a) → H'[q]? = H[q]?) := by
  obtain ⟨B, hB⟩ : ∃ B, B = C.loop ir_undertowlaw19_RelPairsl0 := ⟨_, rfl⟩
  by_cases c : j < n
  · have e3 := succ_i64 c (by omega)
    obtain ⟨a1, a2⟩ := MatAt.ia h2 hi [] []
    have a2 := a2 false rfl
    obtain ⟨b1, b2⟩ := MatAt.ia h3 hi [] []
    have b2 := b2 false rfl
    obtain ⟨a3, a4⟩ := h2.el hi c [] []
    obtain ⟨b3, b4⟩ := h3.el hi c [] []
    have hrow := MatAt.row h2 i hi
    have hrl := get_lt hrow
    have hrg := get_el hrow hrl
    have hrow3 := MatAt.row h3 i hi
    have hrl3 := get_lt hrow3
    obtain ⟨hv2, ht2⟩ := MatAt.pos h2 (by omega)
    obtain ⟨hv3, ht3⟩ := MatAt.pos h3 (by omega)
    have hT2 := get_lt ht2
    have hT3 := get_lt ht3
    have hQ : Q f g i j i j = f i j := by unfold Q; rw [if_neg (by omega)]
    have s2 := MatAt.set h2 hi ((bR n (Q f g i j i)).set j [.bool (f i j || g i j)]) (by rw [List.length_set, bR_len])
    have s2' : TabAt (H.set (I2 i) (.arr ((bR n (Q f g i j i)).set j [.bool (f i j || g i j)]))) v2 n T2 I2 (Q f g i (j + 1)) := by
      refine MatAt.congr s2 fun a ha => ?_
      by_cases e : a = i
      · subst e
        simp only [if_true]
        rw [bR_set]
        apply bR_congr
        intro b hb
        unfold Q
        by_cases e2 : b = j
        · subst e2; simp
        · have : (b < j + 1) ↔ (b < j) := by omega
          simp [e2, this]
      · simp only [e, if_false]
        apply bR_congr
        intro b hb
        unfold Q
        simp [e]
    have s3 : TabAt (H.set (I2 i) (.arr ((bR n (Q f g i j i)).set j [.bool (f i j || g i j)]))) v3 n T3 I3 g := MatAt.frame h3 fun q hq => List.getElem?_set_ne (fun e => hd (I2 i) (.inr ⟨i, hi, rfl⟩) (by rw [e]; exact hq))
    obtain ⟨H', r1, r2, r3⟩ := Pairs_law_l0 i hi (j + 1) (by omega) _ s2' s3
    refine ⟨H', ?_, r2, fun q hq => by rw [r3 q hq, List.getElem?_set_ne (Ne.symm (hq i hi))]⟩
    rw [← r1, ← hB]
    conv => lhs; rw [s_loop_at hB]
    have hbl := bR_len n (Q f g i j i)
    have hbg := bR_get (n := n) (Q f g i j i) c
    rw [hQ] at a4 hbg
    rw [hv2] at a1
    rw [hv3] at b1
    generalize bR n (Q f g i j i) = br at *
    have hbrl : j < br.length := by omega
    have hbre : br[j] = [.bool (f i j)] := by
      rw [List.getElem?_eq_getElem hbrl] at hbg; exact Option.some.inj hbg
    cases hf : f i j with
    | true =>
      rw [hf] at a4 hbg hbre
      simp [ir_undertowlaw19_RelPairsl0, go_sem, c, e3, hv2, hv3, a1, a2, a3, a4, b1, b2, b3, b4, hrow, hrl, hrg, hT2, hT3, hrl3, hbl, hbg, hbrl, hbre, -Int.natCast_add]
    | false =>
      rw [hf] at a4 hbg hbre
      simp [ir_undertowlaw19_RelPairsl0, go_sem, c, e3, hv2, hv3, a1, a2, a3, a4, b1, b2, b3, b4, hrow, hrl, hrg, hT2, hT3, hrl3, hbl, hbg, hbrl, hbre, -Int.natCast_add]
  · obtain rfl : j = n := by omega
    refine ⟨H, ?_, h2, fun _ _ => rfl⟩
    rw [← hB, s_loop_at hB]
    simp [ir_undertowlaw19_RelPairsl0, go_sem]
termination_by n - j
theorem Pairs_law_l1 (i : Nat) (hi : i ≤ n) (H : List Vm.Obj) (h2 : TabAt H v2 n T2 I2 (Q f g i 0)) (h3 : TabAt H v3 n T3 I3 g) :
    ∃ H', evCI pg (.loop ir_undertowlaw19_RelPairsl1) ⟨[.undef, .undef, .undef, .undef, .undef, .undef, .int .i64 (n : Int), r, v2, .undef, .undef, v3, c12, .int .i64 (i : Int), .undef, .undef, .undef, .undef, .undef, .undef, .undef, .undef], ⟨[], [], H⟩⟩ =
        some (.exit 0, ⟨[.undef, .undef, .undef, .undef, .undef, .undef, .int .i64 (n : Int), r, v2, .undef, .undef, v3, c12, .int .i64 (n : Int), .undef, .undef, .undef, .undef, .undef, .undef, .bool false, .undef], ⟨[], [], H'⟩⟩) ∧
      TabAt H' v2 n T2 I2 (Q f g n 0) ∧ (∀ q, (∀ a, a < n → q ≠ I2 a) → H'[q]? = H[q]?) := by
  obtain ⟨B, hB⟩ : ∃ B, B = C.loop ir_undertowlaw19_RelPairsl1 := ⟨_, rfl⟩
  by_cases c : i < n
  · have e3 := succ_i64 c (by omega)
    obtain ⟨H1, l1, l2, l3⟩ := Pairs_law_l0 n hn f g v2 T2 I2 v3 T3 I3 hd r c12 i c 0 (by omega) H h2 h3
    have l2' : TabAt H1 v2 n T2 I2 (Q f g (i + 1) 0) := MatAt.congr l2 fun a ha => bR_congr fun b hb => (Q_row f g i n a b hb).symm
    have l3' : TabAt H1 v3 n T3 I3 g := MatAt.frame h3 fun q hq => l3 q fun a ha e => hd (I2 a) (.inr ⟨a, ha, rfl⟩) (by rw [← e]; exact hq)
    obtain ⟨H', r1, r2, r3⟩ := Pairs_law_l1 (i + 1) (by omega) H1 l2' l3'
    refine ⟨H', ?_, r2, fun q hq => by rw [r3 q hq, l3 q hq]⟩
    rw [Int.natCast_zero] at l1
    rw [← r1, ← hB]
    conv => lhs; rw [s_loop_at hB]
    have hs2 := MatAt.slot h2
    have hs3 := MatAt.slot h3
    simp [ir_undertowlaw19_RelPairsl1, go_sem, c, e3, l1, -Int.natCast_add]
  · obtain rfl : i = n := by omega
    refine ⟨H, ?_, h2, fun _ _ => rfl⟩
    rw [← hB, s_loop_at hB]
    simp [ir_undertowlaw19_RelPairsl1, go_sem]
termination_by n - i
end
theorem Add_nil (H : List Vm.Obj) : evI pg .heap n_rel_Rel_Add [.nilp, .int .i64 0, .int .i64 0] H = some (.bool false, H) := by
  have h : evI pg .val n_rel_Rel_is [.nilp, .int .i64 0] [] = some (.bool false, []) := closed irL_ok 10 (by kernel_rfl)
  rw [s_fn fn_rel_Rel_Add]
  simp [ir_rel_Rel_Add, go_sem, h]
theorem New_neg (H : List Vm.Obj) : evI pg .heap n_rel_New [.int .i64 (-1)] H = some (.nilp, H) := by
  rw [s_fn fn_rel_New]
  simp [ir_rel_New, go_sem]
theorem New_big (H : List Vm.Obj) : evI pg .heap n_rel_New [.int .i64 513] H = some (.nilp, H) := by
  rw [s_fn fn_rel_New]
  simp [ir_rel_New, go_sem]
theorem nil_Has : evI pg .val n_rel_Rel_Has [.nilp, .int .i64 0, .int .i64 0] [] = some (.bool false, []) := closed irL_ok 10 (by kernel_rfl)
theorem nil_Pairs : evI pg .val n_rel_Rel_Pairs [.nilp] [] = some (.nils, []) := closed irL_ok 10 (by kernel_rfl)
theorem nil_Close : evI pg .val n_rel_Rel_Close [.nilp] [] = some (.nilp, []) := closed irL_ok 10 (by kernel_rfl)
theorem nil_Order : evI pg .val n_rel_Rel_Order [.nilp] [] = some (.tup [.nils, .bool false], []) := closed irL_ok 10 (by kernel_rfl)
theorem nil_Fits : evI pg .val n_rel_Rel_Fits [.nilp, .nils] [] = some (.bool false, []) := closed irL_ok 10 (by kernel_rfl)
end Go.Proofs.YtkjfedgjjgobaaaDoor
