/- Layer 21: going along a list (no claim; lemmas). -/
import Derived.Test.YtccdkkgimaajbaaDoorK21f
set_option linter.unusedSimpArgs false
set_option linter.unusedVariables false
namespace Go.Proofs.YtccdkkgimaajbaaDoor
open Go Go.Vm

theorem rtV_take (x : In) : (rtV x).take 27 = rtV x := rfl
theorem rtV_in (x : In) : ((rtV x).drop 1).take 9 = inV x := rfl
theorem mem_sb {n a : Nat} {p : Nat → Bool} : a ∈ sb n p ↔ a < n ∧ p a = true := by simp [sb]
theorem rt_nL (n W : Nat) : rt n W = nL (sb n W.testBit) := rfl
theorem lt_pow {W i n : Nat} (h : W < 2 ^ i) (hi : i ≤ n) : W < 2 ^ n := Nat.lt_of_lt_of_le h (Nat.pow_le_pow_right (by omega) hi)
theorem lt_two {W i b : Nat} (h : W < 2 ^ i) (hb : W.testBit b = true) : b < i := by
  apply Classical.byContradiction
  intro hn
  rw [bit_ge h (by omega)] at hb
  cases hb
section
variable {r : Nat} {v : V} {T : Nat} {I : Nat → Nat} {l : List In} {u : V} {f x : Nat} {cs : List V} {CB : Nat → List Vm.Obj → Prop} {own : Nat → Prop} {D : Nat → Nat}
  (hu : Sl u (rtR l)) (hl : l.length ≤ 512) (hc : cs = [] ∨ ∃ c, cs = [.ptr c 0 0])
  (hcb : ∀ i (hi : i < l.length) H, H[x]? = some (.arr [rc (rAt l i)]) → CB i H → ∃ H2, evI pg .heap f ([.int .i64 (i : Int), .agg (inV l[i]), .ptr x 0 0] ++ cs) H = some (.agg (wc (D i)), H2) ∧ CB (i + 1) H2 ∧ (∀ o, ¬ own o → H2[o]? = H[o]?))
  (hfr : ∀ i H H', (∀ o, own o → H'[o]? = H[o]?) → CB i H → CB i H') (hox : ¬ own x) (hor : ∀ o, rft r l.length T I o → ¬ own o) (hxr : ¬ rft r l.length T I x) (hD : ∀ i, i < l.length → D i < 2 ^ i)
include hu hl hc hcb hfr hox hor hxr hD
set_option maxRecDepth 100000 in
theorem along_loop (i : Nat) (hi : i ≤ l.length) (H : List Vm.Obj) (h1 : RelAt H r v l.length T I (aW D i)) (h2 : H[x]? = some (.arr [rc (rAt l i)])) (h3 : CB i H) :
    ∃ H', evCI pg (.loop ir_deps_alongl1) ⟨[.undef, .fn f [] cs, .undef, .ptr r 0 0, .ptr x 0 0, .undef, .undef, .undef, .undef, u, .int .i64 (l.length : Int), .int .i64 (i : Int), .undef, .undef, .undef, .undef, .undef], ⟨[[]], [], H⟩⟩ =
        some (.exit 0, ⟨[.undef, .fn f [] cs, .undef, .ptr r 0 0, .ptr x 0 0, .undef, .undef, .undef, .undef, u, .int .i64 (l.length : Int), .int .i64 (l.length : Int), .bool false, .undef, .undef, .undef, .undef], ⟨[[]], [], H'⟩⟩) ∧
      RelAt H' r v l.length T I (aW D l.length) := by
  obtain ⟨B, hB⟩ : ∃ B, B = C.loop ir_deps_alongl1 := ⟨_, rfl⟩
  by_cases h : i < l.length
  · have e1 := fun m => hu.ia (sz := 27) m .i64 (i := i) (by rw [rtR_len]; exact h) (by rw [rtR_el]; rfl)
    simp only [rtR_el] at e1
    have e3 := succ_i64 h (by omega)
    obtain ⟨H2, c1, c2, c3⟩ := hcb i h H h2 h3
    have r2 : RelAt H2 r v l.length T I (aW D i) := h1.frame fun o ho => c3 o (hor o ho)
    have x2 : H2[x]? = some (.arr [rc (rAt l i)]) := by rw [c3 x hox]; exact h2
    have hDi := hD i h
    obtain ⟨n5, hn5⟩ : ∃ n, n = 512 := ⟨_, rfl⟩
    have hea := setEach_ok (D i) n5 hn5 (lt_pow hDi (by omega))
    rw [rt_nL, hn5] at hea
    generalize hq : sb 512 (D i).testBit = q at *
    have hqm : ∀ a, a ∈ q → a < i := fun a ha => by
      rw [← hq, mem_sb] at ha
      exact lt_two hDi ha.2
    have hql : q.length ≤ 1000 := by have := sb_len 512 (D i).testBit; rw [hq] at this; omega
    have hsl := Sl.ils (iI (nL q))
    obtain ⟨H3, d1, d2, d3, d4⟩ := along_in (r := r) (v := v) (T := T) (I := I) (.fn f [] cs) x i h u (.int .i64 (l.length : Int)) (.int .i64 (i : Int)) (rtV l[i]) (ils (iI (nL q))) q hsl (fun a ha => Nat.lt_trans (hqm a ha) h) hql 0 (by omega) _ _ r2
    rw [List.drop_zero] at d2
    have r3 : RelAt H3 r v l.length T I (aW D (i + 1)) := by
      have : aW D (i + 1) = addL i q (aW D i) := by rw [← hq]; rfl
      rw [this]; exact d2
    have x3 : H3[x]? = some (.arr [rc (rAt l i)]) := by
      rw [d3 x (fun a ha e => hxr (.inr (.inr ⟨a, ha, e⟩)))]; exact x2
    have b3 : CB (i + 1) H3 := hfr _ H2 H3 (fun o ho => d3 o (fun a ha e => hor o (.inr (.inr ⟨a, ha, e⟩)) ho)) c2
    have hbe := behind_ok H3 x (rAt l i) i l[i] x3 (by omega)
    rw [← rAt_succ h] at hbe
    have hx3 := get_lt x3
    obtain ⟨H', g1, g2⟩ := along_loop (i + 1) (by omega) (H3.set x (.arr [rc (rAt l (i + 1))])) (r3.frame fun o ho => List.getElem?_set_ne (fun e => hxr (by rw [e]; exact ho))) (by simp [hx3])
      (hfr _ H3 _ (fun o ho => List.getElem?_set_ne (fun e => hox (by rw [e]; exact ho))) b3)
    refine ⟨H', ?_, g2⟩
    rw [Int.natCast_zero] at d1
    rw [← g1, ← hB]
    conv => lhs; rw [s_loop_at hB]
    have t27 := rtV_take l[i]
    have hwi := fun (m : Mem) => wc_imm (D i) m false 6
    simp only [Nat.reduceAdd] at hwi
    have tin := rtV_in l[i]
    rw [List.drop_one] at tin
    have tl := rtV_len l[i]
    have il := inV_len l[i]
    generalize rtV l[i] = y at *
    generalize inV l[i] = z at *
    generalize hu2 : ils (iI (nL q)) = u2 at *
    have hd27 : List.drop 27 y = [] := List.drop_of_length_le (by omega)
    have hlen2 : (iI (nL q)).length = q.length := by rw [iI_len, nL_len]
    rcases hc with rfl | ⟨c, rfl⟩
    · simp only [List.append_nil] at c1
      simp [ir_deps_alongl1, go_sem, h, e1, e3, c1, hea, d1, hbe, hu.is, hsl.is, hsl.rows, hlen2, loadAt, evStore, V.cells, V.exp, splice, t27, tin, tl, hd27, hwi, fpCv, -Int.natCast_add]
    · simp only [List.cons_append, List.nil_append] at c1
      simp [ir_deps_alongl1, go_sem, h, e1, e3, c1, hea, d1, hbe, hu.is, hsl.is, hsl.rows, hlen2, loadAt, evStore, V.cells, V.exp, splice, t27, tin, tl, hd27, hwi, fpCv, -Int.natCast_add]
  · obtain rfl : i = l.length := by omega
    refine ⟨H, ?_, h1⟩
    rw [← hB, s_loop_at hB]
    simp [ir_deps_alongl1, go_sem, hu.is]
termination_by l.length - i
end
end Go.Proofs.YtccdkkgimaajbaaDoor
