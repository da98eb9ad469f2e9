/- Layer 21: sets of places (no claim; lemmas). -/
import Derived.Test.YtccdkkgimaajbaaDoorK21b
set_option linter.unusedSimpArgs false
set_option linter.unusedVariables false
namespace Go.Proofs.YtccdkkgimaajbaaDoor
open Go Go.Vm

/-- A set's cells. -/
def wvs (l : List Nat) : List V := l.map fun w : Nat => .int .u64 (w : Int)
def wc (W : Nat) : List V := wvs (wl 8 W)
theorem wvs_len (l : List Nat) : (wvs l).length = l.length := by simp [wvs]
theorem wc_len (W : Nat) : (wc W).length = 8 := by simp [wc, wvs_len, wl_len]
theorem wc_get (W : Nat) {i : Nat} (h : i < 8) : (wc W)[i]? = some (.int .u64 ((wd W i : Nat) : Int)) := by
  rw [List.getElem?_eq_getElem (by rw [wc_len]; exact h)]
  simp [wc, wvs, wl_el]
theorem wc_take (W : Nat) : (wc W).take 8 = wc W := List.take_of_length_le (by rw [wc_len]; omega)
theorem wc_zero : wc 0 = [.int .u64 0, .int .u64 0, .int .u64 0, .int .u64 0, .int .u64 0, .int .u64 0, .int .u64 0, .int .u64 0] := by
  have e : ∀ j, wd 0 j = 0 := fun j => by unfold wd; rw [Nat.zero_div, Nat.zero_mod]
  simp [wc, wvs, wl, e, List.range, List.range.loop]
theorem wc_flat (W : Nat) : flatAll [wc W] = true := by
  simp [flatAll, wc, wvs, V.flat]
theorem wc_clean (W d : Nat) : (wc W).all (clean (d + 1)) = true := by
  simp [wc, wvs, clean]
theorem splice_one (c : List V) (i : Nat) (v : V) (h : i < c.length) : splice c i [v] = c.set i v := by
  unfold splice
  rw [List.length_singleton, List.set_eq_take_append_cons_drop, if_pos h]
  simp
theorem jv_get {W U i : Nat} (h : i < 8) : (wvs (jl 8 W U i))[i]? = some (.int .u64 ((wd W i : Nat) : Int)) := by
  rw [List.getElem?_eq_getElem (by rw [wvs_len, jl_len]; exact h)]
  simp [wvs, jl]
theorem jv_set {W U i : Nat} (h : i < 8) : splice (wvs (jl 8 W U i)) i [.int .u64 ((wd W i ||| wd U i : Nat) : Int)] = wvs (jl 8 W U (i + 1)) := by
  rw [splice_one _ _ _ (by rw [wvs_len, jl_len]; exact h)]
  apply List.ext_getElem
  · simp [wvs, jl]
  · intro j h1 h2
    rw [List.getElem_set]
    simp only [wvs, jl, List.getElem_map, List.getElem_range]
    by_cases c : i = j
    · subst c; simp
    · rw [if_neg c]
      have : (j < i) ↔ (j < i + 1) := by omega
      simp [this]
theorem join_loop (H : List Vm.Obj) (p W U : Nat) (hp : p < H.length) (i : Nat) (hi : i ≤ 8) :
    evCI pg (.loop ir_deps_set_joinl0) ⟨[.ptr p 0 0, .undef, .undef, .undef, .undef, .agg (wc U), .int .i64 (i : Int), .undef], ⟨[[]], [], H.set p (.arr [wvs (jl 8 W U i)])⟩⟩ =
      some (.exit 0, ⟨[.ptr p 0 0, .undef, .undef, .undef, .undef, .agg (wc U), .int .i64 8, .bool false], ⟨[[]], [], H.set p (.arr [wvs (jl 8 W U 8)])⟩⟩) := by
  obtain ⟨B, hB⟩ : ∃ B, B = C.loop ir_deps_set_joinl0 := ⟨_, rfl⟩
  by_cases h : i < 8
  · have e3 := succ_i64 h (by omega)
    have ih := join_loop H p W U hp (i + 1) (by omega)
    have e4 : orI .u64 ((wd W i : Nat) : Int) ((wd U i : Nat) : Int) = ((wd W i ||| wd U i : Nat) : Int) := or_u64 (wd_lt _ _) (wd_lt _ _)
    have hlen : (wvs (jl 8 W U i)).length = 8 := by rw [wvs_len, jl_len]
    have hg := jv_get (W := W) (U := U) h
    have hs := jv_set (W := W) (U := U) h
    have hu := wc_get U h
    have hx := asIx_nat (k := .i64) h
    have hle : i + 1 ≤ 8 := by omega
    have h' : (i : Int) < 8 := by omega
    rw [← ih, ← hB]
    conv => lhs; rw [s_loop_at hB]
    rw [← hs]
    generalize wvs (jl 8 W U i) = rw0 at *
    generalize wc U = cu at *
    generalize wd W i ||| wd U i = wu at *
    generalize wd W i = a at *
    generalize wd U i = b at *
    have hil : i < rw0.length := by omega
    have hri : rw0[i] = .int .u64 (a : Int) := by
      rw [List.getElem?_eq_getElem hil] at hg; exact Option.some.inj hg
    simp [ir_deps_set_joinl0, go_sem, h, h', e3, e4, hg, hu, hx, hp, hlen, loadAt, evStore, V.cells, hle, hri, -Int.natCast_add]
  · obtain rfl : i = 8 := by omega
    rw [← hB, s_loop_at hB]
    simp [ir_deps_set_joinl0, go_sem]
termination_by 8 - i
theorem join_ok (H : List Vm.Obj) (p W U : Nat) (h : H[p]? = some (.arr [wc W])) : evI pg .heap n_deps_set_join [.ptr p 0 0, .agg (wc U)] H = some (.tup [], H.set p (.arr [wc (W ||| U)])) := by
  have hp := get_lt h
  have hl := join_loop H p W U hp 0 (by omega)
  have e0 : H.set p (.arr [wvs (jl 8 W U 0)]) = H := by
    rw [jl_zero]
    apply List.ext_getElem?
    intro q
    by_cases c : p = q
    · subst c; rw [List.getElem?_set_self hp, h]; rfl
    · rw [List.getElem?_set_ne c]
  rw [e0, Int.natCast_zero, jl_end] at hl
  have e1 : wvs (wl 8 (W ||| U)) = wc (W ||| U) := rfl
  rw [e1] at hl
  have ht := wc_take U
  have hlen := wc_len U
  rw [s_fn fn_deps_set_join]
  generalize wc U = cu at *
  generalize wc (W ||| U) = cw at *
  simp [ir_deps_set_join, go_sem, V.cells, hlen, loadAt, ht, hl]

/-! ### each -/
theorem set_word (xv a : V) (i : Nat) (hi : i < 16) (w : Nat) (hw : w < 18446744073709551616) (l : List Int) (hl : l.length + (sb 64 w.testBit).length ≤ 2000) :
    evCI pg (.loop ir_deps_set_eachl0) ⟨[.undef, .undef, .undef, .osl false 0 (iI l), .int .i64 (i : Int), .int .u64 (w : Int), xv, a, .undef, .undef], ⟨[[]], [l.length], []⟩⟩ =
      some (.exit 2, ⟨[.undef, .undef, .undef, .osl false 0 (iI (l ++ wb i w)), .int .i64 (i : Int), .int .u64 0, xv, a, .undef, .bool false], ⟨[[]], [(l ++ wb i w).length], []⟩⟩) := by
  obtain ⟨B, hB⟩ : ∃ B, B = C.loop ir_deps_set_eachl0 := ⟨_, rfl⟩
  rw [← hB, s_loop_at hB]
  by_cases h0 : w = 0
  · subst h0
    have e : wb i 0 = [] := by unfold wb; rw [sb_none (fun j _ => Nat.zero_testBit j)]; rfl
    rw [e, List.append_nil]
    simp [ir_deps_set_eachl0, go_sem]
  · obtain ⟨b1, b2, b3⟩ := low_bits w h0 hw
    have hc : ctz w < 64 := (Go.Lib.lowest_bit 64 w h0 hw).2
    have hsb := sb_first (n := 64) hc b1 b2 b3
    have htz := tz_ok w h0 hw
    have hwb : wb i w = ((64 * i + ctz w : Nat) : Int) :: wb i (w &&& (w - 1)) := by unfold wb; rw [hsb]; rfl
    have hlt : w &&& (w - 1) < w := Nat.lt_of_le_of_lt Nat.and_le_right (by omega)
    have hls : (sb 64 w.testBit).length = (sb 64 (w &&& (w - 1)).testBit).length + 1 := by rw [hsb]; rfl
    have ih := set_word xv a i hi (w &&& (w - 1)) (by omega) (l ++ [((64 * i + ctz w : Nat) : Int)]) (by simp; omega)
    rw [← hB] at ih
    have e1 : IntKind.i64.wrap ((i : Int) * 64) = ((64 * i : Nat) : Int) := by rw [wrap_i64 (by omega) (by omega)]; omega
    have e2 : IntKind.i64.wrap (((64 * i : Nat) : Int) + ((ctz w : Nat) : Int)) = ((64 * i + ctz w : Nat) : Int) := by rw [wrap_i64 (by omega) (by omega)]; omega
    have e3 : IntKind.u64.wrap ((w : Int) - 1) = ((w - 1 : Nat) : Int) := by
      rw [show (w : Int) - 1 = ((w - 1 : Nat) : Int) by omega, wrap_u64' (by omega)]
    have e4 : andI .u64 (w : Int) ((w - 1 : Nat) : Int) = ((w &&& (w - 1) : Nat) : Int) := and_u64 hw (by omega)
    have ea := app_oneI (m := ⟨[[]], [l.length], []⟩) (l := l) (x := ((64 * i + ctz w : Nat) : Int)) rfl (by omega)
    simp only [List.set_cons_zero] at ea
    rw [hwb, List.append_cons]
    generalize w &&& (w - 1) = w' at *
    generalize 64 * i + ctz w = q at *
    rw [List.length_append, List.length_singleton] at ih
    simp [ir_deps_set_eachl0, go_sem, h0, htz, e1, e2, e3, e4, ea, litParts, ih, -Int.natCast_add, -Int.natCast_mul, -List.append_assoc]
termination_by w
theorem set_loop (W : Nat) (i : Nat) (hi : i ≤ 8) (l : List Int) (hl : l.length ≤ 64 * i) :
    evCI pg (.loop ir_deps_set_eachl1) ⟨[.undef, .undef, .undef, .osl false 0 (iI l), .undef, .undef, .agg (wc W), .int .i64 (i : Int), .undef, .undef], ⟨[[]], [l.length], []⟩⟩ =
      some (.exit 0, ⟨[.undef, .undef, .undef, .osl false 0 (iI (l ++ (List.range' i (8 - i)).flatMap fun j => wb j (wd W j))), .undef, .undef, .agg (wc W), .int .i64 8, .bool false, .undef],
        ⟨[[]], [(l ++ (List.range' i (8 - i)).flatMap fun j => wb j (wd W j)).length], []⟩⟩) := by
  obtain ⟨B, hB⟩ : ∃ B, B = C.loop ir_deps_set_eachl1 := ⟨_, rfl⟩
  by_cases h : i < 8
  · have hu := wc_get W h
    have hx := asIx_nat (k := .i64) h
    have h' : (i : Int) < 8 := by omega
    have e3 := succ_i64 h (by omega)
    have h1 : (sb 64 (wd W i).testBit).length ≤ 64 := sb_len _ _
    have hwbl : (wb i (wd W i)).length ≤ 64 := by unfold wb; simp only [List.length_map]; exact h1
    have hw := set_word (.agg (wc W)) (.int .i64 (i : Int)) i (by omega) (wd W i) (wd_lt W i) l (by omega)
    have ih := set_loop W (i + 1) (by omega) (l ++ wb i (wd W i)) (by rw [List.length_append]; omega)
    have e4 : (List.range' i (8 - i)).flatMap (fun j => wb j (wd W j)) = wb i (wd W i) ++ (List.range' (i + 1) (8 - (i + 1))).flatMap fun j => wb j (wd W j) := by
      rw [show 8 - i = (8 - (i + 1)) + 1 by omega, List.range'_succ, List.flatMap_cons]
    rw [e4, ← List.append_assoc, ← ih, ← hB]
    conv => lhs; rw [s_loop_at hB]
    generalize wb i (wd W i) = q at *
    generalize wc W = cw at *
    simp [ir_deps_set_eachl1, go_sem, h, h', hu, hx, e3, hw, loadAt, -Int.natCast_add, -List.length_append]
  · obtain rfl : i = 8 := by omega
    rw [← hB, s_loop_at hB, Nat.sub_self, List.range'_zero, List.flatMap_nil, List.append_nil]
    simp [ir_deps_set_eachl1, go_sem]
termination_by 8 - i
theorem setEach_ok (W n : Nat) (hn : n = 512) (hW : W < 2 ^ n) : evI pg .val n_deps_set_each [.agg (wc W)] [] = some (ils (iI (rt n W)), []) := by
  have h := set_loop W 0 (by omega) [] (by simp)
  have e : (List.range' 0 (8 - 0)).flatMap (fun j => wb j (wd W j)) = rt n W := by
    have hk : kw n = 8 := by rw [hn]; rfl
    rw [← rb_rt hW, rb, hk, Nat.sub_zero, ← List.range_eq_range']
  rw [e, List.nil_append, List.length_nil, Int.natCast_zero] at h
  have e0 : iI [] = [] := rfl
  rw [e0] at h
  have ht := wc_take W
  have hlen := wc_len W
  rw [s_fn fn_deps_set_each]
  generalize wc W = cw at *
  simp [ir_deps_set_each, go_sem, V.cells, hlen, loadAt, ht, h]
end Go.Proofs.YtccdkkgimaajbaaDoor
