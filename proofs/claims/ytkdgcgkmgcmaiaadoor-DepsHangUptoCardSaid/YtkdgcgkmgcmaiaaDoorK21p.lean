/- Layer 21: the document's roots at a place (no claim; lemmas). -/
import Derived.Test.YtkdgcgkmgcmaiaaDoorK21o
set_option linter.unusedSimpArgs false
set_option linter.unusedVariables false
namespace Go.Proofs.YtkdgcgkmgcmaiaaDoor
open Go Go.Vm

theorem rtV_op (y : In) : (rtV y)[1]? = some (.int .i64 y.op) := rfl
theorem inV_im (y : In) (m : Mem) (t : Bool) (d : Nat) : omap (toImm m t (d + 1)) (inV y) = some (inV y) := rfl
theorem giv_iff (op : Int) : giv op = true ↔ (srtO op = 4 ∨ 10 ≤ srtO op) := by
  have := srtO_le op
  unfold giv
  simp only [Bool.or_eq_true, beq_iff_eq]
  omega
theorem splice_xc (S : Nat → Nat) {r : Nat} (h : r < 32) (W : Nat) : splice (xc S) r [xv W] = xc (up S r W) := by
  rw [splice_one _ _ _ (by rw [xc_len]; exact h), xc_set _ _ _ h]
theorem xv_cells (W : Nat) : (xv W).cells = [xv W] := (xv_sl W).cells
section
variable {l : List In} {lv : V} (hl : Sl lv (rtR l)) (hok : ∀ x ∈ l, okI x) (hlen : l.length ≤ 512) (k : Nat) (hk : k ≤ l.length) (n5 : Nat) (h5 : n5 = 512)
include hl hok hlen hk h5
set_option maxRecDepth 100000 in
theorem rR_l2 (i : Nat) (hi : i ≤ k) :
    evCI pg (.loop ir_undertowref21_Rootsl2) ⟨[lv, .int .i64 (k : Int), .lp 0 0, .lp 1 0, .int .i64 (i : Int), .undef, .undef, .undef, .undef, .undef, .undef, .undef, .undef, .undef, .undef, .undef, .undef], ⟨[xc (fun _ => 0), xc (rAt l i)], [], []⟩⟩ =
      some (.exit 0, ⟨[lv, .int .i64 (k : Int), .lp 0 0, .lp 1 0, .int .i64 (k : Int), .undef, .undef, .undef, .undef, .undef, .undef, .bool false, .undef, .undef, .undef, .undef, .undef], ⟨[xc (fun _ => 0), xc (rAt l k)], [], []⟩⟩) := by
  obtain ⟨B, hB⟩ : ∃ B, B = C.loop ir_undertowref21_Rootsl2 := ⟨_, rfl⟩
  by_cases h : i < k
  · have hil : i < l.length := by omega
    have e1 := fun m => hl.ia (sz := 27) m .i64 (i := i) (by rw [rtR_len]; exact hil) (by rw [rtR_el]; rfl)
    simp only [rtR_el] at e1
    have e3 := succ_i64 h (by omega)
    have ih := rR_l2 (i + 1) (by omega)
    have hy := hok l[i] (List.getElem_mem hil)
    have hSo := refSortO l[i].op hy
    have hT := refTarget_ok l[i] hy
    have hQ := refSources_ok l[i] hy
    have ht := tgt_le l[i]
    have hsu := rAt_succ hil
    have hlt := rAt_lt l i
    have hgi := giv_iff l[i].op
    have hL := rR_l1 (lv := lv) k i (tgt l[i]) (rAt l i) n5 h5 (fun r hr => lt_pow (hlt r hr) (by omega)) (ils (iI (srcs l[i]))) (srcs l[i]) (.ils _) (by have := srcs_len l[i]; omega) (srcs_rg l[i]) 0 (by omega) 0
    rw [List.drop_zero, Int.natCast_zero, xv_zero] at hL
    have eo : ofF (rAt l i) (srcs l[i]) 0 = ofS (rAt l i) (srcs l[i]) := rfl
    rw [eo] at hL
    have hsl := Sl.ils (iI (srcs l[i]))
    have hop := rtV_op l[i]
    have hzi := fun (m : Mem) => inV_im l[i] m false 6
    simp only [Nat.reduceAdd] at hzi
    have tin := rtV_in l[i]
    rw [List.drop_one] at tin
    have tl := rtV_len l[i]
    rw [← ih, ← hB]
    conv => lhs; rw [s_loop_at hB]
    rw [hsu]
    unfold bhd
    by_cases c0 : tgt l[i] = 0
    · rw [if_pos c0]
      rw [c0] at hT
      generalize rtV l[i] = y at *
      have hopl : 1 < y.length := by omega
      have hop' : y[1] = V.int IntKind.i64 l[i].op := by
        rw [List.getElem?_eq_getElem hopl] at hop; exact Option.some.inj hop
      generalize inV l[i] = z at *
      generalize xc (rAt l i) = xs at *
      generalize xc (fun _ => 0) = x0 at *
      simp [ir_undertowref21_Rootsl2, go_sem, h, e1, e3, hSo, hT, hl.is, loadAt, hop, hop', hzi, tin, tl, -Int.natCast_add]
    · rw [if_neg c0]
      obtain ⟨r, hr⟩ : ∃ r : Nat, tgt l[i] = (r : Int) := ⟨(tgt l[i]).toNat, by omega⟩
      have hr32 : r < 32 := by omega
      have hr32' : (r : Int) < 32 := by omega
      have hx := asIx_nat (k := .i64) hr32
      have hr0 : ¬ (r : Int) = 0 := by omega
      have hr0' : ¬ r = 0 := by omega
      rw [hr] at hT hL
      rw [hr, Int.toNat_natCast]
      have hsp := splice_xc (rAt l i) hr32 (gvn (rAt l i) i l[i])
      have hxl := xc_len (rAt l i)
      have hcl := xv_cells (gvn (rAt l i) i l[i])
      have his := xv_is (gvn (rAt l i) i l[i])
      have hr1 : r + 1 ≤ 32 := by omega
      have hd : gvn (rAt l i) i l[i] = if giv l[i].op then 2 ^ i else if srtO l[i].op = 6 ∨ srtO l[i].op = 7 then ofS (rAt l i) (srcs l[i]) else 0 := rfl
      generalize gvn (rAt l i) i l[i] = G at *
      by_cases cg : giv l[i].op = true
      · rw [if_pos cg] at hd
        have h4 := hgi.1 cg
        have hx1 := xv_one (b := i) (by omega)
        rw [← hd] at hx1
        have n6 : ¬ srtO l[i].op = 6 := by omega
        have n7 : ¬ srtO l[i].op = 7 := by omega
        have n6' : ¬ (srtO l[i].op : Int) = 6 := by omega
        have n7' : ¬ (srtO l[i].op : Int) = 7 := by omega
        rw [hx1] at hsp hcl
        generalize srtO l[i].op = so at *
        generalize rtV l[i] = y at *
        have hopl : 1 < y.length := by omega
        have hop' : y[1] = V.int IntKind.i64 l[i].op := by
          rw [List.getElem?_eq_getElem hopl] at hop; exact Option.some.inj hop
        generalize inV l[i] = z at *
        generalize xc (up (rAt l i) r G) = xs2 at *
        generalize xc (rAt l i) = xs at *
        generalize xc (fun _ => 0) = x0 at *
        rw [splice] at hsp
        simp at hsp
        rcases h4 with rfl | h4
        · simp [ir_undertowref21_Rootsl2, go_sem, h, e1, e3, hSo, hT, hl.is, loadAt, hop, hop', hzi, tin, tl, hr0, hr0', hr1, hr32', hx, hxl, litParts, immAll, V.imm, evStore, V.cells, splice, hsp, -Int.natCast_add]
        · have h4' : (10 : Int) ≤ (so : Int) := by omega
          have n4 : ¬ so = 4 := by omega
          have n4' : ¬ (so : Int) = 4 := by omega
          simp [ir_undertowref21_Rootsl2, go_sem, h, e1, e3, hSo, hT, hl.is, loadAt, hop, hop', hzi, tin, tl, hr0, hr0', hr1, hr32', hx, hxl, litParts, immAll, V.imm, evStore, V.cells, splice, hsp, h4, h4', n4, n4', n6, n7, n6', n7', -Int.natCast_add]
      · rw [if_neg cg] at hd
        have h4 := fun e => cg (hgi.2 e)
        have n4 : ¬ srtO l[i].op = 4 := fun e => h4 (.inl e)
        have n10 : ¬ 10 ≤ srtO l[i].op := fun e => h4 (.inr e)
        have n4' : ¬ (srtO l[i].op : Int) = 4 := by omega
        have n10' : ¬ (10 : Int) ≤ (srtO l[i].op : Int) := by omega
        by_cases c67 : srtO l[i].op = 6 ∨ srtO l[i].op = 7
        · rw [if_pos c67] at hd
          rw [← hd] at hL
          clear hd h4 hgi cg
          generalize srtO l[i].op = so at *
          generalize rtV l[i] = y at *
          have hopl : 1 < y.length := by omega
          have hop' : y[1] = V.int IntKind.i64 l[i].op := by
            rw [List.getElem?_eq_getElem hopl] at hop; exact Option.some.inj hop
          generalize inV l[i] = z at *
          generalize ils (iI (srcs l[i])) = fv at *
          generalize xc (up (rAt l i) r G) = xs2 at *
          generalize xc (rAt l i) = xs at *
          generalize xc (fun _ => 0) = x0 at *
          generalize xv G = xg at *
          rw [splice] at hsp
          simp at hsp
          rcases c67 with rfl | rfl
          · simp [ir_undertowref21_Rootsl2, go_sem, h, e1, e3, hSo, hT, hQ, hsl.is, hL, hl.is, loadAt, hop, hop', hzi, tin, tl, hr0, hr0', hr1, hr32', hx, hxl, evStore, hcl, his, splice, hsp, -Int.natCast_add]
          · simp [ir_undertowref21_Rootsl2, go_sem, h, e1, e3, hSo, hT, hQ, hsl.is, hL, hl.is, loadAt, hop, hop', hzi, tin, tl, hr0, hr0', hr1, hr32', hx, hxl, evStore, hcl, his, splice, hsp, -Int.natCast_add]
        · rw [if_neg c67] at hd
          have hx1 := xv_zero
          rw [← hd] at hx1
          have n6 : ¬ srtO l[i].op = 6 := fun e => c67 (.inl e)
          have n7 : ¬ srtO l[i].op = 7 := fun e => c67 (.inr e)
          have n6' : ¬ (srtO l[i].op : Int) = 6 := by omega
          have n7' : ¬ (srtO l[i].op : Int) = 7 := by omega
          rw [hx1] at hsp hcl
          clear hd h4 hgi cg c67 hL
          generalize srtO l[i].op = so at *
          generalize rtV l[i] = y at *
          have hopl : 1 < y.length := by omega
          have hop' : y[1] = V.int IntKind.i64 l[i].op := by
            rw [List.getElem?_eq_getElem hopl] at hop; exact Option.some.inj hop
          generalize inV l[i] = z at *
          generalize xc (up (rAt l i) r G) = xs2 at *
          generalize xc (rAt l i) = xs at *
          generalize xc (fun _ => 0) = x0 at *
          rw [splice] at hsp
          simp at hsp
          simp [ir_undertowref21_Rootsl2, go_sem, h, e1, e3, hSo, hT, hl.is, loadAt, hop, hop', hzi, tin, tl, hr0, hr0', hr1, hr32', hx, hxl, evStore, V.cells, splice, hsp, n4, n4', n10, n10', n6, n7, n6', n7', -Int.natCast_add]
  · obtain rfl : i = k := by omega
    rw [← hB, s_loop_at hB]
    generalize xc (rAt l i) = xs at *
    generalize xc (fun _ => 0) = x0 at *
    simp [ir_undertowref21_Rootsl2, go_sem, hl.is]
termination_by k - i
end
theorem xc_take (S : Nat → Nat) : (xc S).take 32 = xc S := List.take_of_length_le (by rw [xc_len]; omega)
theorem xc_imm (S : Nat → Nat) (m : Mem) (t : Bool) (d : Nat) : omap (toImm m t (d + 1)) (xc S) = some (xc S) := omap_same fun v hv => by
  obtain ⟨r, _, rfl⟩ := List.mem_map.1 hv
  exact (xv_sl _).toImm m t d
section
variable {l : List In} {lv : V} (hl : Sl lv (rtR l)) (hok : ∀ x ∈ l, okI x) (hlen : l.length ≤ 512) (k : Nat) (hk : k ≤ l.length)
include hl hok hlen hk
theorem refRoots_ok : evI pg .val n_undertowref21_Roots [lv, .int .i64 (k : Int)] [] = some (.agg (xc (rAt l k)), []) := by
  have h := rR_l2 hl hok hlen k hk 512 rfl 0 (by omega)
  have e0 : rAt l 0 = fun _ => 0 := rfl
  rw [e0, Int.natCast_zero] at h
  have ht := xc_take (rAt l k)
  have hln := xc_len (rAt l k)
  have hl0 := xc_len (fun _ => 0)
  have him := fun (m : Mem) => xc_imm (rAt l k) m false 6
  simp only [Nat.reduceAdd] at him
  rw [s_fn fn_undertowref21_Roots]
  simp only [ir_undertowref21_Roots, ← rep32, xc_zero]
  generalize xc (rAt l k) = x1 at *
  generalize xc (fun _ => 0) = x0 at *
  have hd0 : List.drop 32 x0 = [] := List.drop_of_length_le (by omega)
  simp [go_sem, hl.is, h, V.cells, loadAt, evStore, splice, ht, hln, hl0, hd0, him]
end
end Go.Proofs.YtkdgcgkmgcmaiaaDoor
