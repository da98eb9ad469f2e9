/- Without fences, annotations and registers that hang, of events that share no byte there are no pairs: the law PpoFree returns true whatever it is handed. No condition. -/
import Derived.Test.YtccdkkgimaajbaaDoorK22y
import Derived.Test.YtccdkkgimaajbaaDoorRows
set_option linter.unusedSimpArgs false
set_option linter.unusedVariables false
set_option maxRecDepth 20000
namespace Go.Proofs.YtccdkkgimaajbaaDoor
open Go Go.Vm

def Zb : List (List V) := List.replicate 200 [V.int .u8 0]
def Zs : List (List V) := List.replicate 200 [V.nils]
theorem Zb_eq : List.replicate 200 [V.int .u8 0] = Zb := rfl
theorem Zs_eq : List.replicate 200 [V.nils] = Zs := rfl
theorem Zb_len : Zb.length = 200 := List.length_replicate
theorem Zs_len : Zs.length = 200 := List.length_replicate
theorem Zb_mem {q : List V} (h : q ∈ Zb) : q = [V.int .u8 0] := List.eq_of_mem_replicate h
theorem Zs_mem {q : List V} (h : q ∈ Zs) : q = [V.nils] := List.eq_of_mem_replicate h
theorem frH_0 (Z : Vm.Obj) (N : Nat) : (frH Z N)[0]? = some Z := by unfold frH; split <;> rfl
theorem Zs_imm (N : Nat) (vs : List (List V)) (tk : List Nat) : toImm ⟨vs, tk, frH (.arr Zs) N⟩ true 7 (.rsl 0 0 200) = some (.isl true Zs) := by
  have h : omap2 (toImm ⟨vs, tk, frH (.arr Zs) N⟩ true 6) Zs = some Zs := omap2_same fun q hq v hv => by
    rw [Zs_mem hq] at hv
    rw [List.mem_singleton.1 hv]
    rfl
  have ht : (Zs.drop 0).take 200 = Zs := by rw [List.drop_zero]; exact List.take_of_length_le (by rw [Zs_len]; omega)
  unfold toImm
  simp only [frH_0, Zs_len, ht, h, Nat.zero_add, Nat.le_refl, if_true, Option.map_some]
/-- The list that has grown, as others see it. -/
def frU (ops adr : List Nat) (N : Nat) : V := if N = 0 then .nils else ils (rwR (frL ops adr N))
theorem frV_imm (ops adr : List Nat) (N : Nat) (m : Mem) : toImm m true 7 (frV ops adr N) = some (frU ops adr N) := by
  unfold frV frU
  split <;> rfl
theorem frU_sl (ops adr : List Nat) (N : Nat) : Sl (frU ops adr N) (rwR (frL ops adr N)) := by
  unfold frU
  split
  · rename_i h
    subst h
    exact .nils
  · exact .ils _
theorem frV_len (ops adr : List Nat) (N : Nat) : lenV (frV ops adr N) = some N := by
  unfold frV
  split
  · rename_i h
    subst h
    rfl
  · rw [e_len_osl, rwR_len, frL_len]
def frR (ops adr : List Nat) (n h : Nat) : List Rt := if h = n then frL ops adr (frN ops adr) else []
def frLv (ops adr : List Nat) (n h : Nat) : V := if h = n then frU ops adr (frN ops adr) else .nils
section
variable {ops adr : List Nat} (hd8 : ∀ b ∈ adr, b < 256)
include hd8
theorem frR_pln (n : Nat) : ∀ h, ∀ r ∈ frR ops adr n h, pln r := by
  intro h r hr
  unfold frR at hr
  split at hr
  · exact frL_pln ops adr hd8 _ r hr
  · cases hr
theorem frCd (n : Nat) : Cd (frLv ops adr n) (frR ops adr n) := ⟨fun h hh => by
  refine ⟨?_, ?_, fun r hr => ?_⟩
  · unfold frLv frR
    split
    · exact frU_sl _ _ _
    · exact .nils
  · unfold frR
    split
    · rw [frL_len]; unfold frN; omega
    · simp
  · obtain ⟨k, id, ad, rfl, _⟩ := frR_pln hd8 n h r hr
    show (0 : Int) ≤ (ad : Int)
    omega⟩
omit hd8 in
theorem frE_hart (n : Nat) : ∀ e ∈ evs (frR ops adr n), e.hart = n := by
  intro e he
  obtain ⟨_, h2, _⟩ := evs_mem he
  unfold frR at h2
  split at h2
  · assumption
  · simp at h2
theorem frE_len {n : Nat} (hn : n < 3) : (evs (frR ops adr n)).length = frN ops adr := by
  have key : ∀ h, (evH h (frR ops adr n h) 0).length = if h = n then frN ops adr else 0 := by
    intro h
    rw [evH_all _ _ _ fun r hr => (frR_pln hd8 n h r hr).ev]
    unfold frR
    split
    · rw [frL_len]
    · rfl
  unfold evs
  rw [List.length_append, List.length_append, key, key, key]
  rcases lt3 hn with rfl | rfl | rfl <;> simp
end
set_option maxHeartbeats 2000000 in
theorem PpoFree_true (opv adv : V) (ops adr : List Nat) (ho : Sl opv (byV ops)) (hd : Sl adv (byV adr)) (ho8 : ∀ b ∈ ops, b < 256) (hd8 : ∀ b ∈ adr, b < 256) (hol : ops.length ≤ maxLen) (hdl : adr.length ≤ maxLen) (h : Nat) (hh : h < 256) :
    evI pg .val n_undertowlaw22_PpoFree [.int .u8 (h : Int), opv, adv] [] = some (.bool true, []) := by
  have n1 : (h : Int).tmod 3 = ((h % 3 : Nat) : Int) := by
    rw [Int.tmod_eq_emod_of_nonneg (by omega)]
    omega
  have w0 : IntKind.i64.wrap 0 = 0 := rfl
  have w1 : IntKind.i64.wrap 1 = 1 := rfl
  have w2 : IntKind.i64.wrap 2 = 2 := rfl
  have hn3 : h % 3 < 3 := Nat.mod_lt _ (by omega)
  generalize h % 3 = n at *
  have hN : frN ops adr ≤ 20 := by unfold frN; omega
  have hc := frCd (ops := ops) hd8 n
  have hp := frR_pln (ops := ops) hd8 n
  have hh := frE_hart (ops := ops) (adr := adr) n
  have hEl := frE_len (ops := ops) hd8 hn3
  have hRl : ∀ k, (frR ops adr n k).length ≤ 20 := fun k => by
    unfold frR
    split
    · rw [frL_len]; exact hN
    · simp
  have i0 : isS (.isl false Zb) = true := rfl
  have i4 : isS (.isl true Zs) = true := rfl
  obtain ⟨av, dv, cv, hl, w⟩ := view_ok hc i0 i4 (by have := hRl 0; have := hRl 1; have := hRl 2; omega)
  obtain ⟨rv, W, a1, a0, a2, a3⟩ := All_ok2 w (evs_sorted _) hl ⟨i0, (hc.li 0 (by omega)).1.is, (hc.li 1 (by omega)).1.is, (hc.li 2 (by omega)).1.is, i4⟩
  have hE := Events_ok hc i0 i4
  have hlk := w.le
  clear hl w
  have hpl : ∀ e ∈ evs (frR ops adr n), pln e.r := evs_pln hp
  have hP := Pairs_ok (t := false) a2
  have hPl := prs_len _ hlk W
  have htest : ∀ a b (ha : a < (evs (frR ops adr n)).length) (hb : b < (evs (frR ops adr n)).length), (W a).testBit b = (decide (a < b) && r1 (evs (frR ops adr n))[a] (evs (frR ops adr n))[b]) := by
    intro a b ha hb
    rw [a3 a b ha hb]
    unfold pr
    rw [anyR_ls hp ha hb, hrt_el ha, hrt_el hb, hh _ (List.getElem_mem ha), hh _ (List.getElem_mem hb), decide_eq_true rfl, Bool.true_and]
  have hmem : ∀ q ∈ prs (evs (frR ops adr n)).length W 0, ∃ (a b : Nat), q = ((a : Int), (b : Int)) ∧ ∃ x y : Ev, (evs (frR ops adr n))[a]? = some x ∧ (evs (frR ops adr n))[b]? = some y ∧ y.st = true ∧ ovE x y = true := fun q hq => by
    obtain ⟨a, b, e, ha, hb, ht⟩ := prs_mem hq
    rw [htest a b ha hb, Bool.and_eq_true] at ht
    have ht2 := ht.2
    unfold r1 at ht2
    rw [Bool.and_eq_true] at ht2
    exact ⟨a, b, e, _, _, List.getElem?_eq_getElem ha, List.getElem?_eq_getElem hb, ht2⟩
  have hop : ∀ e ∈ evs (frR ops adr n), e.r.ins.op ≤ 100 := fun e he => by
    obtain ⟨k, id, ad, h1, h2, h3, _⟩ := hpl e he
    rw [h1]
    show (k : Int) ≤ 100
    omega
  have hW : ∀ a b (ha : a < (evs (frR ops adr n)).length) (hb : b < (evs (frR ops adr n)).length), a < b → srtO ((evs (frR ops adr n))[b]).r.ins.op = 5 → adE ((evs (frR ops adr n))[a]).r = adE ((evs (frR ops adr n))[b]).r → hasW (evs (frR ops adr n)).length W (a : Int) (b : Int) = true := by
    intro a b ha hb hab h5 had
    unfold hasW
    simp only [Int.toNat_natCast]
    rw [htest a b ha hb, decide_eq_true hab]
    unfold r1
    rw [ov_same (hpl _ (List.getElem_mem ha)) (hpl _ (List.getElem_mem hb)) had]
    have : ((evs (frR ops adr n))[b]).st = true := sto5 h5
    rw [this, decide_eq_true (by omega)]
    rfl
  have hEd := hE
  have hcl : clean 8 (ils (evR (evs (frR ops adr n)))) = true := e_clean_ils 7 _ (by
    simp only [List.all_eq_true]
    intro q hq x hx
    obtain ⟨e, _, rfl⟩ := List.mem_map.1 hq
    exact evC_all e (fun v => clean 7 v = true) (fun _ _ => rfl) (fun _ => rfl) (fun _ => rfl) x hx)
  have hsu := Sl.ils (evR (evs (frR ops adr n)))
  have hsp := Sl.ils (pR (prs (evs (frR ops adr n)).length W 0))
  have hrw := frV_len ops adr (frN ops adr)
  have hrf : toImm ⟨[], [], []⟩ false 7 (frV ops adr (frN ops adr)) = some (frU ops adr (frN ops adr)) := by unfold frV frU; split <;> rfl
  have hrep : List.replicate 3 ([] : List V) = [[], [], []] := rfl
  have hru := fun q => frV_imm ops adr (frN ops adr) q
  have hcel : (frV ops adr (frN ops adr)).cells = [frV ops adr (frN ops adr)] := by unfold frV; split <;> rfl
  have hml : maxLen ≤ 9223372036854775807 := by decide
  have hui := hsu.is
  have hur : (rows (ils (evR (evs (frR ops adr n))))).length = (evs (frR ops adr n)).length := by rw [hsu.rows, evR_len]
  have hpi := hsp.is
  obtain ⟨u, hu⟩ : ∃ u, u = ils (evR (evs (frR ops adr n))) := ⟨_, rfl⟩
  obtain ⟨pv, hpv⟩ : ∃ pv, pv = ils (pR (prs (evs (frR ops adr n)).length W 0)) := ⟨_, rfl⟩
  rw [← hu] at hE hcl hsu hui hur
  rw [← hpv] at hP hsp hpi
  rcases lt3 hn3 with rfl | rfl | rfl
  · have hl0 := Free_l0_0 ho hd ho8 hd8 Zb (.arr Zs) 0 (Nat.zero_le _)
    obtain ⟨cs, hcs⟩ : ∃ cs, cs = [V.isl false Zb, frV ops adr (frN ops adr), .nils, .nils, .rsl 0 0 200] := ⟨_, rfl⟩
    obtain ⟨H, hH⟩ : ∃ H, H = frH (.arr Zs) (frN ops adr) := ⟨_, rfl⟩
    have a1' : evI pg .val n_ppo_All [.agg [.isl false Zb, frU ops adr (frN ops adr), .nils, .nils, .isl true Zs]] [] = _ := a1
    have hE' : evI pg .val n_cand_Events [.agg [.isl false Zb, frU ops adr (frN ops adr), .nils, .nils, .isl true Zs]] [] = _ := hE
    have c5 : cs.length = 5 := by rw [hcs]; rfl
    have ct : cs.take 5 = cs := by rw [hcs]; rfl
    have cg : cs[1]? = some (frV ops adr (frN ops adr)) := by rw [hcs]; rfl
    have cg' : ∀ q : 1 < cs.length, cs[1] = frV ops adr (frN ops adr) := fun q => by rw [List.getElem?_eq_getElem q] at cg; exact Option.some.inj cg
    have cd : (cs.drop 1).take 1 = [frV ops adr (frN ops adr)] := by rw [hcs]; rfl
    have cn : omap (toImm ⟨[], [], []⟩ false 7) cs = none := by
      have e1 : toImm ⟨[], [], []⟩ false 7 (.rsl 0 0 200) = none := rfl
      have e0 : toImm ⟨[], [], []⟩ false 7 (.isl false Zb) = some (.isl false Zb) := rfl
      have en : toImm ⟨[], [], []⟩ false 7 .nils = some .nils := rfl
      rw [hcs]
      simp only [omap, e0, e1, en, hrf]
    have ci : ∀ vs tk, omap (toImm ⟨vs, tk, H⟩ true 7) cs = some [.isl false Zb, frU ops adr (frN ops adr), .nils, .nils, .isl true Zs] := fun vs tk => by
      have e0 : ∀ m, toImm m true 7 (.isl false Zb) = some (.isl false Zb) := fun _ => rfl
      have e4 := Zs_imm (frN ops adr) vs tk
      have en : ∀ m, toImm m true 7 .nils = some .nils := fun _ => rfl
      rw [hcs, hH]
      simp only [omap, e0, e4, en, hru]
    rw [← hcs, ← hH] at hl0
    have z0 : frV ops adr 0 = .nils := rfl
    have z1 : frH (.arr Zs) 0 = [.arr Zs] := rfl
    rw [z0, z1, Int.natCast_zero] at hl0
    have hl2 := Free_l2 hsu cs H hsp hPl hmem 0 (Nat.zero_le _)
    have hl4 := Free_l4 hsu cs H a0 a2 c5 ct cn ci a1' hlk hop hW 0 (Nat.zero_le _)
    rw [Int.natCast_zero] at hl2 hl4
    clear hmem hop hW hcs hH hru a3 htest hh hpl hp hc z0 z1 hu hpv
    generalize frV ops adr (frN ops adr) = fv at *
    generalize frU ops adr (frN ops adr) = fu at *
    rw [← hEl] at hrw
    rw [s_fn fn_undertowlaw22_PpoFree]
    simp [ir_undertowlaw22_PpoFree, go_sem, alive22, ho.is, hd.is, n1, w0, w1, w2, Zb_eq, Zs_eq, maxB, hrep, hl0, c5, ct, cg, cg', cd, cn, ci, a1', a0, hE', hcl, hP, hl2, hl4, hui, hur, hpi, hcel, hrw, unV, fill, evStore, splice, loadAt, -List.reduceReplicate, -Int.natCast_emod]
  · have hl0 := Free_l0_1 ho hd ho8 hd8 Zb (.arr Zs) 0 (Nat.zero_le _)
    obtain ⟨cs, hcs⟩ : ∃ cs, cs = [V.isl false Zb, .nils, frV ops adr (frN ops adr), .nils, .rsl 0 0 200] := ⟨_, rfl⟩
    obtain ⟨H, hH⟩ : ∃ H, H = frH (.arr Zs) (frN ops adr) := ⟨_, rfl⟩
    have a1' : evI pg .val n_ppo_All [.agg [.isl false Zb, .nils, frU ops adr (frN ops adr), .nils, .isl true Zs]] [] = _ := a1
    have hE' : evI pg .val n_cand_Events [.agg [.isl false Zb, .nils, frU ops adr (frN ops adr), .nils, .isl true Zs]] [] = _ := hE
    have c5 : cs.length = 5 := by rw [hcs]; rfl
    have ct : cs.take 5 = cs := by rw [hcs]; rfl
    have cg : cs[2]? = some (frV ops adr (frN ops adr)) := by rw [hcs]; rfl
    have cg' : ∀ q : 2 < cs.length, cs[2] = frV ops adr (frN ops adr) := fun q => by rw [List.getElem?_eq_getElem q] at cg; exact Option.some.inj cg
    have cd : (cs.drop 2).take 1 = [frV ops adr (frN ops adr)] := by rw [hcs]; rfl
    have cn : omap (toImm ⟨[], [], []⟩ false 7) cs = none := by
      have e1 : toImm ⟨[], [], []⟩ false 7 (.rsl 0 0 200) = none := rfl
      have e0 : toImm ⟨[], [], []⟩ false 7 (.isl false Zb) = some (.isl false Zb) := rfl
      have en : toImm ⟨[], [], []⟩ false 7 .nils = some .nils := rfl
      rw [hcs]
      simp only [omap, e0, e1, en, hrf]
    have ci : ∀ vs tk, omap (toImm ⟨vs, tk, H⟩ true 7) cs = some [.isl false Zb, .nils, frU ops adr (frN ops adr), .nils, .isl true Zs] := fun vs tk => by
      have e0 : ∀ m, toImm m true 7 (.isl false Zb) = some (.isl false Zb) := fun _ => rfl
      have e4 := Zs_imm (frN ops adr) vs tk
      have en : ∀ m, toImm m true 7 .nils = some .nils := fun _ => rfl
      rw [hcs, hH]
      simp only [omap, e0, e4, en, hru]
    rw [← hcs, ← hH] at hl0
    have z0 : frV ops adr 0 = .nils := rfl
    have z1 : frH (.arr Zs) 0 = [.arr Zs] := rfl
    rw [z0, z1, Int.natCast_zero] at hl0
    have hl2 := Free_l2 hsu cs H hsp hPl hmem 0 (Nat.zero_le _)
    have hl4 := Free_l4 hsu cs H a0 a2 c5 ct cn ci a1' hlk hop hW 0 (Nat.zero_le _)
    rw [Int.natCast_zero] at hl2 hl4
    clear hmem hop hW hcs hH hru a3 htest hh hpl hp hc z0 z1 hu hpv
    generalize frV ops adr (frN ops adr) = fv at *
    generalize frU ops adr (frN ops adr) = fu at *
    rw [← hEl] at hrw
    rw [s_fn fn_undertowlaw22_PpoFree]
    simp [ir_undertowlaw22_PpoFree, go_sem, alive22, ho.is, hd.is, n1, w0, w1, w2, Zb_eq, Zs_eq, maxB, hrep, hl0, c5, ct, cg, cg', cd, cn, ci, a1', a0, hE', hcl, hP, hl2, hl4, hui, hur, hpi, hcel, hrw, unV, fill, evStore, splice, loadAt, -List.reduceReplicate, -Int.natCast_emod]
  · have hl0 := Free_l0_2 ho hd ho8 hd8 Zb (.arr Zs) 0 (Nat.zero_le _)
    obtain ⟨cs, hcs⟩ : ∃ cs, cs = [V.isl false Zb, .nils, .nils, frV ops adr (frN ops adr), .rsl 0 0 200] := ⟨_, rfl⟩
    obtain ⟨H, hH⟩ : ∃ H, H = frH (.arr Zs) (frN ops adr) := ⟨_, rfl⟩
    have a1' : evI pg .val n_ppo_All [.agg [.isl false Zb, .nils, .nils, frU ops adr (frN ops adr), .isl true Zs]] [] = _ := a1
    have hE' : evI pg .val n_cand_Events [.agg [.isl false Zb, .nils, .nils, frU ops adr (frN ops adr), .isl true Zs]] [] = _ := hE
    have c5 : cs.length = 5 := by rw [hcs]; rfl
    have ct : cs.take 5 = cs := by rw [hcs]; rfl
    have cg : cs[3]? = some (frV ops adr (frN ops adr)) := by rw [hcs]; rfl
    have cg' : ∀ q : 3 < cs.length, cs[3] = frV ops adr (frN ops adr) := fun q => by rw [List.getElem?_eq_getElem q] at cg; exact Option.some.inj cg
    have cd : (cs.drop 3).take 1 = [frV ops adr (frN ops adr)] := by rw [hcs]; rfl
    have cn : omap (toImm ⟨[], [], []⟩ false 7) cs = none := by
      have e1 : toImm ⟨[], [], []⟩ false 7 (.rsl 0 0 200) = none := rfl
      have e0 : toImm ⟨[], [], []⟩ false 7 (.isl false Zb) = some (.isl false Zb) := rfl
      have en : toImm ⟨[], [], []⟩ false 7 .nils = some .nils := rfl
      rw [hcs]
      simp only [omap, e0, e1, en, hrf]
    have ci : ∀ vs tk, omap (toImm ⟨vs, tk, H⟩ true 7) cs = some [.isl false Zb, .nils, .nils, frU ops adr (frN ops adr), .isl true Zs] := fun vs tk => by
      have e0 : ∀ m, toImm m true 7 (.isl false Zb) = some (.isl false Zb) := fun _ => rfl
      have e4 := Zs_imm (frN ops adr) vs tk
      have en : ∀ m, toImm m true 7 .nils = some .nils := fun _ => rfl
      rw [hcs, hH]
      simp only [omap, e0, e4, en, hru]
    rw [← hcs, ← hH] at hl0
    have z0 : frV ops adr 0 = .nils := rfl
    have z1 : frH (.arr Zs) 0 = [.arr Zs] := rfl
    rw [z0, z1, Int.natCast_zero] at hl0
    have hl2 := Free_l2 hsu cs H hsp hPl hmem 0 (Nat.zero_le _)
    have hl4 := Free_l4 hsu cs H a0 a2 c5 ct cn ci a1' hlk hop hW 0 (Nat.zero_le _)
    rw [Int.natCast_zero] at hl2 hl4
    clear hmem hop hW hcs hH hru a3 htest hh hpl hp hc z0 z1 hu hpv
    generalize frV ops adr (frN ops adr) = fv at *
    generalize frU ops adr (frN ops adr) = fu at *
    rw [← hEl] at hrw
    rw [s_fn fn_undertowlaw22_PpoFree]
    simp [ir_undertowlaw22_PpoFree, go_sem, alive22, ho.is, hd.is, n1, w0, w1, w2, Zb_eq, Zs_eq, maxB, hrep, hl0, c5, ct, cg, cg', cd, cn, ci, a1', a0, hE', hcl, hP, hl2, hl4, hui, hur, hpi, hcel, hrw, unV, fill, evStore, splice, loadAt, -List.reduceReplicate, -Int.natCast_emod]
theorem law_free : ∀ vs, PArgs Tryd.prog 8 Tryd.f5.params.toList vs → ∃ k, evF pg k .val 5 vs [] = some (.bool true, []) := by
  intro vs h
  obtain ⟨v1, _, rfl, h1, v2, _, rfl, h2, v3, _, rfl, h3, rfl⟩ := h
  obtain ⟨q, rfl, k⟩ := arg_u8 Tryd.underlying5 h1
  obtain ⟨l, hl, hok, hle⟩ := arg_u8s (n := 6) h2
  obtain ⟨p, hp, hpk, hpl⟩ := arg_u8s (n := 6) h3
  exact (evI_iff (hx _ _ _)).1 (PpoFree_true v2 v3 l p hl hp hok hpk hle hpl q k)
end Go.Proofs.YtccdkkgimaajbaaDoor
