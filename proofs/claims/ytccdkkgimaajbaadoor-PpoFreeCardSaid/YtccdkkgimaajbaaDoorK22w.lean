/- Layer 22: loads and stores alone (no claim; lemmas). -/
import Derived.Test.YtccdkkgimaajbaaDoorK22s
import Derived.Test.YtccdkkgimaajbaaDoorK22v
set_option linter.unusedSimpArgs false
set_option linter.unusedVariables false
namespace Go.Proofs.YtccdkkgimaajbaaDoor
open Go Go.Vm

def rt1 (op id : Int) (addr : Nat) : Rt := ⟨⟨op, 0, 0, 0, 0, 0, 0, false, false⟩, 0, 0, 0, (addr : Int), 0, 0, id, -1, false, 0, fun _ => -1⟩
theorem oneR_ok (op id : Int) (addr : Nat) : evI pg .val n_undertowlaw22_one [.int .i64 op, .int .i64 id, .int .u64 (addr : Int)] [] = some (.agg (rC (rt1 op id addr)), []) := by
  rw [s_fn fn_undertowlaw22_one]
  simp [ir_undertowlaw22_one, go_sem, fill, evStore, splice, V.cells, V.exp, rC, rt1]
/-- A load or a store, without anything else. -/
def pln (r : Rt) : Prop := ∃ (k : Nat) (id : Int) (ad : Nat), r = rt1 (k : Int) id ad ∧ 11 ≤ k ∧ k ≤ 21 ∧ ad < 256
theorem srt_ls : ∀ k : Fin 22, 11 ≤ k.1 → (srt k.1 = 4 ∨ srt k.1 = 5) ∧ 1 ≤ sz k.1 := by decide
theorem srtO_ls {k : Nat} (h1 : 11 ≤ k) (h2 : k ≤ 21) : (srtO (k : Int) = 4 ∨ srtO (k : Int) = 5) ∧ 1 ≤ szO (k : Int) := by
  have := srt_ls ⟨k, by omega⟩ h1
  unfold srtO szO
  rw [if_neg (by omega), if_neg (by omega), Int.toNat_natCast]
  exact this
theorem pln.op {r : Rt} (h : pln r) : (srtO r.ins.op = 4 ∨ srtO r.ins.op = 5) ∧ 1 ≤ szO r.ins.op := by
  obtain ⟨k, id, ad, rfl, h1, h2, _⟩ := h
  exact srtO_ls h1 h2
theorem pln.ev {r : Rt} (h : pln r) : isE r = true := by
  have hs := h.op.1
  obtain ⟨k, id, ad, rfl, h1, h2, _⟩ := h
  unfold isE memO
  rcases hs with hs | hs <;> rw [hs] <;> rfl
theorem pln.ad {r : Rt} (h : pln r) : 0 ≤ adE r ∧ adE r ≤ 255 := by
  obtain ⟨k, id, ad, rfl, h1, h2, h3⟩ := h
  unfold adE rt1
  simp only
  rw [if_pos (by omega)]
  omega
theorem pln.src {r : Rt} (h : pln r) : srcs (no2 r.ins) = [] ∧ srcs (no1 r.ins) = [] ∧ crs r.ins.op = false := by
  have hs := h.op.1
  obtain ⟨k, id, ad, rfl, h1, h2, h3⟩ := h
  have hr : rg 0 = 0 := rfl
  refine ⟨?_, ?_, ?_⟩
  · unfold srcs src0 no2 rt1
    simp only [hr]
    split <;> split <;> rfl
  · unfold srcs src0 no1 rt1
    simp only [hr]
    split <;> split <;> rfl
  · unfold crs
    have e : ¬ (rt1 (k : Int) id ad).ins.op = 4 := by
      show ¬ (k : Int) = 4
      omega
    rw [decide_eq_false e, Bool.or_false]
    rcases hs with hs | hs <;> rw [hs] <;> rfl
theorem evH_all (h : Nat) : ∀ (l : List Rt) (i : Nat), (∀ r ∈ l, isE r = true) → (evH h l i).length = l.length
  | [], _, _ => rfl
  | r :: l, i, hl => by
    have ih := evH_all h l (i + 1) fun r hr => hl r (by simp [hr])
    unfold evH
    rw [hl r (by simp)]
    simp [ih]
theorem aW_zero (n : Nat) : aW (fun _ => 0) n = fun _ => 0 := by
  induction n with
  | zero => rfl
  | succ n ih =>
    unfold aW
    rw [ih]
    funext a
    simp [addL, sb]
theorem ofS_nil (S : Nat → Nat) : ofS S [] = 0 := rfl
theorem h_zero {l : List In} (h : ∀ y ∈ l, srcs (no2 y) = [] ∧ srcs (no1 y) = [] ∧ crs y.op = false) : hA l = (fun _ => 0) ∧ hD l = (fun _ => 0) ∧ cAt l = (fun _ => 0) := by
  refine ⟨?_, ?_, ?_⟩
  · funext i
    unfold hA
    cases q : l[i]? with
    | none => rfl
    | some y =>
      have hy := h y (List.mem_of_getElem? q)
      show dA (rAt l i) y = 0
      unfold dA
      rw [hy.1, ofS_nil]
      split <;> rfl
  · funext i
    unfold hD
    cases q : l[i]? with
    | none => rfl
    | some y =>
      have hy := h y (List.mem_of_getElem? q)
      show dD (rAt l i) y = 0
      unfold dD
      rw [hy.2.1, ofS_nil]
      split <;> rfl
  · funext i
    induction i with
    | zero => rfl
    | succ i ih =>
      unfold cAt
      cases q : l[i]? with
      | none => exact ih
      | some y =>
        have hy := h y (List.mem_of_getElem? q)
        simp only
        rw [ih, hy.2.2]
        simp
section
variable {R : Nat → List Rt} (hR : ∀ h, ∀ r ∈ R h, pln r)
include hR
theorem has_no (h n : Nat) (a b : Int) : hasW n (fA R h) a b = false ∧ hasW n (fD R h) a b = false ∧ hasW n (fC R h) a b = false := by
  obtain ⟨h1, h2, h3⟩ := h_zero (l := insR R h) (fun y hy => by
    unfold insR at hy
    obtain ⟨r, hr, rfl⟩ := List.mem_map.1 hy
    exact (hR h r hr).src)
  unfold fA fD fC
  rw [h1, h2, h3, aW_zero]
  unfold hasW
  simp
theorem rulE_ls {x y : Ev} (hx : pln x.r) (hy : pln y.r) (M : List Ev) {k : Nat} (hk : k < 13) : rulE R (fA R) (fD R) (fC R) k x y M = (decide (k = 0) && r1 x y) := by
  have sx := hx.op.1
  have sy := hy.op.1
  have hg : ∀ m : Ev, hgs R (fA R) x m = false ∧ hgs R (fD R) x m = false ∧ hgs R (fC R) x m = false := fun m => has_no hR _ _ _ _
  obtain ⟨kx, ix, ax, ex, _⟩ := hx
  obtain ⟨ky, iy, ay, ey, _⟩ := hy
  have tx : ∀ k, x.r.tg k = -1 := by rw [ex]; exact fun _ => rfl
  have ty : ∀ k, y.r.tg k = -1 := by rw [ey]; exact fun _ => rfl
  rcases lt13 hk with rfl | rfl | rfl | rfl | rfl | rfl | rfl | rfl | rfl | rfl | rfl | rfl | rfl
  · rfl
  · show r2 x y M = false
    unfold r2
    have : (List.range (szO x.r.ins.op)).any (byt x y M) = false := by
      rw [List.any_eq_false]
      intro k _
      unfold byt
      rw [tx, ty]
      simp
    rw [this, Bool.and_false]
  · show r3 x y = false
    unfold r3
    rcases sx with sx | sx <;> rw [sx] <;> rfl
  · show r4 R x y = false
    unfold r4
    rw [List.any_eq_false]
    intro f hf
    have hp := hR x.hart f (List.mem_of_mem_take (List.mem_of_mem_drop hf))
    unfold fnc
    rcases hp.op.1 with s | s <;> rw [s] <;> simp
  · show x.r.ins.aq = false
    rw [ex]; rfl
  · show y.r.ins.rl = false
    rw [ey]; rfl
  · show (strE x && strE y) = false
    unfold strE
    rw [ex]; rfl
  · show r8 x y = false
    unfold r8
    rcases sy with sy | sy <;> rw [sy] <;> rfl
  · exact (hg y).1
  · exact (hg y).2.1
  · show (y.st && hgs R (fC R) x y) = false
    rw [(hg y).2.2, Bool.and_false]
  · show r12 R (fA R) (fD R) x y M = false
    unfold r12
    rw [List.any_eq_false]
    intro m _
    rw [(hg m).1, (hg m).2.1]
    simp
  · show r13 R (fA R) x y = false
    unfold r13
    have : (List.range' (x.at' + 1) (y.at' - (x.at' + 1))).any (fun k => hasW (R x.hart).length (fA R x.hart) x.at' k) = false := by
      rw [List.any_eq_false]
      intro k _
      rw [(has_no hR _ _ _ _).1]
      simp
    rw [this, Bool.and_false]
theorem evs_pln : ∀ e ∈ evs R, pln e.r := fun e he => by
  obtain ⟨_, h2, _⟩ := evs_mem he
  exact hR _ _ (List.mem_of_getElem? h2)
theorem anyR_ls {a b : Nat} (ha : a < (evs R).length) (hb : b < (evs R).length) : anyR R (fA R) (fD R) (fC R) (evs R) 13 a b = r1 (evs R)[a] (evs R)[b] := by
  have hx := evs_pln hR _ (List.getElem_mem ha)
  have hy := evs_pln hR _ (List.getElem_mem hb)
  have e : ∀ k, k < 13 → rul R (fA R) (fD R) (fC R) (evs R) k a b = (decide (k = 0) && r1 (evs R)[a] (evs R)[b]) := by
    intro k hk
    unfold rul
    rw [List.getElem?_eq_getElem ha, List.getElem?_eq_getElem hb]
    exact rulE_ls hR hx hy _ hk
  unfold anyR
  rw [Bool.eq_iff_iff, List.any_eq_true]
  constructor
  · rintro ⟨k, hk, h⟩
    rw [e k (List.mem_range.1 hk), Bool.and_eq_true] at h
    exact h.2
  · intro h
    exact ⟨0, List.mem_range.2 (by omega), by rw [e 0 (by omega), h]; rfl⟩
end
/-! ### bytes that two have -/
def bth (x y : Ev) (k : Nat) : Bool := decide (adE y.r ≤ adE x.r + k) && decide (adE x.r + k < adE y.r + (szO y.r.ins.op : Nat))
theorem bth_ov {x y : Ev} (h : ovE x y = true) : (List.range (szO x.r.ins.op)).any (bth x y) = true := by
  unfold ovE ovl isR at h
  simp only [Bool.and_eq_true, decide_eq_true_eq] at h
  obtain ⟨⟨⟨h1, h2⟩, h3⟩, h4⟩ := h
  rw [List.any_eq_true]
  by_cases c : adE y.r ≤ adE x.r
  · refine ⟨0, List.mem_range.2 (by omega), ?_⟩
    unfold bth
    simp only [Bool.and_eq_true, decide_eq_true_eq]
    omega
  · refine ⟨(adE y.r - adE x.r).toNat, List.mem_range.2 (by omega), ?_⟩
    unfold bth
    simp only [Bool.and_eq_true, decide_eq_true_eq]
    omega
theorem ov_same {x y : Ev} (hx : pln x.r) (hy : pln y.r) (h : adE x.r = adE y.r) : ovE x y = true := by
  have a1 := hx.ad
  have a2 := hx.op.2
  have a3 := hy.op.2
  have a4 := szO_le x.r.ins.op
  have a5 := szO_le y.r.ins.op
  unfold ovE ovl isR
  simp only [Bool.and_eq_true, decide_eq_true_eq]
  omega
theorem sto5 {op : Int} (h : srtO op = 5) : sto op = true := by unfold sto; rw [h]; rfl
end Go.Proofs.YtccdkkgimaajbaaDoor
