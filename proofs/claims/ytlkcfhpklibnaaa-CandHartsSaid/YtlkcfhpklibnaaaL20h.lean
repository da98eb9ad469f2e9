/- Whether a candidate is well formed, or why not, doesn't hang on which hart is which: the law CandHarts returns true whatever it is handed. No condition. -/
import Derived.Test.YtlkcfhpklibnaaaK20p
import Derived.Test.YtlkcfhpklibnaaaRows
set_option linter.unusedSimpArgs false
set_option linter.unusedVariables false
set_option maxRecDepth 20000
namespace Go.Proofs.Ytlkcfhpklibnaaa
open Go Go.Vm

def sw (i k h : Nat) : Nat := if h = k then i else if h = i then k else h
theorem sw_lt {i k h : Nat} (hi : i < 3) (hk : k < 3) (hh : h < 3) : sw i k h < 3 := by unfold sw; split <;> (try split) <;> omega
theorem sw_perm (R : Nat → List Rt) {i k : Nat} (hi : i < 3) (hk : k < 3) : (allR fun h => R (sw i k h)).Perm (allR R) ∧ prB (fun h => R (sw i k h)) = prB R := by
  have p01 : (R 1 ++ (R 0 ++ R 2)).Perm (R 0 ++ (R 1 ++ R 2)) := List.perm_append_comm_assoc _ _ _
  have p12 : (R 0 ++ (R 2 ++ R 1)).Perm (R 0 ++ (R 1 ++ R 2)) := List.Perm.append_left _ List.perm_append_comm
  have p02 : (R 2 ++ (R 1 ++ R 0)).Perm (R 0 ++ (R 1 ++ R 2)) := by
    have h1 : (R 2 ++ (R 1 ++ R 0)).Perm ((R 1 ++ R 0) ++ R 2) := List.perm_append_comm
    rw [List.append_assoc] at h1
    exact h1.trans p01
  have b01 : (prR (R 1) || (prR (R 0) || prR (R 2))) = (prR (R 0) || (prR (R 1) || prR (R 2))) := by cases prR (R 0) <;> cases prR (R 1) <;> rfl
  have b12 : (prR (R 0) || (prR (R 2) || prR (R 1))) = (prR (R 0) || (prR (R 1) || prR (R 2))) := by cases prR (R 1) <;> cases prR (R 2) <;> rfl
  have b02 : (prR (R 2) || (prR (R 1) || prR (R 0))) = (prR (R 0) || (prR (R 1) || prR (R 2))) := by cases prR (R 0) <;> cases prR (R 1) <;> cases prR (R 2) <;> rfl
  rcases lt3 hi with rfl | rfl | rfl <;> rcases lt3 hk with rfl | rfl | rfl
  · exact ⟨.refl _, rfl⟩
  · exact ⟨p01, b01⟩
  · exact ⟨p02, b02⟩
  · exact ⟨p01, b01⟩
  · exact ⟨.refl _, rfl⟩
  · exact ⟨p12, b12⟩
  · exact ⟨p02, b02⟩
  · exact ⟨p12, b12⟩
  · exact ⟨.refl _, rfl⟩
theorem Cn.lk {v x0 : V} {lv : Nat → V} {x4 : V} {R : Nat → List Rt} {img : List Nat} {cv : List V} {co : List (List Int)} (c : Cn v x0 lv x4 R img cv co) (h : (∀ h, h < 3 → (R h).length ≤ 60) ∧ img.length ≤ 200 ∧ cv.length ≤ 300 ∧ ∀ l ∈ co, l.length ≤ 100) :
    Lk x0 lv x4 (ils (evR (evs R))) R img cv co := by
  obtain ⟨h1, h2, h3, h4⟩ := h
  refine ⟨c.im, ⟨c.ib.1, by omega⟩, fun h hh => ⟨(c.li h hh).1, (c.li h hh).2.1, ?_⟩, c.co4, c.cs, by omega, fun l hl => ?_, .ils _⟩
  · have := h1 h hh; omega
  · have := h4 l hl; omega
set_option maxHeartbeats 2000000 in
theorem CandHarts_true {v x0 : V} {lv : Nat → V} {x4 : V} {R : Nat → List Rt} {img : List Nat} {cv : List V} {co : List (List Int)} (c : Cn v x0 lv x4 R img cv co) (a b : Nat) (ha : a < 256) (hb : b < 256) :
    evI pg .val n_undertowlaw20_CandHarts [v, .int .u8 (a : Int), .int .u8 (b : Int)] [] = some (.bool true, []) := by
  obtain ⟨g, hg, hg2⟩ := Great_ok c
  have i0 := c.im.is
  have i4 := c.co4.is
  have j0 := (c.li 0 (by omega)).1.is
  have j1 := (c.li 1 (by omega)).1.is
  have j2 := (c.li 2 (by omega)).1.is
  rw [c.eq] at hg ⊢
  have na : (a : Int).tmod 3 = ((a % 3 : Nat) : Int) := by
    rw [Int.tmod_eq_emod_of_nonneg (by omega)]
    omega
  have nb : (b : Int).tmod 3 = ((b % 3 : Nat) : Int) := by
    rw [Int.tmod_eq_emod_of_nonneg (by omega)]
    omega
  have w0 : IntKind.i64.wrap 0 = 0 := rfl
  have w1 : IntKind.i64.wrap 1 = 1 := rfl
  have w2 : IntKind.i64.wrap 2 = 2 := rfl
  have hi : a % 3 < 3 := Nat.mod_lt _ (by omega)
  have hk : b % 3 < 3 := Nat.mod_lt _ (by omega)
  generalize a % 3 = i at *
  generalize b % 3 = k at *
  cases g with
  | true =>
    rw [s_fn fn_undertowlaw20_CandHarts]
    simp [ir_undertowlaw20_CandHarts, go_sem, alive20, hg, i0, i4, j0, j1, j2, V.cells, V.exp]
  | false =>
    have hb2 := hg2 rfl
    have lk := c.lk hb2
    have hc : Cd lv R := ⟨fun h hh => ⟨(lk.li h hh).1, (lk.li h hh).2.2, (lk.li h hh).2.1.ok⟩⟩
    have hC := Check_ok lk
    have hE := Events_ok hc i0 i4
    have hui := (Sl.ils (evR (evs R))).is
    have hur : (rows (ils (evR (evs R)))).length = (evs R).length := by rw [(Sl.ils (evR (evs R))).rows, evR_len]
    obtain ⟨hp, hpr⟩ := sw_perm R hi hk
    obtain ⟨hch, hel⟩ := chk_perm hp hpr img cv.length co
    have lk' : Lk x0 (fun h => lv (sw i k h)) x4 (ils (evR (evs fun h => R (sw i k h)))) (fun h => R (sw i k h)) img cv co :=
      ⟨lk.im, lk.ib, fun h hh => lk.li _ (sw_lt hi hk hh), lk.co4, lk.cs, lk.cl, lk.ol, .ils _⟩
    have hc' : Cd (fun h => lv (sw i k h)) (fun h => R (sw i k h)) := ⟨fun h hh => ⟨(lk'.li h hh).1, (lk'.li h hh).2.2, (lk'.li h hh).2.1.ok⟩⟩
    have hC' := Check_ok lk'
    have hE' := Events_ok hc' i0 i4
    have hui' := (Sl.ils (evR (evs fun h => R (sw i k h)))).is
    have hur' : (rows (ils (evR (evs fun h => R (sw i k h))))).length = (evs R).length := by rw [(Sl.ils (evR (evs fun h => R (sw i k h)))).rows, evR_len, hel]
    rw [hch] at hC'
    generalize ils (evR (evs R)) = u at *
    generalize ils (evR (evs fun h => R (sw i k h))) = u' at *
    generalize chk R img cv.length co = ch at *
    generalize (evs R).length = N at *
    clear hc hc' lk lk' hp hpr hch hel hb2 hg2
    rcases lt3 hi with rfl | rfl | rfl <;> rcases lt3 hk with rfl | rfl | rfl
    · have hC2 : evI pg .val n_cand_Check [.agg [x0, lv 0, lv 1, lv 2, x4]] [] = some (.int .i64 (ch : Nat), []) := hC'
      have hE2 : evI pg .val n_cand_Events [.agg [x0, lv 0, lv 1, lv 2, x4]] [] = some (u', []) := hE'
      clear hC' hE'
      rw [s_fn fn_undertowlaw20_CandHarts]
      simp [ir_undertowlaw20_CandHarts, go_sem, alive20, hg, na, nb, w0, w1, w2, i0, i4, j0, j1, j2, hC, hE, hC2, hE2, hui, hur, hui', hur', evStore, splice, loadAt]
    · have hC2 : evI pg .val n_cand_Check [.agg [x0, lv 1, lv 0, lv 2, x4]] [] = some (.int .i64 (ch : Nat), []) := hC'
      have hE2 : evI pg .val n_cand_Events [.agg [x0, lv 1, lv 0, lv 2, x4]] [] = some (u', []) := hE'
      clear hC' hE'
      rw [s_fn fn_undertowlaw20_CandHarts]
      simp [ir_undertowlaw20_CandHarts, go_sem, alive20, hg, na, nb, w0, w1, w2, i0, i4, j0, j1, j2, hC, hE, hC2, hE2, hui, hur, hui', hur', evStore, splice, loadAt]
    · have hC2 : evI pg .val n_cand_Check [.agg [x0, lv 2, lv 1, lv 0, x4]] [] = some (.int .i64 (ch : Nat), []) := hC'
      have hE2 : evI pg .val n_cand_Events [.agg [x0, lv 2, lv 1, lv 0, x4]] [] = some (u', []) := hE'
      clear hC' hE'
      rw [s_fn fn_undertowlaw20_CandHarts]
      simp [ir_undertowlaw20_CandHarts, go_sem, alive20, hg, na, nb, w0, w1, w2, i0, i4, j0, j1, j2, hC, hE, hC2, hE2, hui, hur, hui', hur', evStore, splice, loadAt]
    · have hC2 : evI pg .val n_cand_Check [.agg [x0, lv 1, lv 0, lv 2, x4]] [] = some (.int .i64 (ch : Nat), []) := hC'
      have hE2 : evI pg .val n_cand_Events [.agg [x0, lv 1, lv 0, lv 2, x4]] [] = some (u', []) := hE'
      clear hC' hE'
      rw [s_fn fn_undertowlaw20_CandHarts]
      simp [ir_undertowlaw20_CandHarts, go_sem, alive20, hg, na, nb, w0, w1, w2, i0, i4, j0, j1, j2, hC, hE, hC2, hE2, hui, hur, hui', hur', evStore, splice, loadAt]
    · have hC2 : evI pg .val n_cand_Check [.agg [x0, lv 0, lv 1, lv 2, x4]] [] = some (.int .i64 (ch : Nat), []) := hC'
      have hE2 : evI pg .val n_cand_Events [.agg [x0, lv 0, lv 1, lv 2, x4]] [] = some (u', []) := hE'
      clear hC' hE'
      rw [s_fn fn_undertowlaw20_CandHarts]
      simp [ir_undertowlaw20_CandHarts, go_sem, alive20, hg, na, nb, w0, w1, w2, i0, i4, j0, j1, j2, hC, hE, hC2, hE2, hui, hur, hui', hur', evStore, splice, loadAt]
    · have hC2 : evI pg .val n_cand_Check [.agg [x0, lv 0, lv 2, lv 1, x4]] [] = some (.int .i64 (ch : Nat), []) := hC'
      have hE2 : evI pg .val n_cand_Events [.agg [x0, lv 0, lv 2, lv 1, x4]] [] = some (u', []) := hE'
      clear hC' hE'
      rw [s_fn fn_undertowlaw20_CandHarts]
      simp [ir_undertowlaw20_CandHarts, go_sem, alive20, hg, na, nb, w0, w1, w2, i0, i4, j0, j1, j2, hC, hE, hC2, hE2, hui, hur, hui', hur', evStore, splice, loadAt]
    · have hC2 : evI pg .val n_cand_Check [.agg [x0, lv 2, lv 1, lv 0, x4]] [] = some (.int .i64 (ch : Nat), []) := hC'
      have hE2 : evI pg .val n_cand_Events [.agg [x0, lv 2, lv 1, lv 0, x4]] [] = some (u', []) := hE'
      clear hC' hE'
      rw [s_fn fn_undertowlaw20_CandHarts]
      simp [ir_undertowlaw20_CandHarts, go_sem, alive20, hg, na, nb, w0, w1, w2, i0, i4, j0, j1, j2, hC, hE, hC2, hE2, hui, hur, hui', hur', evStore, splice, loadAt]
    · have hC2 : evI pg .val n_cand_Check [.agg [x0, lv 0, lv 2, lv 1, x4]] [] = some (.int .i64 (ch : Nat), []) := hC'
      have hE2 : evI pg .val n_cand_Events [.agg [x0, lv 0, lv 2, lv 1, x4]] [] = some (u', []) := hE'
      clear hC' hE'
      rw [s_fn fn_undertowlaw20_CandHarts]
      simp [ir_undertowlaw20_CandHarts, go_sem, alive20, hg, na, nb, w0, w1, w2, i0, i4, j0, j1, j2, hC, hE, hC2, hE2, hui, hur, hui', hur', evStore, splice, loadAt]
    · have hC2 : evI pg .val n_cand_Check [.agg [x0, lv 0, lv 1, lv 2, x4]] [] = some (.int .i64 (ch : Nat), []) := hC'
      have hE2 : evI pg .val n_cand_Events [.agg [x0, lv 0, lv 1, lv 2, x4]] [] = some (u', []) := hE'
      clear hC' hE'
      rw [s_fn fn_undertowlaw20_CandHarts]
      simp [ir_undertowlaw20_CandHarts, go_sem, alive20, hg, na, nb, w0, w1, w2, i0, i4, j0, j1, j2, hC, hE, hC2, hE2, hui, hur, hui', hur', evStore, splice, loadAt]
theorem law_harts : ∀ vs, PArgs Try.prog 8 Try.f6.params.toList vs → ∃ k, evF pg k .val 6 vs [] = some (.bool true, []) := by
  intro vs h
  obtain ⟨v1, _, rfl, h1, v2, _, rfl, h2, v3, _, rfl, h3, rfl⟩ := h
  obtain ⟨x0, lv, x4, R, img, cv, co, c⟩ := arg_cd h1
  obtain ⟨q2, rfl, k2⟩ := arg_u8 Try.underlying5 h2
  obtain ⟨q3, rfl, k3⟩ := arg_u8 Try.underlying5 h3
  exact (evI_iff (hx _ _ _)).1 (CandHarts_true c q2 q3 k2 k3)
end Go.Proofs.Ytlkcfhpklibnaaa
