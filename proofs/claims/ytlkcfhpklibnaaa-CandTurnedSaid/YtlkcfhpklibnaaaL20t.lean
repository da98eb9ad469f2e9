/- Turning one number, one tag to a number that is no write's, or a bit of what was read, alone, leaves no candidate: the law CandTurned returns true whatever it is handed. No condition. -/
import Derived.Test.YtlkcfhpklibnaaaK20u
import Derived.Test.YtlkcfhpklibnaaaRows
set_option linter.unusedSimpArgs false
set_option linter.unusedVariables false
set_option maxRecDepth 20000
namespace Go.Proofs.Ytlkcfhpklibnaaa
open Go Go.Vm

set_option maxHeartbeats 8000000 in
theorem CandTurned_true {v x0 : V} {lv : Nat → V} {x4 : V} {R : Nat → List Rt} {img : List Nat} {cv : List V} {co : List (List Int)} (c : Cn v x0 lv x4 R img cv co) (a k : Nat) (x : Int) (ha : a < 256) (hk : k < 256) (hx : -9223372036854775808 ≤ x ∧ x ≤ 9223372036854775807) :
    evI pg .val n_undertowlaw20_CandTurned [v, .int .u8 (a : Int), .int .u8 (k : Int), .int .i64 x] [] = some (.bool true, []) := by
  obtain ⟨g, hg, hg2⟩ := Great_ok c
  have i0 := c.im.is
  have i4 := c.co4.is
  have j0 := (c.li 0 (by omega)).1.is
  have j1 := (c.li 1 (by omega)).1.is
  have j2 := (c.li 2 (by omega)).1.is
  rw [c.eq] at hg ⊢
  cases g with
  | true =>
    rw [s_fn fn_undertowlaw20_CandTurned]
    simp [ir_undertowlaw20_CandTurned, go_sem, alive20, hg, i0, i4, j0, j1, j2]
  | false =>
    have hb2 := hg2 rfl
    have lk := c.lk hb2
    have hc : Cd lv R := ⟨fun h hh => ⟨(lk.li h hh).1, (lk.li h hh).2.2, (lk.li h hh).2.1.ok⟩⟩
    have hC := Check_ok lk
    have hE := Events_ok hc i0 i4
    have hsu := Sl.ils (evR (evs R))
    have hui := hsu.is
    have hur : (rows (ils (evR (evs R)))).length = (evs R).length := by rw [hsu.rows, evR_len]
    by_cases hch : chk R img cv.length co = 0
    · rw [hch, Int.natCast_zero] at hC
      have hEl : (evs R).length ≤ 180 := by
        have := evs_len R
        have h0 := hb2.1 0 (by omega)
        have h1 := hb2.1 1 (by omega)
        have h2 := hb2.1 2 (by omega)
        omega
      by_cases hN : (evs R).length = 0
      · rw [hN] at hur
        generalize ils (evR (evs R)) = u at *
        rw [s_fn fn_undertowlaw20_CandTurned]
        simp [ir_undertowlaw20_CandTurned, go_sem, alive20, hg, i0, i4, j0, j1, j2, hC, hE, hui, hur]
      · have hN' : ¬ ((evs R).length : Int) = 0 := by omega
        have hne : ¬ evs R = [] := fun q => hN (by rw [q]; rfl)
        have haN : a % (evs R).length < (evs R).length := Nat.mod_lt _ (by omega)
        obtain ⟨e, he⟩ : ∃ e, e = (evs R)[a % (evs R).length] := ⟨_, rfl⟩
        have hem : e ∈ evs R := by rw [he]; exact List.getElem_mem _
        obtain ⟨hh3, hget, hisE⟩ := evs_mem hem
        have hbe : Bd e.r := evs_bd (R := R) (fun h hh => (lk.li h hh).2.1) e hem
        have e1 := fun m => hsu.ia (sz := 33) m .i64 (i := a % (evs R).length) (by rw [evR_len]; exact haN) (evR_sz _ _ (List.getElem_mem _))
        simp only [evR_el, ← he] at e1
        have t1 : ((a : Int)).tmod ((evs R).length : Int) = ((a % (evs R).length : Nat) : Int) := by rw [Int.tmod_eq_emod_of_nonneg (by omega)]; rfl
        have w1 : IntKind.i64.wrap (a : Int) = (a : Int) := wrap_i64 (by omega) (by omega)
        have w2 : IntKind.i64.wrap ((a % (evs R).length : Nat) : Int) = ((a % (evs R).length : Nat) : Int) := wrap_i64 (by omega) (by omega)
        have w3 : IntKind.i64.wrap (k : Int) = (k : Int) := wrap_i64 (by omega) (by omega)
        have hz : szO e.r.ins.op ≠ 0 := by
          unfold isE at hisE
          rw [memO_sz] at hisE
          simp only [Bool.and_eq_true, decide_eq_true_eq] at hisE
          omega
        have h8 := szO_le e.r.ins.op
        have hz' : ¬ ((szO e.r.ins.op : Nat) : Int) = 0 := by omega
        have t2 : ((k : Int)).tmod ((szO e.r.ins.op : Nat) : Int) = ((k % szO e.r.ins.op : Nat) : Int) := by rw [Int.tmod_eq_emod_of_nonneg (by omega)]; rfl
        have hks : k % szO e.r.ins.op < szO e.r.ins.op := Nat.mod_lt _ (by omega)
        have w4 : IntKind.i64.wrap ((k % szO e.r.ins.op : Nat) : Int) = ((k % szO e.r.ins.op : Nat) : Int) := wrap_i64 (by omega) (by omega)
        obtain ⟨kk, hkk⟩ : ∃ kk, kk = k % szO e.r.ins.op := ⟨_, rfl⟩
        rw [← hkk] at t2 hks w4
        have hk8 : kk < 8 := by omega
        have hk8' : (kk : Int) < 8 := by omega
        have hk7 : kk ≤ 7 := by omega
        have w5 : IntKind.i64.wrap (8 * (kk : Int)) = ((8 * kk : Nat) : Int) := by rw [wrap_i64 (by omega) (by omega)]; rfl
        have w6 : IntKind.u64.wrap ((8 * kk : Nat) : Int) = ((8 * kk : Nat) : Int) := wrap_u64' (by omega)
        have w7 : ¬ ((8 * kk : Nat) : Int) < 0 := by omega
        have w8 : Nat.min (8 * kk) 64 = 8 * kk := Nat.min_eq_left (by omega)
        have w8' : min (8 * kk) 64 = 8 * kk := Nat.min_eq_left (by omega)
        have w9 : IntKind.u64.wrap ((2 : Int) ^ (8 * kk)) = ((2 ^ (8 * kk) : Nat) : Int) := by
          have : ((2 : Int) ^ (8 * kk)) = ((2 ^ (8 * kk) : Nat) : Int) := by simp
          rw [this]
          exact wrap_u64' (by
            have := Nat.pow_lt_pow_right (a := 2) (by omega) (show 8 * kk < 64 by omega)
            omega)
        have w10 : IntKind.u64.bits = 64 := rfl
        obtain ⟨rn, hrn⟩ : ∃ rn : Nat, e.r.rdd = (rn : Int) := ⟨e.r.rdd.toNat, (Int.toNat_of_nonneg hbe.rd.1).symm⟩
        have hrl : rn < 18446744073709551616 := by have := hbe.rd.2; omega
        obtain ⟨y, hy, hy2⟩ := xor_bit rn kk hk8 hrl
        have hyl : y < 18446744073709551616 := by
          have h1 : 0 ≤ IntKind.u64.wrap (((BitVec.ofInt IntKind.u64.bits (rn : Int) ^^^ BitVec.ofInt IntKind.u64.bits ((2 ^ (8 * kk) : Nat) : Int)).toNat : Nat) : Int) := by
            unfold xorI at hy
            rw [hy]; omega
          have hlt := (BitVec.ofInt IntKind.u64.bits (rn : Int) ^^^ BitVec.ofInt IntKind.u64.bits ((2 ^ (8 * kk) : Nat) : Int)).isLt
          unfold xorI at hy
          rw [wrap_u64' (by exact hlt)] at hy
          have : (BitVec.ofInt IntKind.u64.bits (rn : Int) ^^^ BitVec.ofInt IntKind.u64.bits ((2 ^ (8 * kk) : Nat) : Int)).toNat = y := by omega
          rw [← this]
          exact hlt
        -- the three that are turned
        have b1 : Bd (rRd e.r (y : Int)) := ⟨hbe.op, hbe.ad, ⟨by show (0 : Int) ≤ (y : Int); omega, by show (y : Int) < 18446744073709551616; omega⟩, hbe.wr, hbe.id, hbe.pa, hbe.tg⟩
        have b2 : Bd (rTg e.r kk x) := ⟨hbe.op, hbe.ad, hbe.rd, hbe.wr, hbe.id, hbe.pa, fun j => by
          show -9223372036854775808 ≤ (if j = kk then x else e.r.tg j) ∧ (if j = kk then x else e.r.tg j) ≤ 9223372036854775807
          split
          · exact hx
          · exact hbe.tg j⟩
        have b3 : Bd (rId e.r) := ⟨hbe.op, hbe.ad, hbe.rd, hbe.wr, ⟨by show -9223372036854775808 ≤ (-1 : Int); omega, by show (-1 : Int) ≤ 9223372036854775807; omega⟩, hbe.pa, hbe.tg⟩
        have hC1 := Check_ok (lk_put lk (i := e.at') hh3 _ b1)
        have hC2 := Check_ok (lk_put lk (i := e.at') hh3 _ b2)
        have hC3 := Check_ok (lk_put lk (i := e.at') hh3 _ b3)
        have d3 := chk_id hh3 hget hch (rId e.r) rfl
        rw [d3] at hC3
        have d1 : lod e.r.ins.op = true → chk (putR R e.hart e.at' (rRd e.r (y : Int))) img cv.length co = 6 := fun hl => chk_bit hh3 hget hch hisE hl kk hks (y : Int) (by rw [hrn, Int.toNat_natCast, Int.toNat_natCast]; exact hy2) _ rfl
        have hnd := ((idsB_iff R).1 (chk_zero hch).2.2.1).2
        have d2 : lod e.r.ins.op = true → x ≠ -1 → (∀ j, fid (evs R) x = some j → ∀ q, (evs R)[j]? = some q → sto q.r.ins.op = false) → chk (putR R e.hart e.at' (rTg e.r kk x)) img cv.length co = 5 := fun hl hx1 hst => chk_tag hh3 hget hch hisE hl kk hks x hx1 (no_store hnd hst) _ rfl
        have hF := Find_ok hsu (by omega) x
        -- cells and rows
        have hil : e.at' < (R e.hart).length := (List.getElem?_eq_some_iff.1 hget).1
        have hih : (e.at' : Int) < ((R e.hart).length : Int) := by omega
        have hsl := (lk.li _ hh3).1
        have eR := fun m => hsl.ia (sz := 27) m .i64 (i := e.at') (by rw [rwR_len]; exact hil) (rwR_sz _ _ (List.getElem_mem _))
        simp only [rwR_el] at eR
        have hge : (R e.hart)[e.at'] = e.r := get_all hget hil
        simp only [hge] at eR
        have hsf := hsl.fpR
        have happ := app_copy hsl (by omega) (by have := hb2.1 _ hh3; omega)
        have g0 := rwR_get hget
        have g0' := get_all g0
        have l0 := rwR_len (R e.hart)
        have gq : ∀ r', ((R e.hart).set e.at' r')[e.at']? = some r' := fun r' => by simp [hil]
        have lq : ∀ r', (rwR ((R e.hart).set e.at' r')).length = (R e.hart).length := fun r' => by rw [rwR_len, List.length_set]
        have sq : ∀ r', (rwR (R e.hart)).set e.at' (rC r') = rwR ((R e.hart).set e.at' r') := fun r' => rwR_set _ _ _
        have bq : ∀ r', (rwR ((R e.hart).set e.at' r')).set e.at' (rC e.r) = rwR (R e.hart) := fun r' => by
          rw [rwR_set, List.set_set]
          congr 1
          rw [← hge, List.set_getElem_self]
        have tq : ∀ r', (rwR ((R e.hart).set e.at' r')).take (R e.hart).length = rwR ((R e.hart).set e.at' r') := fun r' => List.take_of_length_le (by rw [lq]; exact Nat.le_refl _)
        have iq : ∀ r' m t, omap2 (toImm m t 6) (rwR ((R e.hart).set e.at' r')) = some (rwR ((R e.hart).set e.at' r')) := fun r' m t => rwR_imm7 _ m t 5
        have p1 := rwR_get (gq (rRd e.r (y : Int)))
        have p1' := get_all p1
        have p2 := rwR_get (gq (rTg e.r kk x))
        have p2' := get_all p2
        have q1 := lq (rRd e.r (y : Int))
        have q2 := lq (rTg e.r kk x)
        have q3 := lq (rId e.r)
        have s1 := sq (rRd e.r (y : Int))
        have s2 := sq (rTg e.r kk x)
        have s3 := sq (rId e.r)
        have z1 := bq (rRd e.r (y : Int))
        have z2 := bq (rTg e.r kk x)
        have y1 := tq (rRd e.r (y : Int))
        have y2 := tq (rTg e.r kk x)
        have y3 := tq (rId e.r)
        have m1 := iq (rRd e.r (y : Int))
        have m2 := iq (rTg e.r kk x)
        have m3 := iq (rId e.r)
        have c1 := rC_rd e.r (y : Int)
        have c2 := rC_tg e.r hk8 x
        have c3 := rC_idm e.r
        have hfl := eq_true (evC_flat e)
        have hrf := eq_true (rC_all e.r (fun v => v.flat = true) (fun _ _ => rfl) (fun _ => rfl) (fun _ => rfl))
        have l27 : (rC e.r).length = 27 := rfl
        have l27a : (rC (rRd e.r (y : Int))).length = 27 := rfl
        have l27b : (rC (rTg e.r kk x)).length = 27 := rfl
        have d27a : (rC (rRd e.r (y : Int))).drop 27 = [] := rfl
        have d27b : (rC (rTg e.r kk x)).drop 27 = [] := rfl
        have t27 := rC_t27 e.r
        have d27 := rC_d27 e.r
        have k27 : 18 + kk < 27 := by omega
        have k26 : 18 + kk ≤ 26 := by omega
        have hsuI := fun (j : Nat) (hj : j < (evs R).length) (m : Mem) => hsu.ia (sz := 33) m .i64 (i := j) (by rw [evR_len]; exact hj) (evR_sz _ _ (List.getElem_mem _))
        simp only [evR_el] at hsuI
        clear gq lq sq bq tq iq lk hc b1 b2 b3 d3 hb2 hsl hsu hisE hget hge hnd hN he haN hg2
        generalize chk (putR R e.hart e.at' (rRd e.r (y : Int))) img cv.length co = ch1 at *
        generalize chk (putR R e.hart e.at' (rTg e.r kk x)) img cv.length co = ch2 at *
        generalize rC (rRd e.r (y : Int)) = cc1 at *
        generalize rC (rTg e.r kk x) = cc2 at *
        generalize rC (rId e.r) = cc3 at *
        generalize rwR ((R e.hart).set e.at' (rRd e.r (y : Int))) = L1 at *
        generalize rwR ((R e.hart).set e.at' (rTg e.r kk x)) = L2 at *
        generalize rwR ((R e.hart).set e.at' (rId e.r)) = L3 at *
        generalize rwR (R e.hart) = L0 at *
        generalize (R e.hart).length = Ln at *
        generalize ils (evR (evs R)) = u at *
        have fn0 : fdn none = -1 := rfl
        have fns : ∀ j, fdn (some j) = (j : Int) := fun j => rfl
        rcases lt3 hh3 with h0 | h0 | h0
        · have hA1 : evI pg .val n_cand_Check [.agg [x0, .isl true L1, lv 1, lv 2, x4]] [] = some (.int .i64 (ch1 : Nat), []) := by have q := hC1; rw [h0] at q; exact q
          have hA2 : evI pg .val n_cand_Check [.agg [x0, .isl true L2, lv 1, lv 2, x4]] [] = some (.int .i64 (ch2 : Nat), []) := by have q := hC2; rw [h0] at q; exact q
          have hA3 : evI pg .val n_cand_Check [.agg [x0, .isl true L3, lv 1, lv 2, x4]] [] = some (.int .i64 3, []) := by have q := hC3; rw [h0] at q; exact q
          rw [h0] at happ eR hsf
          clear hC1 hC2 hC3
          rw [s_fn fn_undertowlaw20_CandTurned]
          cases hl : lod e.r.ins.op with
          | false => simp [ir_undertowlaw20_CandTurned, go_sem, alive20, hg, i0, i4, j0, j1, j2, hC, hE, hui, hur, hN', hne, e1, t1, w1, w2, w3, t2, w4, hz, hz', h0, happ, hfl, hsf, g0, g0', l0, hil, hih, hl, s3, c3, q3, y3, m3, hA3, l27, hrf, hF, evStore, splice, loadAt, -Int.natCast_emod, -Int.natCast_mul, -Int.natCast_pow]
          | true =>
            have d1 := d1 hl
            subst d1
            by_cases hx1 : x = -1
            · subst hx1
              simp [ir_undertowlaw20_CandTurned, go_sem, alive20, hg, i0, i4, j0, j1, j2, hC, hE, hui, hur, hN', hne, e1, t1, w1, w2, w3, t2, w4, hz, hz', h0, happ, hfl, hsf, g0, g0', l0, hil, hih, hl, s3, c3, q3, y3, m3, hA3, l27, hrf, hF, evStore, splice, loadAt, w5, w6, w7, w8, w8', w9, w10, hrn, hy, c1, s1, p1, p1', q1, y1, m1, hA1, eR, t27, d27, z1, l27a, d27a, -Int.natCast_emod, -Int.natCast_mul, -Int.natCast_pow]
            · cases hf : fid (evs R) x with
              | none =>
                have d2 := d2 hl hx1 (fun j hj => by rw [hf] at hj; cases hj)
                subst d2
                rw [hf, fn0] at hF
                simp [ir_undertowlaw20_CandTurned, go_sem, alive20, hg, i0, i4, j0, j1, j2, hC, hE, hui, hur, hN', hne, e1, t1, w1, w2, w3, t2, w4, hz, hz', h0, happ, hfl, hsf, g0, g0', l0, hil, hih, hl, s3, c3, q3, y3, m3, hA3, l27, hrf, hF, evStore, splice, loadAt, w5, w6, w7, w8, w8', w9, w10, hrn, hy, c1, s1, p1, p1', q1, y1, m1, hA1, eR, t27, d27, z1, l27a, d27a, hk8, hk8', hk7, k27, k26, c2, s2, p2, p2', q2, y2, m2, hA2, z2, l27b, d27b, hx1, -Int.natCast_emod, -Int.natCast_mul, -Int.natCast_pow]
              | some j =>
                obtain ⟨hj, _⟩ := fid_some hf
                have eJ := hsuI j hj
                have hjn : ¬ (j : Int) < 0 := by omega
                rw [hf, fns] at hF
                cases hs : sto ((evs R)[j]).r.ins.op with
                | true =>
                  clear d2
                  generalize (evs R)[j] = f at *
                  simp [ir_undertowlaw20_CandTurned, go_sem, alive20, hg, i0, i4, j0, j1, j2, hC, hE, hui, hur, hN', hne, e1, t1, w1, w2, w3, t2, w4, hz, hz', h0, happ, hfl, hsf, g0, g0', l0, hil, hih, hl, s3, c3, q3, y3, m3, hA3, l27, hrf, hF, evStore, splice, loadAt, w5, w6, w7, w8, w8', w9, w10, hrn, hy, c1, s1, p1, p1', q1, y1, m1, hA1, eR, t27, d27, z1, l27a, d27a, hx1, eJ, hjn, hs, -Int.natCast_emod, -Int.natCast_mul, -Int.natCast_pow]
                | false =>
                  have d2 := d2 hl hx1 (fun j' hj' q hq => by
                    rw [hf] at hj'
                    cases hj'
                    rw [List.getElem?_eq_getElem hj] at hq
                    cases hq
                    exact hs)
                  subst d2
                  generalize (evs R)[j] = f at *
                  simp [ir_undertowlaw20_CandTurned, go_sem, alive20, hg, i0, i4, j0, j1, j2, hC, hE, hui, hur, hN', hne, e1, t1, w1, w2, w3, t2, w4, hz, hz', h0, happ, hfl, hsf, g0, g0', l0, hil, hih, hl, s3, c3, q3, y3, m3, hA3, l27, hrf, hF, evStore, splice, loadAt, w5, w6, w7, w8, w8', w9, w10, hrn, hy, c1, s1, p1, p1', q1, y1, m1, hA1, eR, t27, d27, z1, l27a, d27a, hk8, hk8', hk7, k27, k26, c2, s2, p2, p2', q2, y2, m2, hA2, z2, l27b, d27b, hx1, eJ, hjn, hs, -Int.natCast_emod, -Int.natCast_mul, -Int.natCast_pow]
        · have hA1 : evI pg .val n_cand_Check [.agg [x0, lv 0, .isl true L1, lv 2, x4]] [] = some (.int .i64 (ch1 : Nat), []) := by have q := hC1; rw [h0] at q; exact q
          have hA2 : evI pg .val n_cand_Check [.agg [x0, lv 0, .isl true L2, lv 2, x4]] [] = some (.int .i64 (ch2 : Nat), []) := by have q := hC2; rw [h0] at q; exact q
          have hA3 : evI pg .val n_cand_Check [.agg [x0, lv 0, .isl true L3, lv 2, x4]] [] = some (.int .i64 3, []) := by have q := hC3; rw [h0] at q; exact q
          rw [h0] at happ eR hsf
          clear hC1 hC2 hC3
          rw [s_fn fn_undertowlaw20_CandTurned]
          cases hl : lod e.r.ins.op with
          | false => simp [ir_undertowlaw20_CandTurned, go_sem, alive20, hg, i0, i4, j0, j1, j2, hC, hE, hui, hur, hN', hne, e1, t1, w1, w2, w3, t2, w4, hz, hz', h0, happ, hfl, hsf, g0, g0', l0, hil, hih, hl, s3, c3, q3, y3, m3, hA3, l27, hrf, hF, evStore, splice, loadAt, -Int.natCast_emod, -Int.natCast_mul, -Int.natCast_pow]
          | true =>
            have d1 := d1 hl
            subst d1
            by_cases hx1 : x = -1
            · subst hx1
              simp [ir_undertowlaw20_CandTurned, go_sem, alive20, hg, i0, i4, j0, j1, j2, hC, hE, hui, hur, hN', hne, e1, t1, w1, w2, w3, t2, w4, hz, hz', h0, happ, hfl, hsf, g0, g0', l0, hil, hih, hl, s3, c3, q3, y3, m3, hA3, l27, hrf, hF, evStore, splice, loadAt, w5, w6, w7, w8, w8', w9, w10, hrn, hy, c1, s1, p1, p1', q1, y1, m1, hA1, eR, t27, d27, z1, l27a, d27a, -Int.natCast_emod, -Int.natCast_mul, -Int.natCast_pow]
            · cases hf : fid (evs R) x with
              | none =>
                have d2 := d2 hl hx1 (fun j hj => by rw [hf] at hj; cases hj)
                subst d2
                rw [hf, fn0] at hF
                simp [ir_undertowlaw20_CandTurned, go_sem, alive20, hg, i0, i4, j0, j1, j2, hC, hE, hui, hur, hN', hne, e1, t1, w1, w2, w3, t2, w4, hz, hz', h0, happ, hfl, hsf, g0, g0', l0, hil, hih, hl, s3, c3, q3, y3, m3, hA3, l27, hrf, hF, evStore, splice, loadAt, w5, w6, w7, w8, w8', w9, w10, hrn, hy, c1, s1, p1, p1', q1, y1, m1, hA1, eR, t27, d27, z1, l27a, d27a, hk8, hk8', hk7, k27, k26, c2, s2, p2, p2', q2, y2, m2, hA2, z2, l27b, d27b, hx1, -Int.natCast_emod, -Int.natCast_mul, -Int.natCast_pow]
              | some j =>
                obtain ⟨hj, _⟩ := fid_some hf
                have eJ := hsuI j hj
                have hjn : ¬ (j : Int) < 0 := by omega
                rw [hf, fns] at hF
                cases hs : sto ((evs R)[j]).r.ins.op with
                | true =>
                  clear d2
                  generalize (evs R)[j] = f at *
                  simp [ir_undertowlaw20_CandTurned, go_sem, alive20, hg, i0, i4, j0, j1, j2, hC, hE, hui, hur, hN', hne, e1, t1, w1, w2, w3, t2, w4, hz, hz', h0, happ, hfl, hsf, g0, g0', l0, hil, hih, hl, s3, c3, q3, y3, m3, hA3, l27, hrf, hF, evStore, splice, loadAt, w5, w6, w7, w8, w8', w9, w10, hrn, hy, c1, s1, p1, p1', q1, y1, m1, hA1, eR, t27, d27, z1, l27a, d27a, hx1, eJ, hjn, hs, -Int.natCast_emod, -Int.natCast_mul, -Int.natCast_pow]
                | false =>
                  have d2 := d2 hl hx1 (fun j' hj' q hq => by
                    rw [hf] at hj'
                    cases hj'
                    rw [List.getElem?_eq_getElem hj] at hq
                    cases hq
                    exact hs)
                  subst d2
                  generalize (evs R)[j] = f at *
                  simp [ir_undertowlaw20_CandTurned, go_sem, alive20, hg, i0, i4, j0, j1, j2, hC, hE, hui, hur, hN', hne, e1, t1, w1, w2, w3, t2, w4, hz, hz', h0, happ, hfl, hsf, g0, g0', l0, hil, hih, hl, s3, c3, q3, y3, m3, hA3, l27, hrf, hF, evStore, splice, loadAt, w5, w6, w7, w8, w8', w9, w10, hrn, hy, c1, s1, p1, p1', q1, y1, m1, hA1, eR, t27, d27, z1, l27a, d27a, hk8, hk8', hk7, k27, k26, c2, s2, p2, p2', q2, y2, m2, hA2, z2, l27b, d27b, hx1, eJ, hjn, hs, -Int.natCast_emod, -Int.natCast_mul, -Int.natCast_pow]
        · have hA1 : evI pg .val n_cand_Check [.agg [x0, lv 0, lv 1, .isl true L1, x4]] [] = some (.int .i64 (ch1 : Nat), []) := by have q := hC1; rw [h0] at q; exact q
          have hA2 : evI pg .val n_cand_Check [.agg [x0, lv 0, lv 1, .isl true L2, x4]] [] = some (.int .i64 (ch2 : Nat), []) := by have q := hC2; rw [h0] at q; exact q
          have hA3 : evI pg .val n_cand_Check [.agg [x0, lv 0, lv 1, .isl true L3, x4]] [] = some (.int .i64 3, []) := by have q := hC3; rw [h0] at q; exact q
          rw [h0] at happ eR hsf
          clear hC1 hC2 hC3
          rw [s_fn fn_undertowlaw20_CandTurned]
          cases hl : lod e.r.ins.op with
          | false => simp [ir_undertowlaw20_CandTurned, go_sem, alive20, hg, i0, i4, j0, j1, j2, hC, hE, hui, hur, hN', hne, e1, t1, w1, w2, w3, t2, w4, hz, hz', h0, happ, hfl, hsf, g0, g0', l0, hil, hih, hl, s3, c3, q3, y3, m3, hA3, l27, hrf, hF, evStore, splice, loadAt, -Int.natCast_emod, -Int.natCast_mul, -Int.natCast_pow]
          | true =>
            have d1 := d1 hl
            subst d1
            by_cases hx1 : x = -1
            · subst hx1
              simp [ir_undertowlaw20_CandTurned, go_sem, alive20, hg, i0, i4, j0, j1, j2, hC, hE, hui, hur, hN', hne, e1, t1, w1, w2, w3, t2, w4, hz, hz', h0, happ, hfl, hsf, g0, g0', l0, hil, hih, hl, s3, c3, q3, y3, m3, hA3, l27, hrf, hF, evStore, splice, loadAt, w5, w6, w7, w8, w8', w9, w10, hrn, hy, c1, s1, p1, p1', q1, y1, m1, hA1, eR, t27, d27, z1, l27a, d27a, -Int.natCast_emod, -Int.natCast_mul, -Int.natCast_pow]
            · cases hf : fid (evs R) x with
              | none =>
                have d2 := d2 hl hx1 (fun j hj => by rw [hf] at hj; cases hj)
                subst d2
                rw [hf, fn0] at hF
                simp [ir_undertowlaw20_CandTurned, go_sem, alive20, hg, i0, i4, j0, j1, j2, hC, hE, hui, hur, hN', hne, e1, t1, w1, w2, w3, t2, w4, hz, hz', h0, happ, hfl, hsf, g0, g0', l0, hil, hih, hl, s3, c3, q3, y3, m3, hA3, l27, hrf, hF, evStore, splice, loadAt, w5, w6, w7, w8, w8', w9, w10, hrn, hy, c1, s1, p1, p1', q1, y1, m1, hA1, eR, t27, d27, z1, l27a, d27a, hk8, hk8', hk7, k27, k26, c2, s2, p2, p2', q2, y2, m2, hA2, z2, l27b, d27b, hx1, -Int.natCast_emod, -Int.natCast_mul, -Int.natCast_pow]
              | some j =>
                obtain ⟨hj, _⟩ := fid_some hf
                have eJ := hsuI j hj
                have hjn : ¬ (j : Int) < 0 := by omega
                rw [hf, fns] at hF
                cases hs : sto ((evs R)[j]).r.ins.op with
                | true =>
                  clear d2
                  generalize (evs R)[j] = f at *
                  simp [ir_undertowlaw20_CandTurned, go_sem, alive20, hg, i0, i4, j0, j1, j2, hC, hE, hui, hur, hN', hne, e1, t1, w1, w2, w3, t2, w4, hz, hz', h0, happ, hfl, hsf, g0, g0', l0, hil, hih, hl, s3, c3, q3, y3, m3, hA3, l27, hrf, hF, evStore, splice, loadAt, w5, w6, w7, w8, w8', w9, w10, hrn, hy, c1, s1, p1, p1', q1, y1, m1, hA1, eR, t27, d27, z1, l27a, d27a, hx1, eJ, hjn, hs, -Int.natCast_emod, -Int.natCast_mul, -Int.natCast_pow]
                | false =>
                  have d2 := d2 hl hx1 (fun j' hj' q hq => by
                    rw [hf] at hj'
                    cases hj'
                    rw [List.getElem?_eq_getElem hj] at hq
                    cases hq
                    exact hs)
                  subst d2
                  generalize (evs R)[j] = f at *
                  simp [ir_undertowlaw20_CandTurned, go_sem, alive20, hg, i0, i4, j0, j1, j2, hC, hE, hui, hur, hN', hne, e1, t1, w1, w2, w3, t2, w4, hz, hz', h0, happ, hfl, hsf, g0, g0', l0, hil, hih, hl, s3, c3, q3, y3, m3, hA3, l27, hrf, hF, evStore, splice, loadAt, w5, w6, w7, w8, w8', w9, w10, hrn, hy, c1, s1, p1, p1', q1, y1, m1, hA1, eR, t27, d27, z1, l27a, d27a, hk8, hk8', hk7, k27, k26, c2, s2, p2, p2', q2, y2, m2, hA2, z2, l27b, d27b, hx1, eJ, hjn, hs, -Int.natCast_emod, -Int.natCast_mul, -Int.natCast_pow]
    · have hch' : ¬ ((chk R img cv.length co : Nat) : Int) = 0 := by omega
      generalize chk R img cv.length co = ch at *
      rw [s_fn fn_undertowlaw20_CandTurned]
      simp [ir_undertowlaw20_CandTurned, go_sem, alive20, hg, i0, i4, j0, j1, j2, hC, hch, hch']
theorem law_turned : ∀ vs, PArgs Try.prog 8 Try.f5.params.toList vs → ∃ k, evF pg k .val 5 vs [] = some (.bool true, []) := by
  intro vs h
  obtain ⟨v1, _, rfl, h1, v2, _, rfl, h2, v3, _, rfl, h3, v4, _, rfl, h4, rfl⟩ := h
  obtain ⟨x0, lv, x4, R, img, cv, co, c⟩ := arg_cd h1
  obtain ⟨q2, rfl, k2⟩ := arg_u8 Try.underlying5 h2
  obtain ⟨q3, rfl, k3⟩ := arg_u8 Try.underlying5 h3
  obtain ⟨q4, rfl, k4⟩ := arg_i64 Try.underlying3 h4
  exact (evI_iff (hx _ _ _)).1 (CandTurned_true c q2 q3 q4 k2 k3 k4)
end Go.Proofs.Ytlkcfhpklibnaaa
