/- Layer 21: a register's roots at a place, the program's (no claim; lemmas). -/
import Derived.Test.YtkdgcgkmgcmaiaaDoorK21i
set_option linter.unusedSimpArgs false
set_option linter.unusedVariables false
namespace Go.Proofs.YtkdgcgkmgcmaiaaDoor
open Go Go.Vm

theorem sl_slc {v : V} {es : List (List V)} (h : Sl v es) {sz : Nat} (lo hi : Option V) {l k : Nat} (hz : sz ≠ 0) (hs : ∀ e ∈ es, e.length = sz) (hb : bnd es.length es.length lo hi = some (l, k)) :
    ∃ u, (∀ m, slcV sz m v lo hi none = some u) ∧ Sl u ((es.take k).drop l) := by
  cases h with
  | isl t => exact ⟨.isl t ((es.take k).drop l), fun m => by simp [slcV, hz, hb, cut_some hs], .isl _ _⟩
  | nils => exact ⟨.nils, fun m => by simp only [slcV, hz, if_false]; rw [show bnd 0 0 lo hi = some (l, k) from hb], by simpa using Sl.nils⟩
  | emp => exact ⟨.emp, fun m => by simp only [slcV, hz, if_false]; rw [show bnd 0 0 lo hi = some (l, k) from hb], by simpa using Sl.emp⟩
theorem rtR_take (l : List In) (k : Nat) : (rtR l).take k = rtR (l.take k) := by simp [rtR, List.map_take]
theorem rtR_all (l : List In) : ∀ e ∈ rtR l, e.length = 27 := by
  intro e he
  obtain ⟨x, _, rfl⟩ := List.mem_map.1 he
  rfl
/-- What stands behind a place turns nothing ahead of it. -/
theorem rAt_take (l : List In) (k : Nat) : ∀ i, i ≤ k → rAt (l.take k) i = rAt l i
  | 0, _ => rfl
  | i + 1, h => by
    have e : (l.take k)[i]? = l[i]? := List.getElem?_take_of_lt (by omega)
    simp only [rAt, e, rAt_take l k i (by omega)]
section
variable {l : List In} {u : V} (hu : Sl u (rtR l)) (hl : l.length ≤ 512) (r : Int)
include hu hl
set_option maxRecDepth 100000 in
theorem Roots_loop (i : Nat) (hi : i ≤ l.length) :
    evCI pg (.loop ir_deps_Rootsl0) ⟨[.undef, .undef, .int .i64 r, .undef, .ptr 0 0 0, .undef, .undef, .undef, u, .int .i64 (l.length : Int), .int .i64 (i : Int), .undef], ⟨[[]], [], [.arr [rc (rAt l i)]]⟩⟩ =
      some (.exit 0, ⟨[.undef, .undef, .int .i64 r, .undef, .ptr 0 0 0, .undef, .undef, .undef, u, .int .i64 (l.length : Int), .int .i64 (l.length : Int), .bool false], ⟨[[]], [], [.arr [rc (rAt l l.length)]]⟩⟩) := by
  obtain ⟨B, hB⟩ : ∃ B, B = C.loop ir_deps_Rootsl0 := ⟨_, rfl⟩
  by_cases h : i < l.length
  · have e1 := fun m => hu.ia (sz := 27) m .i64 (i := i) (by rw [rtR_len]; exact h) (by rw [rtR_el]; rfl)
    simp only [rtR_el] at e1
    have e3 := succ_i64 h (by omega)
    have hbe := behind_ok [.arr [rc (rAt l i)]] 0 (rAt l i) i l[i] rfl (by omega)
    rw [← rAt_succ h] at hbe
    simp only [List.set_cons_zero] at hbe
    have ih := Roots_loop (i + 1) (by omega)
    rw [← ih, ← hB]
    conv => lhs; rw [s_loop_at hB]
    have t27 := rtV_take l[i]
    have tin := rtV_in l[i]
    rw [List.drop_one] at tin
    have tl := rtV_len l[i]
    generalize rtV l[i] = y at *
    generalize inV l[i] = z at *
    have hd27 : List.drop 27 y = [] := List.drop_of_length_le (by omega)
    generalize rc (rAt l i) = c1 at *
    generalize rc (rAt l (i + 1)) = c2 at *
    simp [ir_deps_Rootsl0, go_sem, h, e1, e3, hbe, hu.is, loadAt, evStore, V.cells, V.exp, splice, t27, tin, tl, hd27, -Int.natCast_add]
  · obtain rfl : i = l.length := by omega
    rw [← hB, s_loop_at hB]
    simp [ir_deps_Rootsl0, go_sem, hu.is]
termination_by l.length - i
set_option maxRecDepth 100000 in
theorem Roots_ok (k : Nat) (hk : k ≤ l.length) (r : Nat) (hr : 1 ≤ r) (hr2 : r < 32) (n : Nat) (hn : n = 512) :
    evI pg .val n_deps_Roots [u, .int .i64 (k : Int), .int .i64 (r : Int)] [] = some (ils (iI (rt n (rAt l k r))), []) := by
  have hb : bnd (rtR l).length (rtR l).length none (some (.int .i64 (k : Int))) = some (0, k) := bnd_hi (by rw [rtR_len]; exact hk)
  obtain ⟨w, hw1, hw2⟩ := sl_slc hu none (some (.int .i64 (k : Int))) (sz := 27) (by omega) (rtR_all l) hb
  rw [List.drop_zero, rtR_take] at hw2
  have hkl : (l.take k).length = k := by rw [List.length_take]; omega
  have hloop := Roots_loop hw2 (by omega) (r : Int) 0 (by omega)
  rw [hkl, Int.natCast_zero, rAt_take l k k (by omega)] at hloop
  have e0 : rAt (l.take k) 0 = fun _ => 0 := rfl
  rw [e0] at hloop
  have hea := setEach_ok (rAt l k r) n hn (lt_pow (rAt_lt l k r hr2) (by omega))
  have hlen := rc_len (fun _ => 0)
  have hlen2 := rc_len (rAt l k)
  have hg := rc_get (rAt l k) hr2
  have hwi := fun (m : Mem) => wc_imm (rAt l k r) m false 6
  simp only [Nat.reduceAdd] at hwi
  have hx := asIx_nat (k := .i64) hr2
  have hr2' : (r : Int) < 32 := by omega
  have hr0 : ¬ (r : Int) < 1 := by omega
  have hr0n : ¬ r = 0 := by omega
  have hr1 : ¬ (31 : Int) < (r : Int) := by omega
  have hk2 : ¬ l.length < k := by omega
  have hk3 : ¬ (512 : Int) < (l.length : Int) := by omega
  have hl8 : r * 8 + 8 ≤ 256 := by omega
  have hrw : (iI (rt n (rAt l k r))).length = (rt n (rAt l k r)).length := iI_len _
  have hsl := Sl.ils (iI (rt n (rAt l k r)))
  rw [s_fn fn_deps_Roots]
  simp only [ir_deps_Roots, ← rep256, rc_zero]
  generalize wc (rAt l k r) = c1 at *
  generalize rc (fun _ => 0) = rcs at *
  generalize rc (rAt l k) = rck at *
  generalize ils (iI (rt n (rAt l k r))) = res at *
  simp [go_sem, hu.is, hu.rows, hw2.is, hw2.rows, rtR_len, hkl, hw1, hr0, hr0n, hr1, hk2, hk3, fill, V.cells, V.exp, hlen, hlen2, hloop, hx, hr2', hl8, loadAt, hg, hwi, hea, hsl.is, -List.length_replicate, -List.length_take]
set_option maxRecDepth 100000 in
theorem Roots_no (k : Int) (h : k < 0 ∨ (l.length : Int) < k ∨ r < 1 ∨ 31 < r) : evI pg .val n_deps_Roots [u, .int .i64 k, .int .i64 r] [] = some (.nils, []) := by
  have hk3 : ¬ (512 : Int) < (l.length : Int) := by omega
  rw [s_fn fn_deps_Roots]
  simp only [ir_deps_Roots, ← rep256, rc_zero]
  generalize rc (fun _ => 0) = rcs at *
  by_cases c1 : k < 0
  · simp [go_sem, hu.is, hu.rows, rtR_len, c1]
  · by_cases c2 : (l.length : Int) < k
    · simp [go_sem, hu.is, hu.rows, rtR_len, c1, c2]
    · by_cases c3 : r < 1
      · simp [go_sem, hu.is, hu.rows, rtR_len, c1, c2, c3, hk3]
      · have c4 : 31 < r := by omega
        simp [go_sem, hu.is, hu.rows, rtR_len, c1, c2, c3, c4, hk3]
end
end Go.Proofs.YtkdgcgkmgcmaiaaDoor
