/- DepsBehind (no claim; lemmas). -/
import Derived.Test.YtkdgcgkmgcmaiaaDoorK21l
set_option linter.unusedSimpArgs false
set_option linter.unusedVariables false
namespace Go.Proofs.YtkdgcgkmgcmaiaaDoor
open Go Go.Vm

section
variable {iv lv : V} {l : List In} (hi : Sl iv (inR l)) (hok : ∀ x ∈ l, okI x) (hl : Sl lv (rtR l)) (h60 : l.length ≤ 60) (n : Nat) (hn : n ≤ l.length) (kd : Int) (rvA rvB : V)
include hi hok
theorem Beh_l0 (pv : V) (P : List (Int × Int)) (hp : Sl pv (pR P)) (hpl : P.length ≤ 100000) (hP : ∀ q ∈ P, ∃ (a b : Nat) (y : In), q = ((a : Int), (b : Int)) ∧ a < b ∧ b < l.length ∧ l[a]? = some y ∧ giv y.op = true) (i : Nat) (hi' : i ≤ P.length) :
    evCI pg (.loop ir_undertowlaw21_DepsBehindl0) ⟨[iv, .undef, .undef, lv, .int .i64 (n : Int), .int .i64 kd, .ip false [rvA] 0, .ip false [rvB] 0, pv, .int .i64 (i : Int), .undef, .undef, .undef, .undef, .undef, .undef, .undef, .undef, .undef, .undef, .undef, .undef, .undef, .undef], ⟨[], [], []⟩⟩ =
      some (.exit 2, ⟨[iv, .undef, .undef, lv, .int .i64 (n : Int), .int .i64 kd, .ip false [rvA] 0, .ip false [rvB] 0, pv, .int .i64 (P.length : Int), .undef, .undef, .undef, .undef, .undef, .undef, .undef, .undef, .undef, .bool false, .undef, .undef, .undef, .undef], ⟨[], [], []⟩⟩) := by
  obtain ⟨B, hB⟩ : ∃ B, B = C.loop ir_undertowlaw21_DepsBehindl0 := ⟨_, rfl⟩
  by_cases h : i < P.length
  · have e1 := fun m => hp.ia (sz := 2) m .i64 (i := i) (by rw [pR_len]; exact h) (by rw [pR_el]; rfl)
    simp only [pR_el] at e1
    obtain ⟨a, b, y, hq, hab, hbl, hy, hg⟩ := hP P[i] (List.getElem_mem h)
    simp only [hq] at e1
    have hal : a < l.length := by omega
    have e2 := fun m => hi.ia (sz := 9) m .i64 (i := a) (by rw [inR_len]; exact hal) (by rw [inR_el]; rfl)
    simp only [inR_el] at e2
    have hya : l[a] = y := by
      rw [List.getElem?_eq_getElem hal] at hy; exact Option.some.inj hy
    simp only [hya] at e2
    have hS := refSortO y.op (hok y (by rw [← hya]; exact List.getElem_mem hal))
    have hs := giv_srt hg
    have e3 := succ_i64 h (by omega)
    have ih := Beh_l0 pv P hp hpl hP (i + 1) (by omega)
    have nab : ¬ b ≤ a := by omega
    have nab' : ¬ (b : Int) ≤ (a : Int) := by omega
    rw [← ih, ← hB]
    conv => lhs; rw [s_loop_at hB]
    generalize srtO y.op = s at *
    simp only [inV] at e2
    rcases hs with rfl | hs
    · simp [ir_undertowlaw21_DepsBehindl0, go_sem, h, e1, e2, e3, hS, nab, nab', hp.is, hp.rows, hi.is, pR_len, -Int.natCast_add]
    · have s4 : ¬ s = 4 := by omega
      have s4' : ¬ (s : Int) = 4 := by omega
      have s10 : ¬ s < 10 := by omega
      have s10' : ¬ (s : Int) < 10 := by omega
      simp [ir_undertowlaw21_DepsBehindl0, go_sem, h, e1, e2, e3, hS, nab, nab', s4, s4', s10, s10', hp.is, hp.rows, hi.is, pR_len, -Int.natCast_add]
  · obtain rfl : i = P.length := by omega
    rw [← hB, s_loop_at hB]
    simp [ir_undertowlaw21_DepsBehindl0, go_sem, hp.is, hp.rows, pR_len]
termination_by P.length - i
omit hi hok
variable {WA WB : Nat → Nat} (hA : RelV rvA l.length WA) (hB' : RelV rvB n WB) (he : ∀ x y : Nat, x < n → y < n → hasW l.length WA x y = hasW n WB x y)
include h60 hn hA hB' he
theorem Beh_l1 (iv lv : V) (x : Nat) (hx : x < n) (y : Nat) (hy : y ≤ n) :
    evCI pg (.loop ir_undertowlaw21_DepsBehindl1) ⟨[iv, .undef, .undef, lv, .int .i64 (n : Int), .int .i64 kd, .ip false [rvA] 0, .ip false [rvB] 0, .undef, .undef, .undef, .int .i64 (x : Int), .int .i64 (y : Int), .undef, .undef, .undef, .undef, .undef, .undef, .undef, .undef, .undef, .undef, .undef], ⟨[], [], []⟩⟩ =
      some (.exit 6, ⟨[iv, .undef, .undef, lv, .int .i64 (n : Int), .int .i64 kd, .ip false [rvA] 0, .ip false [rvB] 0, .undef, .undef, .undef, .int .i64 (x : Int), .int .i64 (n : Int), .undef, .undef, .undef, .undef, .undef, .undef, .undef, .undef, .undef, .bool false, .undef], ⟨[], [], []⟩⟩) := by
  obtain ⟨B, hB⟩ : ∃ B, B = C.loop ir_undertowlaw21_DepsBehindl1 := ⟨_, rfl⟩
  by_cases h : y < n
  · have e3 := succ_i64 h (by omega)
    have ih := Beh_l1 iv lv x hx (y + 1) (by omega)
    have h1 := Has_ok (t := false) hA (x : Int) (y : Int)
    have h2 := Has_ok (t := false) hB' (x : Int) (y : Int)
    rw [he x y hx h] at h1
    rw [← ih, ← hB]
    conv => lhs; rw [s_loop_at hB]
    simp [ir_undertowlaw21_DepsBehindl1, go_sem, h, e3, h1, h2, -Int.natCast_add]
  · obtain rfl : y = n := by omega
    rw [← hB, s_loop_at hB]
    simp [ir_undertowlaw21_DepsBehindl1, go_sem]
termination_by n - y
theorem Beh_l2 (iv lv : V) (hiv : isS iv = true) (hlv : isS lv = true) (x : Nat) (hx : x ≤ n) :
    evCI pg (.loop ir_undertowlaw21_DepsBehindl2) ⟨[iv, .undef, .undef, lv, .int .i64 (n : Int), .int .i64 kd, .ip false [rvA] 0, .ip false [rvB] 0, .undef, .undef, .undef, .int .i64 (x : Int), .undef, .undef, .undef, .undef, .undef, .undef, .undef, .undef, .undef, .undef, .undef, .undef], ⟨[], [], []⟩⟩ =
      some (.exit 4, ⟨[iv, .undef, .undef, lv, .int .i64 (n : Int), .int .i64 kd, .ip false [rvA] 0, .ip false [rvB] 0, .undef, .undef, .undef, .int .i64 (n : Int), .undef, .undef, .undef, .undef, .undef, .undef, .undef, .undef, .undef, .bool false, .undef, .undef], ⟨[], [], []⟩⟩) := by
  obtain ⟨B, hB⟩ : ∃ B, B = C.loop ir_undertowlaw21_DepsBehindl2 := ⟨_, rfl⟩
  by_cases h : x < n
  · have e3 := succ_i64 h (by omega)
    have ih := Beh_l2 iv lv hiv hlv (x + 1) (by omega)
    have h1 := Beh_l1 h60 n hn kd rvA rvB hA hB' he iv lv x h 0 (by omega)
    rw [Int.natCast_zero] at h1
    rw [← ih, ← hB]
    conv => lhs; rw [s_loop_at hB]
    simp [ir_undertowlaw21_DepsBehindl2, go_sem, h, e3, h1, hiv, hlv, -Int.natCast_add]
  · obtain rfl : x = n := by omega
    rw [← hB, s_loop_at hB]
    simp [ir_undertowlaw21_DepsBehindl2, go_sem, hiv, hlv]
termination_by n - x
end
section
variable {iv lv : V} {l : List In} (hi : Sl iv (inR l)) (hok : ∀ x ∈ l, okI x) (hl : Sl lv (rtR l)) (h60 : l.length ≤ 60) (n : Nat) (hn : n ≤ l.length)
include hi hok hl h60 hn
theorem Beh_kind (D DB : Nat → Nat) (kd : Int) (hD : ∀ b, D b < 2 ^ b) (hg : ∀ a b, (D b).testBit a = true → ∃ y, l[a]? = some y ∧ giv y.op = true) (hDB : ∀ b, b < n → DB b = D b) (rvA rvB : V) (hA : RelV rvA l.length (aW D l.length)) (hB : RelV rvB n (aW DB n)) :
    ∃ pv P, evI pg .val n_rel_Rel_Pairs [.ip false [rvA] 0] [] = some (pv, []) ∧ Sl pv (pR P) ∧
      evCI pg (.loop ir_undertowlaw21_DepsBehindl0) ⟨[iv, .undef, .undef, lv, .int .i64 (n : Int), .int .i64 kd, .ip false [rvA] 0, .ip false [rvB] 0, pv, .int .i64 0, .undef, .undef, .undef, .undef, .undef, .undef, .undef, .undef, .undef, .undef, .undef, .undef, .undef, .undef], ⟨[], [], []⟩⟩ =
        some (.exit 2, ⟨[iv, .undef, .undef, lv, .int .i64 (n : Int), .int .i64 kd, .ip false [rvA] 0, .ip false [rvB] 0, pv, .int .i64 (P.length : Int), .undef, .undef, .undef, .undef, .undef, .undef, .undef, .undef, .undef, .bool false, .undef, .undef, .undef, .undef], ⟨[], [], []⟩⟩) ∧
      evCI pg (.loop ir_undertowlaw21_DepsBehindl2) ⟨[iv, .undef, .undef, lv, .int .i64 (n : Int), .int .i64 kd, .ip false [rvA] 0, .ip false [rvB] 0, .undef, .undef, .undef, .int .i64 0, .undef, .undef, .undef, .undef, .undef, .undef, .undef, .undef, .undef, .undef, .undef, .undef], ⟨[], [], []⟩⟩ =
        some (.exit 4, ⟨[iv, .undef, .undef, lv, .int .i64 (n : Int), .int .i64 kd, .ip false [rvA] 0, .ip false [rvB] 0, .undef, .undef, .undef, .int .i64 (n : Int), .undef, .undef, .undef, .undef, .undef, .undef, .undef, .undef, .undef, .bool false, .undef, .undef], ⟨[], [], []⟩⟩) := by
  have hP := prs_aW (n := l.length) (l := l) (by omega) hD hg
  have hpl : (prs l.length (aW D l.length) 0).length ≤ 100000 := by
    have : ∀ (q : List Nat) (f : Nat → List (Int × Int)), (∀ a, (f a).length ≤ 60) → (q.flatMap f).length ≤ 60 * q.length := by
      intro q f hf
      induction q with
      | nil => simp
      | cons a q ih =>
        have := hf a
        rw [List.flatMap_cons, List.length_append, List.length_cons]
        omega
    have h1 := this (List.range' 0 (l.length - 0)) (fun a => (rt l.length (aW D l.length a)).map fun b => ((a : Int), b)) (fun a => by rw [List.length_map]; have := rt_len l.length (aW D l.length a); omega)
    rw [List.length_range'] at h1
    unfold prs
    omega
  have he : ∀ x y : Nat, x < n → y < n → hasW l.length (aW D l.length) x y = hasW n (aW DB n) x y := fun x y hx hy => by
    rw [has_aW (by omega) (by omega) (by omega), has_aW (by omega) hx hy, hDB y hy]
  have h1 := Beh_l0 hi hok (lv := lv) n kd rvA rvB (ils (pR (prs l.length (aW D l.length) 0))) (prs l.length (aW D l.length) 0) (.ils _) hpl hP 0 (by omega)
  have h2 := Beh_l2 h60 n hn kd rvA rvB hA hB he iv lv hi.is hl.is 0 (by omega)
  rw [Int.natCast_zero] at h1 h2
  exact ⟨_, _, Pairs_ok hA, .ils _, h1, h2⟩
theorem Beh_l3 : evCI pg (.loop ir_undertowlaw21_DepsBehindl3) ⟨[iv, .undef, .undef, lv, .int .i64 (n : Int), .int .i64 0, .undef, .undef, .undef, .undef, .undef, .undef, .undef, .undef, .undef, .undef, .undef, .undef, .undef, .undef, .undef, .undef, .undef, .undef], ⟨[], [], []⟩⟩ = some (.exit 0, ⟨[iv, .undef, .undef, lv, .int .i64 (n : Int), .int .i64 3, .undef, .undef, .undef, .undef, .undef, .undef, .undef, .undef, .undef, .undef, .bool false, .undef, .undef, .undef, .undef, .undef, .undef, .undef], ⟨[], [], []⟩⟩) := by
  have hb : bnd (rtR l).length (rtR l).length none (some (.int .i64 (n : Int))) = some (0, n) := bnd_hi (by rw [rtR_len]; exact hn)
  obtain ⟨w, hw1, hw2⟩ := sl_slc hl none (some (.int .i64 (n : Int))) (sz := 27) (by omega) (rtR_all l) hb
  rw [List.drop_zero, rtR_take] at hw2
  have hkl : (l.take n).length = n := by rw [List.length_take]; omega
  obtain ⟨a1, A1, A2⟩ := Address_ok hl (by omega)
  obtain ⟨a2, A3, A4⟩ := Address_ok hw2 (by omega)
  obtain ⟨d1, D1, D2⟩ := Data_ok hl (by omega)
  obtain ⟨d2, D3, D4⟩ := Data_ok hw2 (by omega)
  obtain ⟨c1, C1, C2⟩ := Course_ok hl (by omega)
  obtain ⟨c2, C3, C4⟩ := Course_ok hw2 (by omega)
  rw [hkl] at A4 D4 C4
  obtain ⟨B, hB⟩ : ∃ B, B = C.loop ir_undertowlaw21_DepsBehindl3 := ⟨_, rfl⟩
  have h3 : evCI pg B ⟨[iv, .undef, .undef, lv, .int .i64 (n : Int), .int .i64 3, .undef, .undef, .undef, .undef, .undef, .undef, .undef, .undef, .undef, .undef, .undef, .undef, .undef, .undef, .undef, .undef, .undef, .undef], ⟨[], [], []⟩⟩ = some (.exit 0, ⟨[iv, .undef, .undef, lv, .int .i64 (n : Int), .int .i64 3, .undef, .undef, .undef, .undef, .undef, .undef, .undef, .undef, .undef, .undef, .bool false, .undef, .undef, .undef, .undef, .undef, .undef, .undef], ⟨[], [], []⟩⟩) := by
    rw [s_loop_at hB]
    simp [ir_undertowlaw21_DepsBehindl3, go_sem, hi.is, hl.is]
  have h2 : evCI pg B ⟨[iv, .undef, .undef, lv, .int .i64 (n : Int), .int .i64 2, .undef, .undef, .undef, .undef, .undef, .undef, .undef, .undef, .undef, .undef, .undef, .undef, .undef, .undef, .undef, .undef, .undef, .undef], ⟨[], [], []⟩⟩ = some (.exit 0, ⟨[iv, .undef, .undef, lv, .int .i64 (n : Int), .int .i64 3, .undef, .undef, .undef, .undef, .undef, .undef, .undef, .undef, .undef, .undef, .bool false, .undef, .undef, .undef, .undef, .undef, .undef, .undef], ⟨[], [], []⟩⟩) := by
    obtain ⟨pv, P, p1, p2, p3, p4⟩ := Beh_kind hi hok hl h60 n hn (cAt l) (cAt (l.take n)) 2 (cAt_lt l) (fun a b h => cAt_gv h) (fun b hb => cAt_take l n b (by omega)) c1 c2 C2 C4
    rw [← h3]
    conv => lhs; rw [s_loop_at hB]
    simp [ir_undertowlaw21_DepsBehindl3, go_sem, hi.is, hl.is, hw1, hw2.is, A1, A3, C1, C3, p1, p2.is, p3, p4]
  have h1 : evCI pg B ⟨[iv, .undef, .undef, lv, .int .i64 (n : Int), .int .i64 1, .undef, .undef, .undef, .undef, .undef, .undef, .undef, .undef, .undef, .undef, .undef, .undef, .undef, .undef, .undef, .undef, .undef, .undef], ⟨[], [], []⟩⟩ = some (.exit 0, ⟨[iv, .undef, .undef, lv, .int .i64 (n : Int), .int .i64 3, .undef, .undef, .undef, .undef, .undef, .undef, .undef, .undef, .undef, .undef, .bool false, .undef, .undef, .undef, .undef, .undef, .undef, .undef], ⟨[], [], []⟩⟩) := by
    obtain ⟨pv, P, p1, p2, p3, p4⟩ := Beh_kind hi hok hl h60 n hn (hD l) (hD (l.take n)) 1 (hD_lt l) (fun a b h => hD_gv h) (fun b hb => hD_take l hb) d1 d2 D2 D4
    rw [← h2]
    conv => lhs; rw [s_loop_at hB]
    simp [ir_undertowlaw21_DepsBehindl3, go_sem, hi.is, hl.is, hw1, hw2.is, A1, A3, D1, D3, p1, p2.is, p3, p4]
  obtain ⟨pv, P, p1, p2, p3, p4⟩ := Beh_kind hi hok hl h60 n hn (hA l) (hA (l.take n)) 0 (hA_lt l) (fun a b h => hA_gv h) (fun b hb => hA_take l hb) a1 a2 A2 A4
  rw [← hB, ← h1]
  conv => lhs; rw [s_loop_at hB]
  simp [ir_undertowlaw21_DepsBehindl3, go_sem, hi.is, hl.is, hw1, hw2.is, A1, A3, p1, p2.is, p3, p4]
end
theorem DepsBehind_true (iv : V) (l : List In) (hi : Sl iv (inR l)) (hok : ∀ x ∈ l, okI x) (c : Nat) (hc : c < 256) : evI pg .val n_undertowlaw21_DepsBehind [iv, .int .u8 (c : Int)] [] = some (.bool true, []) := by
  rw [s_fn fn_undertowlaw21_DepsBehind]
  by_cases h60 : 60 < l.length
  · have h60' : (60 : Int) < (l.length : Int) := by omega
    simp [ir_undertowlaw21_DepsBehind, go_sem, alive21, hi.is, hi.rows, inR_len, h60']
  · have h60' : ¬ (60 : Int) < (l.length : Int) := by omega
    have hr := retired_ok iv l hi (by omega)
    have hs := Sl.ils (rtR l)
    have hcw : IntKind.i64.wrap (c : Int) = (c : Int) := wrap_i64 (by omega) (by omega)
    by_cases hcl : l.length < c
    · have h := Beh_l3 hi hok hs (by omega) l.length (by omega)
      simp [ir_undertowlaw21_DepsBehind, go_sem, alive21, hi.is, hi.rows, inR_len, h60', hr, hs.is, hs.rows, rtR_len, hcw, hcl, h]
    · have h := Beh_l3 hi hok hs (by omega) c (by omega)
      simp [ir_undertowlaw21_DepsBehind, go_sem, alive21, hi.is, hi.rows, inR_len, h60', hr, hs.is, hs.rows, rtR_len, hcw, hcl, h]
theorem law_behind : ∀ vs, PArgs Tryd.prog 8 Tryd.f5.params.toList vs → ∃ k, evF pg k .val 5 vs [] = some (.bool true, []) := by
  intro vs h
  obtain ⟨v1, _, rfl, h1, v2, _, rfl, h2, rfl⟩ := h
  obtain ⟨l, hl, _, hok⟩ := arg_ins (n := 5) h1
  obtain ⟨x, rfl, hx⟩ := arg_u8 Tryd.underlying5 h2
  exact (evI_iff (Go.Vm.hx _ _ _)).1 (DepsBehind_true v1 l hl hok x hx)
end Go.Proofs.YtkdgcgkmgcmaiaaDoor
