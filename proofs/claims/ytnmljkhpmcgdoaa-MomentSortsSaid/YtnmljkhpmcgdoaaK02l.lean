/- Layer 2: lists of moments in order, by the program and by the document (no claim; lemmas). -/
import Derived.Test.YtnmljkhpmcgdoaaK02k
set_option linter.unusedSimpArgs false
set_option linter.unusedVariables false
namespace Go.Proofs.Ytnmljkhpmcgdoaa
open Go Go.Vm

theorem s_loop_at {a B : C} (h : B = .loop a) (st : St) : evCI pg B st = thenC pg (evCI pg a st) B := by subst h; exact s_loop a st
theorem succ_i64 {i n : Nat} (h : i < n) (hn : n < 9223372036854775808) : IntKind.i64.wrap ((i : Int) + 1) = ((i + 1 : Nat) : Int) := by rw [wrap_i64 (by omega) (by omega)]; rfl
def iI (l : List Int) : List (List V) := l.map fun x => [.int .i64 x]
theorem iI_len (l : List Int) : (iI l).length = l.length := by simp [iI]
theorem iI_el (l : List Int) (i : Nat) (h : i < (iI l).length) : (iI l)[i] = [.int .i64 (l[i]'(by simpa [iI] using h))] := by simp [iI]
theorem fits_of {b n : Nat} (hb : 0 < b) (hn : n * b ≤ 140737488355328) : fits b n = true := by simp [fits, hb, maxB, hn]
/-- Places, as numbers. -/
def nI (l : List Nat) : List (List V) := l.map fun (x : Nat) => [.int .i64 (x : Int)]
theorem nI_len (l : List Nat) : (nI l).length = l.length := by simp [nI]
theorem nI_iI (l : List Nat) : nI l = iI (l.map fun (x : Nat) => (x : Int)) := by simp [nI, iI]
theorem nI_el (l : List Nat) (i : Nat) (h : i < (nI l).length) : (nI l)[i] = [.int .i64 ((l[i]'(by simpa [nI] using h) : Nat) : Int)] := by simp [nI]
theorem nI_imm (l : List Nat) : immAll (nI l) = true := by simp [immAll, nI, V.imm]
theorem nI_sz (l : List Nat) : szAll 1 (nI l) = true := by simp [szAll, nI]
theorem nI_app (l l' : List Nat) : nI l ++ nI l' = nI (l ++ l') := by simp [nI]
theorem nI_one (x : Nat) : ([[.int .i64 (x : Int)]] : List (List V)) = nI [x] := rfl
theorem app_nI {m : Mem} {l l' : List Nat} {y : V} (hy : srcV m y = some (nI l')) (ht : m.tk[0]? = some l.length) (hl : l.length + l'.length ≤ 1000) :
    appV 2 1 8 m (.osl false 0 (nI l)) y = some (.osl false 0 (nI (l ++ l')), { m with tk := m.tk.set 0 (l.length + l'.length) }) := by
  unfold appV
  rw [hy]
  simp only [nI_app, nI_imm, nI_sz, nI_len, ht, fits_of (b := 8) (n := l.length + l'.length) (by omega) (by omega), Bool.and_self, if_true, Bool.false_eq_true, if_false]
/-- Moments. -/
def flV (l : List Nat) : List (List V) := l.map fun x => [.flt x]
theorem flV_len (l : List Nat) : (flV l).length = l.length := by simp [flV]
theorem flV_el (l : List Nat) (i : Nat) (h : i < (flV l).length) : (flV l)[i] = [.flt (l[i]'(by simpa [flV] using h))] := by simp [flV]
def blV (l : List Bool) : List (List V) := l.map fun x => [.bool x]
theorem blV_len (l : List Bool) : (blV l).length = l.length := by simp [blV]
theorem blV_el (l : List Bool) (i : Nat) (h : i < (blV l).length) : (blV l)[i] = [.bool (l[i]'(by simpa [blV] using h))] := by simp [blV]
theorem blV_get (l : List Bool) (i : Nat) (h : i < l.length) : (blV l)[i]? = some [.bool l[i]] := by simp [blV, h]
theorem blV_set (l : List Bool) (i : Nat) (b : Bool) : (blV l).set i [.bool b] = blV (l.set i b) := by simp [blV, List.map_set]
theorem blV_rep (n : Nat) : List.replicate n [V.bool false] = blV (List.replicate n false) := by simp [blV]

section
variable (v : V) (xs : List Nat) (hv : Sl v (flV xs)) (hw : ∀ x ∈ xs, x < 18446744073709551616) (hL : xs.length ≤ 200)
include hv hw hL
omit hw hL in
theorem flg {i : Nat} (h : i < xs.length) (m : Mem) : iaSV 1 m v (.int .i64 (i : Int)) = some (.ip (tg v) [.flt xs[i]] 0) := by
  have := hv.ia (sz := 1) m .i64 (i := i) (by rw [flV_len]; exact h) (by simp [flV])
  rwa [flV_el] at this
theorem Sort_loop0 (os : List Nat) (u : List Bool) (hu : u.length = xs.length) (tk : List Nat) (i : Nat) (hi : i ≤ xs.length) (b : Int) (hb : Bst xs u i b) :
    ∃ b', Bst xs u xs.length b' ∧ evCI pg (.loop ir_moment_Sortl0) ⟨[v, .undef, .osl false 0 (nI os), .rsl 0 0 xs.length, .int .i64 b, .undef, .undef, v, .int .i64 (xs.length : Int), .int .i64 (i : Int), .undef, .undef, .undef], ⟨[], tk, [.arr (blV u)]⟩⟩ =
      some (.exit 2, ⟨[v, .undef, .osl false 0 (nI os), .rsl 0 0 xs.length, .int .i64 b', .undef, .undef, v, .int .i64 (xs.length : Int), .int .i64 (xs.length : Int), .bool false, .undef, .undef], ⟨[], tk, [.arr (blV u)]⟩⟩) := by
  obtain ⟨B, hB⟩ : ∃ B, B = C.loop ir_moment_Sortl0 := ⟨_, rfl⟩
  by_cases h : i < xs.length
  · have e1 := fun m => flg v xs hv h m
    have e2 := blV_get u i (by omega)
    have e3 := succ_i64 h (by omega)
    by_cases hui : u[i] = true
    · obtain ⟨b', hb', ih⟩ := Sort_loop0 os u hu tk (i + 1) (by omega) b (hb.used (by rw [List.getElem?_eq_getElem (by omega), hui]))
      refine ⟨b', hb', ?_⟩
      rw [← hB] at ih
      rw [← hB, s_loop_at hB]
      simp [ir_moment_Sortl0, go_sem, hv.is, hv.rows, flV_len, h, e1, e2, e3, hui, ih, unV, -Int.natCast_add]
    · have huf : u[i] = false := by simpa using hui
      have hus : u[i]? = some false := by rw [List.getElem?_eq_getElem (by omega), huf]
      have hb0 := hb
      rcases hb0 with ⟨rfl, _⟩ | ⟨k, rfl, hk, _⟩
      · obtain ⟨b', hb', ih⟩ := Sort_loop0 os u hu tk (i + 1) (by omega) _ (hb.first hus)
        refine ⟨b', hb', ?_⟩
        rw [← hB] at ih
        rw [← hB, s_loop_at hB]
        simp [ir_moment_Sortl0, go_sem, hv.is, hv.rows, flV_len, h, e1, e2, e3, huf, ih, unV, -Int.natCast_add]
      · have e4 := fun m => flg v xs hv (show k < xs.length by omega) m
        have hL2 := Less_ok xs[i] xs[k] (hw _ (List.getElem_mem _)) (hw _ (List.getElem_mem _))
        have g1 : xs.getD i 0 = xs[i] := by simp [List.getD_eq_getElem?_getD, h]
        have g2 : xs.getD k 0 = xs[k] := by simp [List.getD_eq_getElem?_getD, show k < xs.length by omega]
        have hk0 : ¬ (k : Int) < 0 := by omega
        by_cases hl : rk xs[i] < rk xs[k]
        · obtain ⟨b', hb', ih⟩ := Sort_loop0 os u hu tk (i + 1) (by omega) _ (hb.less hus (by rw [g1, g2]; exact hl))
          refine ⟨b', hb', ?_⟩
          rw [← hB] at ih
          rw [decide_eq_true hl] at hL2
          rw [← hB, s_loop_at hB]
          simp [ir_moment_Sortl0, go_sem, hv.is, hv.rows, flV_len, h, e1, e2, e3, e4, huf, ih, hL2, hk0, unV, -Int.natCast_add]
        · obtain ⟨b', hb', ih⟩ := Sort_loop0 os u hu tk (i + 1) (by omega) _ (hb.keep (by rw [g1, g2]; exact hl))
          refine ⟨b', hb', ?_⟩
          rw [← hB] at ih
          rw [decide_eq_false hl] at hL2
          rw [← hB, s_loop_at hB]
          simp [ir_moment_Sortl0, go_sem, hv.is, hv.rows, flV_len, h, e1, e2, e3, e4, huf, ih, hL2, hk0, unV, -Int.natCast_add]
  · obtain rfl : i = xs.length := by omega
    refine ⟨b, hb, ?_⟩
    rw [← hB, s_loop_at hB]
    simp [ir_moment_Sortl0, go_sem, hv.is, hv.rows, flV_len]
termination_by xs.length - i
theorem Sort_loop1 (os : List Nat) (u : List Bool) (hs : Sel xs os u) (d : Nat) (hd : os.length + d = xs.length) :
    ∃ os' u', Srt xs xs.length os' ∧ evCI pg (.loop ir_moment_Sortl1) ⟨[v, .undef, .osl false 0 (nI os), .rsl 0 0 xs.length, .undef, .undef, .undef, .undef, .undef, .undef, .undef, .undef, .undef], ⟨[], [os.length], [.arr (blV u)]⟩⟩ =
      some (.exit 0, ⟨[v, .undef, .osl false 0 (nI os'), .rsl 0 0 xs.length, .int .i64 (-1), .undef, .undef, .undef, .undef, .undef, .undef, .undef, .bool true], ⟨[], [os'.length], [.arr (blV u')]⟩⟩) := by
  obtain ⟨B, hB⟩ : ∃ B, B = C.loop ir_moment_Sortl1 := ⟨_, rfl⟩
  obtain ⟨b', hb', h0⟩ := Sort_loop0 v xs hv hw hL os u hs.len [os.length] 0 (by omega) (-1) (Bst.zero xs u)
  rw [Int.natCast_zero] at h0
  rcases hb' with ⟨rfl, hall⟩ | ⟨k, rfl, hk, hku, hbest⟩
  · refine ⟨os, u, hs.done hall, ?_⟩
    rw [← hB, s_loop_at hB]
    simp [ir_moment_Sortl1, go_sem, hv.is, hv.rows, flV_len, h0]
  · have hs' := hs.step hk hku hbest
    have hc : os.length + 1 ≤ xs.length := by have := hs'.cnt; simpa using this
    obtain ⟨os', u', hsr, ih⟩ := Sort_loop1 (os ++ [k]) (u.set k true) hs' (d - 1) (by simp; omega)
    refine ⟨os', u', hsr, ?_⟩
    have hk0 : ¬ (k : Int) < 0 := by omega
    have hul := hs.len
    have e2 := blV_get u k (by omega)
    have ea := app_nI (m := ⟨[], [os.length], [.arr (blV (u.set k true))]⟩) (l := os) (l' := [k]) (y := .els [[.int .i64 (k : Int)]]) rfl rfl (by simp; omega)
    simp only [List.length_singleton, List.set_cons_zero] at ea
    rw [List.length_append, List.length_singleton] at ih
    rw [← hB] at ih
    rw [← hB, s_loop_at hB]
    simp [ir_moment_Sortl1, go_sem, hv.is, hv.rows, flV_len, h0, hk0, hk, e2, blV_set, litParts, ea, ih, -Int.natCast_add]
termination_by d
decreasing_by omega
theorem Sort_ok : ∃ os, Srt xs xs.length os ∧ evI pg .val n_moment_Sort [v] [] = some (ils (nI os), []) := by
  obtain ⟨os, u, hs, h⟩ := Sort_loop1 v xs hv hw hL [] (List.replicate xs.length false) (Sel.init xs) xs.length (by simp)
  refine ⟨os, hs, ?_⟩
  have e0 : nI [] = [] := rfl
  rw [e0, List.length_nil] at h
  have hl : (xs.length : Int) ≤ 9223372036854775807 ∧ xs.length ≤ 140737488355328 := by omega
  rw [s_fn fn_moment_Sort]
  simp [ir_moment_Sort, go_sem, hv.is, hv.rows, flV_len, blV_rep, h, hl, maxB]

/-- What stands behind all others so far. -/
def lst : List Nat → Nat → Nat
  | [], a => a
  | x :: l, a => lst l (if rk a < rk x then x else a)
theorem Last_loop (i : Nat) (hi : i ≤ xs.length) (a : Nat) (ha : a < 18446744073709551616) :
    evCI pg (.loop ir_moment_Lastl0) ⟨[.undef, .undef, .flt a, .undef, v, .int .i64 (xs.length : Int), .int .i64 (i : Int), .undef, .undef], ⟨[], [], []⟩⟩ =
      some (.exit 0, ⟨[.undef, .undef, .flt (lst (xs.drop i) a), .undef, v, .int .i64 (xs.length : Int), .int .i64 (xs.length : Int), .bool false, .undef], ⟨[], [], []⟩⟩) := by
  obtain ⟨B, hB⟩ : ∃ B, B = C.loop ir_moment_Lastl0 := ⟨_, rfl⟩
  by_cases h : i < xs.length
  · have e1 := fun m => flg v xs hv h m
    have e3 := succ_i64 h (by omega)
    have hx := hw xs[i] (List.getElem_mem _)
    have hL2 := Less_ok a xs[i] ha hx
    rw [List.drop_eq_getElem_cons h]
    rw [← hB, s_loop_at hB]
    by_cases hl : rk a < rk xs[i]
    · have ih := Last_loop (i + 1) (by omega) xs[i] hx
      rw [← hB] at ih
      rw [decide_eq_true hl] at hL2
      simp [ir_moment_Lastl0, go_sem, hv.is, hv.rows, flV_len, h, e1, e3, hL2, ih, lst, hl, -Int.natCast_add]
    · have ih := Last_loop (i + 1) (by omega) a ha
      rw [← hB] at ih
      rw [decide_eq_false hl] at hL2
      simp [ir_moment_Lastl0, go_sem, hv.is, hv.rows, flV_len, h, e1, e3, hL2, ih, lst, hl, -Int.natCast_add]
  · obtain rfl : i = xs.length := by omega
    rw [← hB, s_loop_at hB, List.drop_length]
    simp [ir_moment_Lastl0, go_sem, hv.is, hv.rows, flV_len, lst]
termination_by xs.length - i
omit hv hw hL in
theorem First_ok : evI pg .val n_moment_First [] [] = some (.flt 18442240474082181120, []) := closed irL_ok 300 (by kernel_rfl)
theorem Last_ok : evI pg .val n_moment_Last [v] [] = some (.flt (lst xs 18442240474082181120), []) := by
  have h := Last_loop v xs hv hw hL 0 (by omega) 18442240474082181120 (by omega)
  rw [List.drop_zero, Int.natCast_zero] at h
  have hF := First_ok
  rw [s_fn fn_moment_Last]
  simp [ir_moment_Last, go_sem, hv.is, hv.rows, flV_len, h, hF]
omit hv hw hL in
theorem lst_lt : ∀ (l : List Nat) (a : Nat), (∀ x ∈ l, x < 18446744073709551616) → a < 18446744073709551616 → lst l a < 18446744073709551616
  | [], a, _, h => h
  | x :: l, a, hl, h => by
    unfold lst
    refine lst_lt l _ (fun y hy => hl y (List.mem_cons_of_mem _ hy)) ?_
    split
    · exact hl x (by simp)
    · exact h
theorem law_loop (o : V) (ho : isS o = true) (i : Nat) (hi : i ≤ xs.length) (a : Nat) (ha : a < 18446744073709551616) :
    evCI pg (.loop ir_undertowlaw02_MomentSortsl0) ⟨[v, .undef, o, .flt a, .int .i64 (i : Int), .undef, .undef, .undef, .undef], ⟨[], [], []⟩⟩ =
      some (.exit 0, ⟨[v, .undef, o, .flt (lst (xs.drop i) a), .int .i64 (xs.length : Int), .undef, .undef, .bool false, .undef], ⟨[], [], []⟩⟩) := by
  obtain ⟨B, hB⟩ : ∃ B, B = C.loop ir_undertowlaw02_MomentSortsl0 := ⟨_, rfl⟩
  by_cases h : i < xs.length
  · have e1 := fun m => flg v xs hv h m
    have e3 := succ_i64 h (by omega)
    have hx := hw xs[i] (List.getElem_mem _)
    have hL2 := refLess_ok a xs[i] ha hx
    rw [List.drop_eq_getElem_cons h]
    rw [← hB, s_loop_at hB]
    by_cases hl : rk a < rk xs[i]
    · have ih := law_loop o ho (i + 1) (by omega) xs[i] hx
      rw [← hB] at ih
      rw [decide_eq_true hl] at hL2
      simp [ir_undertowlaw02_MomentSortsl0, go_sem, hv.is, hv.rows, flV_len, ho, h, e1, e3, hL2, ih, lst, hl, -Int.natCast_add]
    · have ih := law_loop o ho (i + 1) (by omega) a ha
      rw [← hB] at ih
      rw [decide_eq_false hl] at hL2
      simp [ir_undertowlaw02_MomentSortsl0, go_sem, hv.is, hv.rows, flV_len, ho, h, e1, e3, hL2, ih, lst, hl, -Int.natCast_add]
  · obtain rfl : i = xs.length := by omega
    rw [← hB, s_loop_at hB, List.drop_length]
    simp [ir_undertowlaw02_MomentSortsl0, go_sem, hv.is, hv.rows, flV_len, ho, lst]
termination_by xs.length - i

/-! ### the document's order -/
omit hL in
theorem refSort_loop0 (ov : V) (os : List Nat) (ho : Sl ov (nI os)) (i : Nat) (hi : i < xs.length) (hlt : ∀ a ∈ os, a < xs.length) (hol : os.length ≤ 200) (tk : List Nat) : ∀ (k : Nat), k ≤ os.length → (∀ a ∈ os.drop k, rk (xs.getD i 0) < rk (xs.getD a 0)) →
    ∃ k', k' ≤ os.length ∧ (∀ a ∈ os.drop k', rk (xs.getD i 0) < rk (xs.getD a 0)) ∧ (k' = 0 ∨ ∃ b, os[k' - 1]? = some b ∧ ¬ rk (xs.getD i 0) < rk (xs.getD b 0)) ∧
      evCI pg (.loop ir_undertowref02_Sortl0) ⟨[v, .undef, ov, .int .i64 (i : Int), .int .i64 (k : Int), .undef, .undef, .undef], ⟨[], tk, []⟩⟩ =
      some (.exit 2, ⟨[v, .undef, ov, .int .i64 (i : Int), .int .i64 (k' : Int), .undef, .undef, .bool false], ⟨[], tk, []⟩⟩) := by
  intro k
  induction k with
  | zero =>
    intro _ h
    refine ⟨0, by omega, h, .inl rfl, ?_⟩
    rw [s_loop]
    simp [ir_undertowref02_Sortl0, go_sem, hv.is, hv.rows, ho.is, ho.rows, flV_len, nI_len]
  | succ k ih =>
    intro hk h
    obtain ⟨B, hB⟩ : ∃ B, B = C.loop ir_undertowref02_Sortl0 := ⟨_, rfl⟩
    have hmem : os[k] ∈ os := List.getElem_mem _
    have hbx := hlt os[k] hmem
    have e1 := fun m => flg v xs hv hi m
    have e2 := fun m => flg v xs hv hbx m
    have e3 := fun m => ho.ia (sz := 1) m .i64 (i := k) (by rw [nI_len]; omega) (by simp [nI])
    simp only [nI_el] at e3
    have hL2 := refLess_ok xs[i] xs[os[k]] (hw _ (List.getElem_mem _)) (hw _ (List.getElem_mem _))
    have g1 : xs.getD i 0 = xs[i] := by simp [List.getD_eq_getElem?_getD, hi]
    have g2 : xs.getD os[k] 0 = xs[os[k]] := by simp [List.getD_eq_getElem?_getD, hbx]
    have ek : IntKind.i64.wrap (((k + 1 : Nat) : Int) - 1) = (k : Int) := by rw [wrap_i64 (by omega) (by omega)]; omega
    have hk0 : (0 : Int) < ((k + 1 : Nat) : Int) := by omega
    by_cases hl : rk xs[i] < rk xs[os[k]]
    · obtain ⟨k', h1, h2, h3, h4⟩ := ih (by omega) (by
        intro a ha
        rw [List.drop_eq_getElem_cons (by omega)] at ha
        rcases List.mem_cons.1 ha with rfl | ha
        · rw [g1, g2]; exact hl
        · exact h a ha)
      refine ⟨k', h1, h2, h3, ?_⟩
      rw [decide_eq_true hl] at hL2
      rw [← hB] at h4
      rw [← hB, s_loop_at hB]
      simp [ir_undertowref02_Sortl0, go_sem, hv.is, hv.rows, ho.is, ho.rows, flV_len, nI_len, e1, e2, e3, ek, hk0, hL2, h4, -Int.natCast_add]
    · refine ⟨k + 1, hk, h, .inr ⟨os[k], by simp, by rw [g1, g2]; exact hl⟩, ?_⟩
      rw [decide_eq_false hl] at hL2
      rw [← hB, s_loop_at hB]
      simp [ir_undertowref02_Sortl0, go_sem, hv.is, hv.rows, ho.is, ho.rows, flV_len, nI_len, e1, e2, e3, ek, hk0, hL2, -Int.natCast_add]
theorem refSort_loop1 (i : Nat) (hi : i ≤ xs.length) (ov : V) (os : List Nat) (ho : Sl ov (nI os)) (hs : Srt xs i os) (hol : os.length = i) (tk : Nat) :
    ∃ ov' os' tk', Sl ov' (nI os') ∧ Srt xs xs.length os' ∧ os'.length = xs.length ∧ evCI pg (.loop ir_undertowref02_Sortl1) ⟨[v, .undef, ov, .int .i64 (i : Int), .undef, .undef, .undef, .undef], ⟨[], [tk], []⟩⟩ =
      some (.exit 0, ⟨[v, .undef, ov', .int .i64 (xs.length : Int), .undef, .undef, .bool false, .undef], ⟨[], [tk'], []⟩⟩) := by
  obtain ⟨B, hB⟩ : ∃ B, B = C.loop ir_undertowref02_Sortl1 := ⟨_, rfl⟩
  by_cases h : i < xs.length
  · obtain ⟨k, k1, k2, k3, h0⟩ := refSort_loop0 v xs hv hw ov os ho i h (fun a ha => by have := (hs.2 a).1 ha; omega) (by omega) [tk] os.length (by omega) (by simp)
    have hins := hs.ins k k1 k2 k3
    have hlen : (os.take k ++ i :: os.drop k).length = i + 1 := by simp; omega
    obtain ⟨ov', os', tk', q1, q2, q3, ih⟩ := refSort_loop1 (i + 1) (by omega) (ils (nI (os.take k ++ i :: os.drop k))) _ (.ils _) hins hlen 0
    refine ⟨ov', os', tk', q1, q2, q3, ?_⟩
    have hsz : ∀ e ∈ nI os, e.length = 1 := by intro e he; simp [nI] at he; obtain ⟨_, _, rfl⟩ := he; rfl
    have ekn : (nI os).length = os.length := nI_len os
    obtain ⟨u1, s1, s1'⟩ := ho.slc (sz := 1) ⟨[], [0], []⟩ none (some (.int .i64 (k : Int))) (l := 0) (k := k) (by omega) hsz (bnd_hi (by omega))
    obtain ⟨u2, s2, s2'⟩ := ho.slc (sz := 1) ⟨[], [k + 1], []⟩ (some (.int .i64 (k : Int))) none (l := k) (k := os.length) (by omega) hsz (by rw [ekn]; exact bnd_lo k1)
    have r1 : ((nI os).take k).drop 0 = nI (os.take k) := by simp [nI, List.map_take]
    have r2 : ((nI os).take os.length).drop k = nI (os.drop k) := by rw [← ekn, List.take_length]; simp [nI, List.map_drop]
    rw [r1] at s1'
    rw [r2] at s2'
    have tl : (os.take k).length = k := by simp; omega
    have dl : (os.drop k).length = os.length - k := by simp
    have n0 : nI [] = [] := rfl
    have a1 := app_nI (m := ⟨[], [0], []⟩) (l := []) (l' := os.take k) (s1'.src _) rfl (by simp; omega)
    have a2 := app_nI (m := ⟨[], [k], []⟩) (l := os.take k) (l' := [i]) (y := .els [[.int .i64 (i : Int)]]) rfl (by rw [tl]; rfl) (by simp; omega)
    have a3 := app_nI (m := ⟨[], [k + 1], []⟩) (l := os.take k ++ [i]) (l' := os.drop k) (s2'.src _) (by simp [tl]) (by simp; omega)
    simp only [tl, dl, n0, List.nil_append, List.length_nil, Nat.zero_add, List.set_cons_zero, List.length_singleton, List.length_append, List.append_assoc, List.singleton_append] at a1 a2 a3
    have e3 := succ_i64 h (by omega)
    rw [← hB] at ih
    rw [← hB, s_loop_at hB]
    simp [ir_undertowref02_Sortl1, go_sem, hv.is, hv.rows, ho.is, ho.rows, flV_len, nI_len, h, h0, s1, s2, s1'.is, s2'.is, a1, a2, a3, litParts, e3, ih, -Int.natCast_add]
  · obtain rfl : i = xs.length := by omega
    refine ⟨ov, os, tk, ho, hs, hol, ?_⟩
    rw [← hB, s_loop_at hB]
    simp [ir_undertowref02_Sortl1, go_sem, hv.is, hv.rows, ho.is, ho.rows, flV_len]
termination_by xs.length - i
theorem refSort_ok : ∃ ov os, Sl ov (nI os) ∧ Srt xs xs.length os ∧ evI pg .val n_undertowref02_Sort [v] [] = some (ov, []) := by
  obtain ⟨ov, os, tk, h1, h2, h3, h4⟩ := refSort_loop1 v xs hv hw hL 0 (by omega) .nils [] .nils ⟨.nil, by simp⟩ rfl 0
  refine ⟨ov, os, h1, h2, ?_⟩
  rw [Int.natCast_zero] at h4
  rw [s_fn fn_undertowref02_Sort]
  simp [ir_undertowref02_Sort, go_sem, hv.is, hv.rows, flV_len, h4, h1.is]
end
end Go.Proofs.Ytnmljkhpmcgdoaa
