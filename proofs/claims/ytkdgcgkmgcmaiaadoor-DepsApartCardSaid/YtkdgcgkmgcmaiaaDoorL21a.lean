/- DepsApart (no claim; lemmas). -/
import Derived.Test.YtkdgcgkmgcmaiaaDoorK21m
set_option linter.unusedSimpArgs false
set_option linter.unusedVariables false
namespace Go.Proofs.YtkdgcgkmgcmaiaaDoor
open Go Go.Vm

theorem DepsApart_main (iv : V) (l : List In) (hi : Sl iv (inR l)) (y : In) (hy : okI y) (h60 : l.length ≤ 60) (k3 : ¬ srtO y.op = 3) (k4 : ¬ y.op = 4) (kt : tgt y = 0) (c : Nat) (hc : c < 256) (n : Nat) (hn : n ≤ l.length)
    (hcn : (l.length < c ∧ n = l.length) ∨ (¬ l.length < c ∧ n = c)) : evI pg .val n_undertowlaw21_DepsApart [iv, .int .u8 (c : Int), .agg (inV y)] [] = some (.bool true, []) := by
  have hcr : crs y.op = false := by simp [crs, k3, k4]
  have hS := refSortO y.op hy
  have hT := refTarget_ok y hy
  rw [kt] at hT
  have hb1 : bnd (inR l).length (inR l).length none (some (.int .i64 (n : Int))) = some (0, n) := bnd_hi (by rw [inR_len]; exact hn)
  obtain ⟨w1, hw1, hs1⟩ := sl_slc hi none (some (.int .i64 (n : Int))) (sz := 9) (by omega) (inR_all l) hb1
  have hb2 : bnd (inR l).length (inR l).length (some (.int .i64 (n : Int))) none = some (n, (inR l).length) := bnd_lo (by rw [inR_len]; exact hn)
  obtain ⟨w2, hw2, hs2⟩ := sl_slc hi (some (.int .i64 (n : Int))) none (sz := 9) (by omega) (inR_all l) hb2
  have ht1 : ((inR l).take n).drop 0 = inR (l.take n) := by simp [inR, List.map_take]
  have ht2 : ((inR l).take (inR l).length).drop n = inR (l.drop n) := by rw [List.take_length]; simp [inR, List.map_drop]
  rw [ht1] at hs1
  rw [ht2] at hs2
  have hln : (l.take n).length = n := by rw [List.length_take]; omega
  have hld : (l.drop n).length = l.length - n := by rw [List.length_drop]
  have a1 : ∀ vs, appV 2 9 64 ⟨vs, [0], []⟩ (.osl false 0 []) w1 = some (.osl false 0 (inR (l.take n)), ⟨vs, [n], []⟩) := fun vs => by
    have := app_ins (m := ⟨vs, [0], []⟩) (a := []) hs1 rfl (by simp; omega)
    rw [List.nil_append, List.length_nil, Nat.zero_add, hln] at this
    exact this
  have a2 : ∀ vs, appV 2 9 64 ⟨vs, [n], []⟩ (.osl false 0 (inR (l.take n))) (.els [inV y]) = some (.osl false 0 (inR (l.take n ++ [y])), ⟨vs, [n + 1], []⟩) := fun vs => by
    have := app_in1 (m := ⟨vs, [n], []⟩) (a := l.take n) (x := y) (by rw [hln]; rfl) (by omega)
    rw [hln] at this
    exact this
  have a3 : ∀ vs, appV 2 9 64 ⟨vs, [n + 1], []⟩ (.osl false 0 (inR (l.take n ++ [y]))) w2 = some (.osl false 0 (inR (insl l n y)), ⟨vs, [l.length + 1], []⟩) := fun vs => by
    have := app_ins (m := ⟨vs, [n + 1], []⟩) (a := l.take n ++ [y]) hs2 (by simp; omega) (by simp; omega)
    rw [this]
    have e : (l.take n ++ [y]).length + (l.drop n).length = l.length + 1 := by simp; omega
    rw [e]
    rfl
  have hil := insl_len hn y
  have r1 := retired_ok iv l hi (by omega)
  have r2 := retired_ok (ils (inR (insl l n y))) (insl l n y) (.ils _) (by omega)
  have s1 := Sl.ils (rtR l)
  have s2 := Sl.ils (rtR (insl l n y))
  obtain ⟨g1, A1, A2⟩ := Address_ok s1 (by omega)
  obtain ⟨g2, A3, A4⟩ := Address_ok s2 (by omega)
  obtain ⟨c1, C1, C2⟩ := Course_ok s1 (by omega)
  obtain ⟨c2, C3, C4⟩ := Course_ok s2 (by omega)
  obtain ⟨e1, E1, E2⟩ := Data_ok s1 (by omega)
  obtain ⟨e2, E3, E4⟩ := Data_ok s2 (by omega)
  rw [hil] at A4 C4 E4
  have hph : ∀ x, x < l.length → ph n x < l.length + 1 := fun x hx => by unfold ph; split <;> omega
  have L := Apart_l1 s1.is (N := l.length) (by rw [s1.rows, rtR_len]) h60 n hn g1 g2 c1 c2 e1 e2 A2 C2 E2 A4 C4 E4
    (fun x z hx hz => by rw [has_aW (by omega) (hph x hx) (hph z hz), has_aW (by omega) hx hz]; exact hA_ph hn kt x z)
    (fun x z hx hz => by rw [has_aW (by omega) (hph x hx) (hph z hz), has_aW (by omega) hx hz]; exact cAt_ph hn kt hcr x z)
    (fun x z hx hz => by rw [has_aW (by omega) (hph x hx) (hph z hz), has_aW (by omega) hx hz]; exact hD_ph hn kt x z) 0 (by omega)
  rw [Int.natCast_zero] at L
  have h60' : ¬ (60 : Int) < (l.length : Int) := by omega
  have k3' : ¬ (srtO y.op : Int) = 3 := by omega
  have hcw : IntKind.i64.wrap (c : Int) = (c : Int) := wrap_i64 (by omega) (by omega)
  generalize ils (rtR l) = lv at *
  generalize hlm : ils (rtR (insl l n y)) = lm at *
  generalize inR (insl l n y) = q3 at *
  generalize inR (l.take n ++ [y]) = q2 at *
  generalize inR (l.take n) = q1 at *
  have hi1 := hi.is
  have hi2 := hi.rows
  have hi3 := inR_len l
  simp only [inV] at a2 hT ⊢
  rw [s_fn fn_undertowlaw21_DepsApart]
  rcases hcn with ⟨h, rfl⟩ | ⟨h, rfl⟩
  · simp [ir_undertowlaw21_DepsApart, go_sem, alive21, hi1, hi2, hi3, h60', hS, hT, k3, k3', k4, hcw, h, hw1, hw2, hs1.is, hs2.is, a1, a2, a3, litParts, V.cells, V.exp, splice, loadAt, r1, r2, s1.is, s2.is, s1.rows, s2.rows, rtR_len, A1, A3, C1, C3, E1, E3, L, -Int.natCast_add]
  · simp [ir_undertowlaw21_DepsApart, go_sem, alive21, hi1, hi2, hi3, h60', hS, hT, k3, k3', k4, hcw, h, hw1, hw2, hs1.is, hs2.is, a1, a2, a3, litParts, V.cells, V.exp, splice, loadAt, r1, r2, s1.is, s2.is, s1.rows, s2.rows, rtR_len, A1, A3, C1, C3, E1, E3, L, -Int.natCast_add]
theorem DepsApart_true (iv : V) (l : List In) (hi : Sl iv (inR l)) (y : In) (hy : okI y) (c : Nat) (hc : c < 256) : evI pg .val n_undertowlaw21_DepsApart [iv, .int .u8 (c : Int), .agg (inV y)] [] = some (.bool true, []) := by
  have hS := refSortO y.op hy
  have hT := refTarget_ok y hy
  have hi3 := inR_len l
  by_cases h60 : 60 < l.length
  · have h60' : (60 : Int) < (l.length : Int) := by omega
    simp only [inV]
    rw [s_fn fn_undertowlaw21_DepsApart]
    simp [ir_undertowlaw21_DepsApart, go_sem, alive21, hi.is, hi.rows, hi3, h60', hS, V.cells, splice]
  · have h60' : ¬ (60 : Int) < (l.length : Int) := by omega
    by_cases k3 : srtO y.op = 3
    · rw [k3] at hS
      simp only [inV]
      rw [s_fn fn_undertowlaw21_DepsApart]
      simp [ir_undertowlaw21_DepsApart, go_sem, alive21, hi.is, hi.rows, hi3, h60', hS, V.cells, splice]
    · have k3' : ¬ (srtO y.op : Int) = 3 := by omega
      by_cases k4 : y.op = 4
      · simp only [inV]
        rw [k4] at hS k3 k3' ⊢
        rw [s_fn fn_undertowlaw21_DepsApart]
        simp [ir_undertowlaw21_DepsApart, go_sem, alive21, hi.is, hi.rows, hi3, h60', hS, k3, k3', V.cells, splice]
      · by_cases kt : tgt y = 0
        · by_cases hcl : l.length < c
          · exact DepsApart_main iv l hi y hy (by omega) k3 k4 kt c hc l.length (Nat.le_refl _) (.inl ⟨hcl, rfl⟩)
          · exact DepsApart_main iv l hi y hy (by omega) k3 k4 kt c hc c (by omega) (.inr ⟨hcl, rfl⟩)
        · simp only [inV] at hT ⊢
          rw [s_fn fn_undertowlaw21_DepsApart]
          simp [ir_undertowlaw21_DepsApart, go_sem, alive21, hi.is, hi.rows, hi3, h60', hS, hT, k3, k3', k4, kt, V.cells, splice, loadAt]
theorem law_apart : ∀ vs, PArgs Tryd.prog 8 Tryd.f6.params.toList vs → ∃ k, evF pg k .val 6 vs [] = some (.bool true, []) := by
  intro vs h
  obtain ⟨v1, _, rfl, h1, v2, _, rfl, h2, v3, _, rfl, h3, rfl⟩ := h
  obtain ⟨l, hl, _, _⟩ := arg_ins (n := 5) h1
  obtain ⟨x, rfl, hx⟩ := arg_u8 Tryd.underlying5 h2
  obtain ⟨y, rfl, hy⟩ := arg_in (n := 5) h3
  exact (evI_iff (Go.Vm.hx _ _ _)).1 (DepsApart_true v1 l hl y hy x hx)
end Go.Proofs.YtkdgcgkmgcmaiaaDoor
