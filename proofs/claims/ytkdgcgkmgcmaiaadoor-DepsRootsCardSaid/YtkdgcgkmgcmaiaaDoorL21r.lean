/- DepsRoots (no claim; lemmas). -/
import Derived.Test.YtkdgcgkmgcmaiaaDoorK21p
set_option linter.unusedSimpArgs false
set_option linter.unusedVariables false
namespace Go.Proofs.YtkdgcgkmgcmaiaaDoor
open Go Go.Vm

theorem same_xv (W : Nat) : evI pg .val n_undertowref02_SameInts [xv W, xv W] [] = some (.bool true, []) := by
  have := SameInts_ok (xv W) (xv W) _ _ (xv_sl W) (xv_sl W) (by have := rt_len 512 W; omega)
  simpa using this
section
variable {l : List In} {lv : V} (hl : Sl lv (rtR l)) (hok : ∀ x ∈ l, okI x) (h60 : l.length ≤ 60) (at' r : Int)
include hl h60
theorem DRoots_l0 (k : Nat) (hk : k ≤ l.length) (n : Nat) (hn : 1 ≤ n) (hn2 : n ≤ 32) :
    evCI pg (.loop ir_undertowlaw21_DepsRootsl0) ⟨[.undef, .int .i64 at', .int .i64 r, .undef, lv, .int .i64 (k : Int), .lp 0 0, .int .i64 (n : Int), .undef, .undef, .undef, .undef, .undef, .undef, .undef], ⟨[xc (rAt l k)], [], []⟩⟩ =
      some (.exit 2, ⟨[.undef, .int .i64 at', .int .i64 r, .undef, lv, .int .i64 (k : Int), .lp 0 0, .int .i64 32, .undef, .undef, .undef, .bool false, .undef, .undef, .undef], ⟨[xc (rAt l k)], [], []⟩⟩) := by
  obtain ⟨B, hB⟩ : ∃ B, B = C.loop ir_undertowlaw21_DepsRootsl0 := ⟨_, rfl⟩
  by_cases c : n < 32
  · have e3 := succ_i64 c (by omega)
    have ih := DRoots_l0 k hk (n + 1) (by omega) (by omega)
    have hR : evI pg .val n_deps_Roots [lv, .int .i64 (k : Int), .int .i64 (n : Int)] [] = some (xv (rAt l k n), []) := by
      have := Roots_ok hl (by omega) k hk n hn c 512 rfl
      exact this
    have hx := asIx_nat (k := .i64) c
    have hg := xc_get (rAt l k) c
    have hs := same_xv (rAt l k n)
    have his := xv_is (rAt l k n)
    have c' : (n : Int) < 32 := by omega
    rw [← ih, ← hB]
    conv => lhs; rw [s_loop_at hB]
    generalize xv (rAt l k n) = w at *
    generalize xc (rAt l k) = xs at *
    simp [ir_undertowlaw21_DepsRootsl0, go_sem, c, c', e3, hR, hx, hg, hs, his, hl.is, loadAt, -Int.natCast_add]
  · obtain rfl : n = 32 := by omega
    rw [← hB, s_loop_at hB]
    generalize xc (rAt l k) = xs at *
    simp [ir_undertowlaw21_DepsRootsl0, go_sem, hl.is]
termination_by 32 - n
include hok
theorem DRoots_l1 (k : Nat) (hk : k ≤ l.length + 1) :
    evCI pg (.loop ir_undertowlaw21_DepsRootsl1) ⟨[.undef, .int .i64 at', .int .i64 r, .undef, lv, .int .i64 (k : Int), .undef, .undef, .undef, .undef, .undef, .undef, .undef, .undef, .undef], ⟨[[]], [], []⟩⟩ =
      some (.exit 0, ⟨[.undef, .int .i64 at', .int .i64 r, .undef, lv, .int .i64 ((l.length + 1 : Nat) : Int), .undef, .undef, .undef, .undef, .bool false, .undef, .undef, .undef, .undef], ⟨[[]], [], []⟩⟩) := by
  obtain ⟨B, hB⟩ : ∃ B, B = C.loop ir_undertowlaw21_DepsRootsl1 := ⟨_, rfl⟩
  by_cases c : k ≤ l.length
  · have e3 := succ_i64 (i := k) (n := l.length + 1) (by omega) (by omega)
    have ih := DRoots_l1 (k + 1) (by omega)
    have hR := refRoots_ok hl hok (by omega) k c
    have h0 := DRoots_l0 hl h60 at' r k c 1 (by omega) (by omega)
    rw [Int.natCast_one] at h0
    have hN := Roots_no hl (by omega) (0 : Int) (k : Int) (.inr (.inr (.inl (by omega))))
    have hln := xc_len (rAt l k)
    have ht := xc_take (rAt l k)
    have hl0 := xc_len (fun _ => 0)
    rw [← ih, ← hB]
    conv => lhs; rw [s_loop_at hB]
    simp only [ir_undertowlaw21_DepsRootsl1, ← rep32, xc_zero]
    generalize xc (rAt l k) = xs at *
    generalize xc (fun _ => 0) = x0 at *
    have hd0 : List.drop 32 x0 = [] := List.drop_of_length_le (by omega)
    simp [go_sem, c, e3, hR, h0, hN, hl.is, hl.rows, rtR_len, V.cells, loadAt, evStore, splice, hln, hl0, hd0, -Int.natCast_add]
  · obtain rfl : k = l.length + 1 := by omega
    rw [← hB, s_loop_at hB]
    have h1 : ¬ ((l.length + 1 : Nat) : Int) ≤ (l.length : Int) := by omega
    have h2 : ¬ l.length + 1 ≤ l.length := by omega
    simp [ir_undertowlaw21_DepsRootsl1, go_sem, hl.is, hl.rows, rtR_len, h1, h2, -Int.natCast_add]
termination_by l.length + 1 - k
end
theorem DepsRoots_true (iv : V) (l : List In) (hi : Sl iv (inR l)) (hok : ∀ x ∈ l, okI x) (at' r : Int) : evI pg .val n_undertowlaw21_DepsRoots [iv, .int .i64 at', .int .i64 r] [] = some (.bool true, []) := by
  rw [s_fn fn_undertowlaw21_DepsRoots]
  by_cases h60 : 60 < l.length
  · have h60' : (60 : Int) < (l.length : Int) := by omega
    simp [ir_undertowlaw21_DepsRoots, go_sem, alive21, hi.is, hi.rows, inR_len, h60']
  · have h60' : ¬ (60 : Int) < (l.length : Int) := by omega
    have hr := retired_ok iv l hi (by omega)
    have hs := Sl.ils (rtR l)
    have h := DRoots_l1 hs hok (by omega) at' r 0 (by omega)
    rw [Int.natCast_zero] at h
    generalize ils (rtR l) = lv at *
    by_cases c1 : at' < 0
    · have hN := Roots_no hs (by omega) r at' (.inl c1)
      simp [ir_undertowlaw21_DepsRoots, go_sem, alive21, hi.is, hi.rows, inR_len, h60', hr, hs.is, hs.rows, rtR_len, h, c1, hN, -Int.natCast_add]
    · by_cases c2 : (l.length : Int) < at'
      · have hN := Roots_no hs (by omega) r at' (.inr (.inl c2))
        simp [ir_undertowlaw21_DepsRoots, go_sem, alive21, hi.is, hi.rows, inR_len, h60', hr, hs.is, hs.rows, rtR_len, h, c1, c2, hN, -Int.natCast_add]
      · by_cases c3 : r < 1
        · have hN := Roots_no hs (by omega) r at' (.inr (.inr (.inl c3)))
          simp [ir_undertowlaw21_DepsRoots, go_sem, alive21, hi.is, hi.rows, inR_len, h60', hr, hs.is, hs.rows, rtR_len, h, c1, c2, c3, hN, -Int.natCast_add]
        · by_cases c4 : 31 < r
          · have hN := Roots_no hs (by omega) r at' (.inr (.inr (.inr c4)))
            simp [ir_undertowlaw21_DepsRoots, go_sem, alive21, hi.is, hi.rows, inR_len, h60', hr, hs.is, hs.rows, rtR_len, h, c1, c2, c3, c4, hN, -Int.natCast_add]
          · simp [ir_undertowlaw21_DepsRoots, go_sem, alive21, hi.is, hi.rows, inR_len, h60', hr, hs.is, hs.rows, rtR_len, h, c1, c2, c3, c4, -Int.natCast_add]
theorem law_roots : ∀ vs, PArgs Tryd.prog 8 Tryd.f4.params.toList vs → ∃ k, evF pg k .val 4 vs [] = some (.bool true, []) := by
  intro vs h
  obtain ⟨v1, _, rfl, h1, v2, _, rfl, h2, v3, _, rfl, h3, rfl⟩ := h
  obtain ⟨l, hl, _, hok⟩ := arg_ins (n := 5) h1
  obtain ⟨a, rfl, _⟩ := arg_i64 Tryd.underlying3 h2
  obtain ⟨b, rfl, _⟩ := arg_i64 Tryd.underlying3 h3
  exact (evI_iff (Go.Vm.hx _ _ _)).1 (DepsRoots_true v1 l hl hok a b)
end Go.Proofs.YtkdgcgkmgcmaiaaDoor
