/- Layer 3: fair picks by the document; what is handed to the laws (no claim; lemmas). -/
import Derived.Test.YtgcahipcbidojaaK03b
set_option linter.unusedSimpArgs false
set_option linter.unusedVariables false
namespace Go.Proofs.Ytgcahipcbidojaa
open Go Go.Vm

section
variable (v : V) (l : List Pk) (hv : Sl v (pkR l)) (hok : okP l) (hL : l.length ≤ 4000) (w : Nat) (hw : w ≤ 9223372036854775807) (h1 : 1 ≤ w)
include hv hok hL hw h1
theorem refFair_loop0 (k : Nat) (hk : (k + 1) * w ≤ l.length) (c u : Int) (i : Nat) (hi : i ≤ w) (t : Bool) :
    evCI pg (.loop ir_undertowref03_Fairl0) ⟨[v, .int .i64 (w : Int), .undef, .int .i64 (k : Int), .int .i64 c, .int .i64 u, .bool t, .int .i64 (i : Int), .undef, .undef, .undef, .undef, .undef, .undef, .undef], ⟨[[]], [], []⟩⟩ =
      some (.exit 6, ⟨[v, .int .i64 (w : Int), .undef, .int .i64 (k : Int), .int .i64 c, .int .i64 u, .bool (t || has c u ((l.drop (k * w + i)).take (w - i))), .int .i64 (w : Int), .undef, .undef, .undef, .undef, .undef, .bool false, .undef], ⟨[[]], [], []⟩⟩) := by
  obtain ⟨B, hB⟩ : ∃ B, B = C.loop ir_undertowref03_Fairl0 := ⟨_, rfl⟩
  have hs1 : (k + 1) * w = k * w + w := Nat.succ_mul k w
  by_cases h : i < w
  · have hin : k * w + i < l.length := by omega
    have e1 := fun m => pkg v l hv hin m
    have e3 := succ_i64 h (by omega)
    have hO := refOldest_ok l[k * w + i].at_ (okP_get hok hin)
    have hp : pkV l[k * w + i] = [.int .i64 l[k * w + i].core, .int .i64 l[k * w + i].unit, .flt l[k * w + i].at_] := rfl
    rw [hp] at e1
    have em : IntKind.i64.wrap ((k : Int) * (w : Int)) = ((k * w : Nat) : Int) := by rw [← Int.natCast_mul]; exact wrap_i64 (by omega) (by omega)
    have ea : IntKind.i64.wrap (((k * w : Nat) : Int) + (i : Int)) = ((k * w + i : Nat) : Int) := by rw [wrap_i64 (by omega) (by omega)]; rfl
    have ed : (l.drop (k * w + i)).take (w - i) = l[k * w + i] :: (l.drop (k * w + (i + 1))).take (w - (i + 1)) := by
      rw [List.drop_eq_getElem_cons hin, show w - i = (w - (i + 1)) + 1 by omega, List.take_succ_cons]
      rfl
    have ih := refFair_loop0 k hk c u (i + 1) (by omega)
    rw [ed, has_cons]
    rw [← hB] at ih
    rw [← hB, s_loop_at hB]
    cases t with
    | true =>
      have ih1 := ih true
      simp only [Bool.true_or] at ih1 ⊢
      simp [ir_undertowref03_Fairl0, go_sem, hv.is, hv.rows, pkR_len, h, e1, e3, em, ea, ih1, -Int.natCast_add, -Int.natCast_mul]
    | false =>
      have ih1 := ih (decide (l[k * w + i].core = c) && (decide (l[k * w + i].unit = u) && old l[k * w + i].at_))
      simp only [Bool.false_or] at ih1 ⊢
      rw [← ih1]
      by_cases d1 : l[k * w + i].core = c
      · by_cases d2 : l[k * w + i].unit = u
        · simp [ir_undertowref03_Fairl0, go_sem, hv.is, hv.rows, pkR_len, h, e1, e3, em, ea, hO, d1, d2, -Int.natCast_add, -Int.natCast_mul]
        · simp [ir_undertowref03_Fairl0, go_sem, hv.is, hv.rows, pkR_len, h, e1, e3, em, ea, d1, d2, -Int.natCast_add, -Int.natCast_mul]
      · simp [ir_undertowref03_Fairl0, go_sem, hv.is, hv.rows, pkR_len, h, e1, e3, em, ea, d1, -Int.natCast_add, -Int.natCast_mul]
  · obtain rfl : i = w := by omega
    rw [← hB, s_loop_at hB, Nat.sub_self, List.take_zero]
    simp [ir_undertowref03_Fairl0, go_sem, hv.is, hv.rows, pkR_len, has]
termination_by w - i
theorem refFair_loop1 (k : Nat) (hk : (k + 1) * w ≤ l.length) (c : Int) (u : Nat) (hu : u ≤ 6) :
    evCI pg (.loop ir_undertowref03_Fairl1) ⟨[v, .int .i64 (w : Int), .undef, .int .i64 (k : Int), .int .i64 c, .int .i64 (u : Int), .undef, .undef, .undef, .undef, .undef, .undef, .undef, .undef, .undef], ⟨[[]], [], []⟩⟩ =
      some (if uAll (fun u => has c (u : Int) ((l.drop (k * w)).take w)) 6 u = true then (.exit 4, ⟨[v, .int .i64 (w : Int), .undef, .int .i64 (k : Int), .int .i64 c, .int .i64 6, .undef, .undef, .undef, .undef, .undef, .undef, .bool false, .undef, .undef], ⟨[[]], [], []⟩⟩)
        else (.ret, ⟨[.undef, .undef, .bool false, .undef, .undef, .undef, .undef, .undef, .undef, .undef, .undef, .undef, .undef, .undef, .undef], ⟨[[]], [], []⟩⟩)) := by
  obtain ⟨B, hB⟩ : ∃ B, B = C.loop ir_undertowref03_Fairl1 := ⟨_, rfl⟩
  by_cases h : u < 6
  · have h0 := refFair_loop0 v l hv hok hL w hw h1 k hk c (u : Int) 0 (by omega) false
    rw [Nat.add_zero, Nat.sub_zero, Bool.false_or, Int.natCast_zero] at h0
    have ih := refFair_loop1 k hk c (u + 1) (by omega)
    have e3 := succ_i64 h (by omega)
    have h' : (u : Int) < 6 := by omega
    rw [uAll_at h, ← hB, s_loop_at hB]
    rw [← hB] at ih
    by_cases d : has c (u : Int) ((l.drop (k * w)).take w) = true
    · rw [d] at h0
      rw [d, Bool.true_and]
      simp [ir_undertowref03_Fairl1, go_sem, hv.is, h', e3, h0, ih, unV, -Int.natCast_add]
    · have d' : has c (u : Int) ((l.drop (k * w)).take w) = false := by simpa using d
      rw [d'] at h0
      rw [d', Bool.false_and]
      simp [ir_undertowref03_Fairl1, go_sem, hv.is, h', e3, h0, unV, -Int.natCast_add]
  · obtain rfl : u = 6 := by omega
    rw [uAll_end, ← hB, s_loop_at hB]
    simp [ir_undertowref03_Fairl1, go_sem, hv.is]
termination_by 6 - u
theorem refFair_loop2 (k : Nat) (hk : (k + 1) * w ≤ l.length) (c : Nat) (hc : c ≤ 3) :
    evCI pg (.loop ir_undertowref03_Fairl2) ⟨[v, .int .i64 (w : Int), .undef, .int .i64 (k : Int), .int .i64 (c : Int), .undef, .undef, .undef, .undef, .undef, .undef, .undef, .undef, .undef, .undef], ⟨[[]], [], []⟩⟩ =
      some (if uAll (fun c => uAll (fun u => has (c : Int) (u : Int) ((l.drop (k * w)).take w)) 6 0) 3 c = true then (.exit 2, ⟨[v, .int .i64 (w : Int), .undef, .int .i64 (k : Int), .int .i64 3, .undef, .undef, .undef, .undef, .undef, .undef, .bool false, .undef, .undef, .undef], ⟨[[]], [], []⟩⟩)
        else (.ret, ⟨[.undef, .undef, .bool false, .undef, .undef, .undef, .undef, .undef, .undef, .undef, .undef, .undef, .undef, .undef, .undef], ⟨[[]], [], []⟩⟩)) := by
  obtain ⟨B, hB⟩ : ∃ B, B = C.loop ir_undertowref03_Fairl2 := ⟨_, rfl⟩
  by_cases h : c < 3
  · have h0 := refFair_loop1 v l hv hok hL w hw h1 k hk (c : Int) 0 (by omega)
    rw [Int.natCast_zero] at h0
    have ih := refFair_loop2 k hk (c + 1) (by omega)
    have e3 := succ_i64 h (by omega)
    have h' : (c : Int) < 3 := by omega
    rw [uAll_at h, ← hB, s_loop_at hB]
    rw [← hB] at ih
    by_cases d : uAll (fun u => has (c : Int) (u : Int) ((l.drop (k * w)).take w)) 6 0 = true
    · rw [if_pos d] at h0
      rw [d, Bool.true_and]
      simp [ir_undertowref03_Fairl2, go_sem, hv.is, h', e3, h0, ih, -Int.natCast_add]
    · rw [if_neg d] at h0
      have d' : uAll (fun u => has (c : Int) (u : Int) ((l.drop (k * w)).take w)) 6 0 = false := by simpa using d
      rw [d', Bool.false_and]
      simp [ir_undertowref03_Fairl2, go_sem, hv.is, h', e3, h0, -Int.natCast_add]
  · obtain rfl : c = 3 := by omega
    rw [uAll_end, ← hB, s_loop_at hB]
    simp [ir_undertowref03_Fairl2, go_sem, hv.is]
termination_by 3 - c
theorem refFair_loop3 (k : Nat) (hk : k ≤ l.length / w) :
    evCI pg (.loop ir_undertowref03_Fairl3) ⟨[v, .int .i64 (w : Int), .undef, .int .i64 (k : Int), .undef, .undef, .undef, .undef, .undef, .undef, .undef, .undef, .undef, .undef, .undef], ⟨[[]], [], []⟩⟩ =
      some (if frs l w (l.length / w) k = true then (.exit 0, ⟨[v, .int .i64 (w : Int), .undef, .int .i64 ((l.length / w : Nat) : Int), .undef, .undef, .undef, .undef, .undef, .undef, .bool false, .undef, .undef, .undef, .undef], ⟨[[]], [], []⟩⟩)
        else (.ret, ⟨[.undef, .undef, .bool false, .undef, .undef, .undef, .undef, .undef, .undef, .undef, .undef, .undef, .undef, .undef, .undef], ⟨[[]], [], []⟩⟩)) := by
  obtain ⟨B, hB⟩ : ∃ B, B = C.loop ir_undertowref03_Fairl3 := ⟨_, rfl⟩
  have e : (l.length : Int).tdiv (w : Int) = ((l.length / w : Nat) : Int) := rfl
  have hdm : (l.length / w) * w ≤ l.length := Nat.div_mul_le_self _ _
  have hdl := Nat.div_le_self l.length w
  have h0w : ¬ w = 0 := by omega
  have e2 : IntKind.i64.wrap (((l.length / w : Nat) : Int)) = ((l.length / w : Nat) : Int) := by
    revert hdl
    generalize l.length / w = q
    intro hdl
    exact wrap_i64 (by omega) (by omega)
  by_cases h : k < l.length / w
  · have hk1 : (k + 1) * w ≤ l.length := Nat.le_trans (Nat.mul_le_mul_right _ h) hdm
    have h0 := refFair_loop2 v l hv hok hL w hw h1 k hk1 0 (by omega)
    rw [Int.natCast_zero] at h0
    have ih := refFair_loop3 (k + 1) h
    have e3 := succ_i64 h (by omega)
    unfold frs at ih ⊢
    rw [uAll_at h, ← hB, s_loop_at hB]
    rw [← hB] at ih
    unfold whl at ih ⊢
    revert e e2 h ih
    generalize l.length / w = q
    intro e e2 h ih
    by_cases d : uAll (fun c => uAll (fun u => has (c : Int) (u : Int) ((l.drop (k * w)).take w)) 6 0) 3 0 = true
    · rw [if_pos d] at h0
      rw [d, Bool.true_and]
      simp [ir_undertowref03_Fairl3, go_sem, hv.is, hv.rows, pkR_len, h, e, e2, h0w, e3, h0, ih, -Int.natCast_add]
    · rw [if_neg d] at h0
      have d' : uAll (fun c => uAll (fun u => has (c : Int) (u : Int) ((l.drop (k * w)).take w)) 6 0) 3 0 = false := by simpa using d
      rw [d', Bool.false_and]
      simp [ir_undertowref03_Fairl3, go_sem, hv.is, hv.rows, pkR_len, h, e, e2, h0w, e3, h0, -Int.natCast_add]
  · obtain rfl : k = l.length / w := by omega
    unfold frs
    rw [uAll_end, ← hB, s_loop_at hB]
    revert e e2
    generalize l.length / w = q
    intro e e2
    simp [ir_undertowref03_Fairl3, go_sem, hv.is, hv.rows, pkR_len, e, e2, h0w]
termination_by l.length / w - k
end
theorem refFair_ok (v : V) (l : List Pk) (hv : Sl v (pkR l)) (hok : okP l) (hL : l.length ≤ 4000) (w : Int) (hw : w ≤ 9223372036854775807) : evI pg .val n_undertowref03_Fair [v, .int .i64 w] [] = some (.bool (fair l w), []) := by
  rw [s_fn fn_undertowref03_Fair]
  unfold fair wins
  by_cases h : w < 1
  · have h' : ¬ 1 ≤ w := by omega
    simp [ir_undertowref03_Fair, go_sem, hv.is, h, h']
  · obtain ⟨k, rfl⟩ : ∃ k : Nat, w = k := ⟨w.toNat, by omega⟩
    have h' : 1 ≤ (k : Int) := by omega
    have hl := refFair_loop3 v l hv hok hL k (by omega) (by omega) 0 (Nat.zero_le _)
    rw [Int.natCast_zero] at hl
    rw [if_neg h, decide_eq_true h', Bool.true_and, Int.toNat_natCast]
    by_cases d : frs l k (l.length / k) 0 = true
    · rw [if_pos d] at hl
      rw [d]
      simp [ir_undertowref03_Fair, go_sem, hv.is, h, hl]
    · rw [if_neg d] at hl
      have d' : frs l k (l.length / k) 0 = false := by simpa using d
      rw [d']
      simp [ir_undertowref03_Fair, go_sem, hv.is, h, hl]
/-! ### what is handed -/
theorem pk_of {n : Nat} {q : List V} (h : PV Try.prog (n + 2) 28 q) : ∃ p : Pk, q = pkV p ∧ p.at_ < 18446744073709551616 := by
  obtain ⟨_, _, rfl, h1, _, _, rfl, h2, _, _, rfl, h3, rfl⟩ := pv_struct Try.underlying28 h
  obtain ⟨c, e1, _⟩ := pv_i64 Try.underlying3 h1
  obtain ⟨u, e2, _⟩ := pv_i64 Try.underlying3 h2
  obtain ⟨b, e3, hb⟩ := pv_flt Try.underlying22 h3
  cases e1; cases e2; cases e3
  exact ⟨⟨c, u, b⟩, rfl, by simpa [Lit.wf, FloatKind.format] using hb⟩
theorem pks_of {n : Nat} : ∀ (es : List (List V)), (∀ q ∈ es, PV Try.prog (n + 2) 28 q) → ∃ l, es = pkR l ∧ okP l
  | [], _ => ⟨[], rfl, by simp [okP]⟩
  | q :: es, h => by
    obtain ⟨p, rfl, hp⟩ := pk_of (h q (by simp))
    obtain ⟨l, rfl, hl⟩ := pks_of es fun q hq => h q (by simp [hq])
    exact ⟨p :: l, rfl, fun x hx => by rcases List.mem_cons.1 hx with rfl | hx; exact hp; exact hl x hx⟩
theorem arg_pks {n : Nat} {v : V} (h : ArgPV Try.prog (n + 3) 31 v) : ∃ l, Sl v (pkR l) ∧ okP l := by
  rcases arg_slice Try.underlying31 h with rfl | ⟨es, rfl, _, hr⟩
  · exact ⟨[], .nils, by simp [okP]⟩
  · obtain ⟨l, rfl, hl⟩ := pks_of es hr
    exact ⟨l, .isl _ _, hl⟩
theorem alive03 : evI pg .val n_undertowlaw03_alive [] [] = some (.bool true, []) := closed irL_ok 2500 (by kernel_rfl)
end Go.Proofs.Ytgcahipcbidojaa
