/- Layer 3: fair picks, by the program and by the document (no claim; lemmas). -/
import Derived.Test.YtgcahipcbidojaaK03a
set_option linter.unusedSimpArgs false
set_option linter.unusedVariables false
namespace Go.Proofs.Ytgcahipcbidojaa
open Go Go.Vm

theorem okP_get {l : List Pk} (h : okP l) {i : Nat} (hi : i < l.length) : (l[i]).at_ < 18446744073709551616 := h _ (List.getElem_mem _)
theorem has_cons (c u : Int) (p : Pk) (l : List Pk) : has c u (p :: l) = (decide (p.core = c) && (decide (p.unit = u) && old p.at_) || has c u l) := by simp [has]
section
variable (v : V) (l : List Pk) (hv : Sl v (pkR l)) (hok : okP l) (hL : l.length ≤ 4000)
include hv hok hL
omit hok hL in
theorem pkg {i : Nat} (h : i < l.length) (m : Mem) : iaSV 3 m v (.int .i64 (i : Int)) = some (.ip (tg v) (pkV l[i]) 0) := by
  have := hv.ia (sz := 3) m .i64 (i := i) (by rw [pkR_len]; exact h) (pkR_sz _ _ (List.getElem_mem _))
  rwa [pkR_el] at this
theorem whole_loop0 (c c' u u' : Int) (i : Nat) (hi : i ≤ l.length) :
    ∃ i' : Int, evCI pg (.loop ir_choose_wholel0) ⟨[v, .undef, .int .i64 c, .int .i64 u, .undef, .int .i64 c', .undef, .int .i64 u', .undef, v, .int .i64 (l.length : Int), .int .i64 (i : Int), .undef, .undef], ⟨[[]], [], []⟩⟩ =
      some (if has c u (l.drop i) = true then (.exit 3, ⟨[v, .undef, .int .i64 c, .int .i64 u, .undef, .int .i64 c', .undef, .int .i64 u', .undef, v, .int .i64 (l.length : Int), .int .i64 i', .undef, .bool true], ⟨[[]], [], []⟩⟩)
        else (.exit 4, ⟨[v, .undef, .int .i64 c, .int .i64 u, .undef, .int .i64 c', .undef, .int .i64 u', .undef, v, .int .i64 (l.length : Int), .int .i64 (l.length : Int), .bool false, .undef], ⟨[[]], [], []⟩⟩)) := by
  obtain ⟨B, hB⟩ : ∃ B, B = C.loop ir_choose_wholel0 := ⟨_, rfl⟩
  by_cases h : i < l.length
  · have e1 := fun m => pkg v l hv h m
    have e3 := succ_i64 h (by omega)
    have hO := Oldest_ok l[i].at_ (okP_get hok h)
    obtain ⟨i', ih⟩ := whole_loop0 c c' u u' (i + 1) (by omega)
    rw [List.drop_eq_getElem_cons h, has_cons]
    have hp : pkV l[i] = [.int .i64 l[i].core, .int .i64 l[i].unit, .flt l[i].at_] := rfl
    rw [hp] at e1
    by_cases c1 : (decide (l[i].core = c) && (decide (l[i].unit = u) && old l[i].at_)) = true
    · refine ⟨(i : Int), ?_⟩
      rw [c1, Bool.true_or, if_pos rfl, ← hB, s_loop_at hB]
      simp only [Bool.and_eq_true, decide_eq_true_eq] at c1
      obtain ⟨d1, d2, d3⟩ := c1
      rw [d3] at hO
      simp [ir_choose_wholel0, go_sem, hv.is, hv.rows, pkR_len, h, e1, hO, d1, d2]
    · refine ⟨i', ?_⟩
      have c1' : (decide (l[i].core = c) && (decide (l[i].unit = u) && old l[i].at_)) = false := by simpa using c1
      rw [c1', Bool.false_or, ← ih, ← hB]
      conv => lhs; rw [s_loop_at hB]
      by_cases d1 : l[i].core = c
      · by_cases d2 : l[i].unit = u
        · have d3 : old l[i].at_ = false := by simpa [d1, d2] using c1'
          rw [d3] at hO
          simp [ir_choose_wholel0, go_sem, hv.is, hv.rows, pkR_len, h, e1, e3, hO, d1, d2, -Int.natCast_add]
        · simp [ir_choose_wholel0, go_sem, hv.is, hv.rows, pkR_len, h, e1, e3, d1, d2, -Int.natCast_add]
      · simp [ir_choose_wholel0, go_sem, hv.is, hv.rows, pkR_len, h, e1, e3, d1, -Int.natCast_add]
  · obtain rfl : i = l.length := by omega
    refine ⟨0, ?_⟩
    rw [← hB, s_loop_at hB, List.drop_length]
    simp [ir_choose_wholel0, go_sem, hv.is, hv.rows, pkR_len, has]
termination_by l.length - i
theorem whole_loop1 (c c' : Int) (u : Nat) (hu : u ≤ 6) :
    evCI pg (.loop ir_choose_wholel1) ⟨[v, .undef, .int .i64 c, .undef, .undef, .int .i64 c', .undef, .int .i64 (u : Int), .undef, .undef, .undef, .undef, .undef, .undef], ⟨[[]], [], []⟩⟩ =
      some (if uAll (fun u => has c (u : Int) l) 6 u = true then (.exit 2, ⟨[v, .undef, .int .i64 c, .undef, .undef, .int .i64 c', .undef, .int .i64 6, .bool false, .undef, .undef, .undef, .undef, .undef], ⟨[[]], [], []⟩⟩)
        else (.ret, ⟨[.undef, .bool false, .undef, .undef, .undef, .undef, .undef, .undef, .undef, .undef, .undef, .undef, .undef, .undef], ⟨[[]], [], []⟩⟩)) := by
  obtain ⟨B, hB⟩ : ∃ B, B = C.loop ir_choose_wholel1 := ⟨_, rfl⟩
  by_cases h : u < 6
  · obtain ⟨i', h0⟩ := whole_loop0 v l hv hok hL c c' (u : Int) (u : Int) 0 (by omega)
    rw [List.drop_zero, Int.natCast_zero] at h0
    have ih := whole_loop1 c c' (u + 1) (by omega)
    have e3 := succ_i64 h (by omega)
    have h' : (u : Int) < 6 := by omega
    rw [uAll_at h, ← hB, s_loop_at hB]
    rw [← hB] at ih
    by_cases d : has c (u : Int) l = true
    · rw [if_pos d] at h0
      rw [d, Bool.true_and]
      simp [ir_choose_wholel1, go_sem, hv.is, hv.rows, pkR_len, h', e3, h0, ih, -Int.natCast_add]
    · rw [if_neg d] at h0
      have d' : has c (u : Int) l = false := by simpa using d
      rw [d', Bool.false_and]
      simp [ir_choose_wholel1, go_sem, hv.is, hv.rows, pkR_len, h', e3, h0, -Int.natCast_add]
  · obtain rfl : u = 6 := by omega
    rw [uAll_end, ← hB, s_loop_at hB]
    simp [ir_choose_wholel1, go_sem, hv.is, hv.rows, pkR_len]
termination_by 6 - u
theorem whole_loop2 (c : Nat) (hc : c ≤ 3) :
    evCI pg (.loop ir_choose_wholel2) ⟨[v, .undef, .undef, .undef, .undef, .int .i64 (c : Int), .undef, .undef, .undef, .undef, .undef, .undef, .undef, .undef], ⟨[[]], [], []⟩⟩ =
      some (if uAll (fun c => uAll (fun u => has (c : Int) (u : Int) l) 6 0) 3 c = true then (.exit 0, ⟨[v, .undef, .undef, .undef, .undef, .int .i64 3, .bool false, .undef, .undef, .undef, .undef, .undef, .undef, .undef], ⟨[[]], [], []⟩⟩)
        else (.ret, ⟨[.undef, .bool false, .undef, .undef, .undef, .undef, .undef, .undef, .undef, .undef, .undef, .undef, .undef, .undef], ⟨[[]], [], []⟩⟩)) := by
  obtain ⟨B, hB⟩ : ∃ B, B = C.loop ir_choose_wholel2 := ⟨_, rfl⟩
  by_cases h : c < 3
  · have h0 := whole_loop1 v l hv hok hL (c : Int) (c : Int) 0 (by omega)
    rw [Int.natCast_zero] at h0
    have ih := whole_loop2 (c + 1) (by omega)
    have e3 := succ_i64 h (by omega)
    have h' : (c : Int) < 3 := by omega
    rw [uAll_at h, ← hB, s_loop_at hB]
    rw [← hB] at ih
    by_cases d : uAll (fun u => has (c : Int) (u : Int) l) 6 0 = true
    · rw [if_pos d] at h0
      rw [d, Bool.true_and]
      simp [ir_choose_wholel2, go_sem, hv.is, hv.rows, pkR_len, h', e3, h0, ih, -Int.natCast_add]
    · rw [if_neg d] at h0
      have d' : uAll (fun u => has (c : Int) (u : Int) l) 6 0 = false := by simpa using d
      rw [d', Bool.false_and]
      simp [ir_choose_wholel2, go_sem, hv.is, hv.rows, pkR_len, h', e3, h0, -Int.natCast_add]
  · obtain rfl : c = 3 := by omega
    rw [uAll_end, ← hB, s_loop_at hB]
    simp [ir_choose_wholel2, go_sem, hv.is, hv.rows, pkR_len]
termination_by 3 - c
theorem whole_ok : evI pg .val n_choose_whole [v] [] = some (.bool (whl l), []) := by
  have h := whole_loop2 v l hv hok hL 0 (by omega)
  rw [Int.natCast_zero] at h
  rw [s_fn fn_choose_whole]
  unfold whl
  by_cases d : uAll (fun c => uAll (fun u => has (c : Int) (u : Int) l) 6 0) 3 0 = true
  · rw [if_pos d] at h
    rw [d]
    simp [ir_choose_whole, go_sem, hv.is, h]
  · rw [if_neg d] at h
    have d' : uAll (fun c => uAll (fun u => has (c : Int) (u : Int) l) 6 0) 3 0 = false := by simpa using d
    rw [d']
    simp [ir_choose_whole, go_sem, hv.is, h]
end
/-- How many runs are whole. -/
def wins (n : Nat) (w : Int) : Nat := if w < 1 then 0 else n / w.toNat
theorem Windows_ok (v : V) (l : List Pk) (hv : Sl v (pkR l)) (hL : l.length ≤ 4000) (w : Int) (hw : w ≤ 9223372036854775807) : evI pg .val n_choose_Windows [v, .int .i64 w] [] = some (.int .i64 (wins l.length w : Nat), []) := by
  rw [s_fn fn_choose_Windows]
  unfold wins
  by_cases h : w < 1
  · simp [ir_choose_Windows, go_sem, hv.is, hv.rows, pkR_len, h]
  · obtain ⟨k, rfl⟩ : ∃ k : Nat, w = k := ⟨w.toNat, by omega⟩
    have e : (l.length : Int).tdiv (k : Int) = ((l.length / k : Nat) : Int) := rfl
    have h0 : ¬ k = 0 := by omega
    have hq := Nat.div_le_self l.length k
    rw [show (if (k : Int) < 1 then 0 else l.length / (k : Int).toNat) = l.length / k by rw [if_neg h]; rfl]
    revert e hq
    generalize l.length / k = q
    intro e hq
    have e2 : IntKind.i64.wrap (q : Int) = (q : Int) := wrap_i64 (by omega) (by omega)
    simp [ir_choose_Windows, go_sem, hv.is, hv.rows, pkR_len, h, e, h0, e2]
/-- Is every run whole, from one on? -/
def frs (l : List Pk) (w n i : Nat) : Bool := uAll (fun k => whl ((l.drop (k * w)).take w)) n i
theorem Fair_loop (l : List Pk) (hok : okP l) (hL : l.length ≤ 4000) (w n : Nat) (hn : n * w ≤ l.length) (hn2 : n ≤ 4000) (hw : w ≤ 9223372036854775807) (i : Nat) (hi : i ≤ n) (u : V) (hu : Sl u (pkR (l.drop (i * w)))) :
    ∃ u', Sl u' (pkR (l.drop (n * w))) ∧ evCI pg (.loop ir_choose_Fairl0) ⟨[u, .int .i64 (w : Int), .undef, .int .i64 (n : Int), .int .i64 (i : Int), .undef, .undef], ⟨[], [], []⟩⟩ =
      some (if frs l w n i = true then (.exit 0, ⟨[u', .int .i64 (w : Int), .undef, .int .i64 (n : Int), .int .i64 (n : Int), .bool false, .undef], ⟨[], [], []⟩⟩)
        else (.ret, ⟨[.undef, .undef, .bool false, .undef, .undef, .undef, .undef], ⟨[], [], []⟩⟩)) := by
  obtain ⟨B, hB⟩ : ∃ B, B = C.loop ir_choose_Fairl0 := ⟨_, rfl⟩
  by_cases h : i < n
  · have hmul : (i + 1) * w ≤ n * w := Nat.mul_le_mul_right _ h
    have hs1 : (i + 1) * w = i * w + w := Nat.succ_mul i w
    have hlen : (pkR (l.drop (i * w))).length = l.length - i * w := by rw [pkR_len]; simp
    obtain ⟨u1, s1, s1'⟩ := hu.slc (sz := 3) ⟨[], [], []⟩ none (some (.int .i64 (w : Int))) (l := 0) (k := w) (by omega) (pkR_sz _) (bnd_hi (by omega))
    obtain ⟨u2, s2, s2'⟩ := hu.slc (sz := 3) ⟨[], [], []⟩ (some (.int .i64 (w : Int))) none (l := w) (k := l.length - i * w) (by omega) (pkR_sz _) (by rw [hlen]; exact bnd_lo (by omega))
    have r1 : ((pkR (l.drop (i * w))).take w).drop 0 = pkR ((l.drop (i * w)).take w) := by simp [pkR, List.map_take]
    have r2 : ((pkR (l.drop (i * w))).take (l.length - i * w)).drop w = pkR (l.drop ((i + 1) * w)) := by
      rw [← hlen, List.take_length, hs1]
      simp [pkR, List.map_drop, List.drop_drop]
    rw [r1] at s1'
    rw [r2] at s2'
    obtain ⟨u', q1, ih⟩ := Fair_loop l hok hL w n hn hn2 hw (i + 1) (by omega) u2 s2'
    refine ⟨u', q1, ?_⟩
    have hW := whole_ok u1 _ s1' (fun p hp => hok p (List.mem_of_mem_drop (List.mem_of_mem_take hp))) (by simp; omega)
    have e3 := succ_i64 h (by omega)
    rw [← hB] at ih
    unfold frs
    rw [uAll_at h, ← hB, s_loop_at hB]
    by_cases d : whl ((l.drop (i * w)).take w) = true
    · rw [d] at hW
      rw [d, Bool.true_and]
      have ih' := ih
      unfold frs at ih'
      simp [ir_choose_Fairl0, go_sem, hu.is, h, s1, s2, s1'.is, s2'.is, hW, e3, ih', unV, -Int.natCast_add, -Int.natCast_mul]
    · have d' : whl ((l.drop (i * w)).take w) = false := by simpa using d
      rw [d'] at hW
      rw [d', Bool.false_and]
      simp [ir_choose_Fairl0, go_sem, hu.is, h, s1, s2, s1'.is, s2'.is, hW, e3, unV, -Int.natCast_add, -Int.natCast_mul]
  · obtain rfl : i = n := by omega
    refine ⟨u, hu, ?_⟩
    unfold frs
    rw [uAll_end, ← hB, s_loop_at hB]
    simp [ir_choose_Fairl0, go_sem, hu.is]
termination_by n - i
def fair (l : List Pk) (w : Int) : Bool := decide (1 ≤ w) && frs l w.toNat (wins l.length w) 0
theorem wins_le (n : Nat) (w : Int) : wins n w ≤ n ∧ wins n w * w.toNat ≤ n := by
  unfold wins
  split
  · omega
  · exact ⟨Nat.div_le_self _ _, Nat.div_mul_le_self _ _⟩
theorem Fair_ok (v : V) (l : List Pk) (hv : Sl v (pkR l)) (hok : okP l) (hL : l.length ≤ 4000) (w : Int) (hw : w ≤ 9223372036854775807) (hw' : -9223372036854775808 ≤ w) : evI pg .val n_choose_Fair [v, .int .i64 w] [] = some (.bool (fair l w), []) := by
  have hW := Windows_ok v l hv hL w hw
  obtain ⟨q1, q2⟩ := wins_le l.length w
  rw [s_fn fn_choose_Fair]
  unfold fair
  by_cases h1 : 1 ≤ w
  · obtain ⟨k, rfl⟩ : ∃ k : Nat, w = k := ⟨w.toNat, by omega⟩
    obtain ⟨u', hu', hl⟩ := Fair_loop l hok hL k (wins l.length (k : Int)) (by simpa using q2) (by omega) (by omega) 0 (by omega) v (by simpa using hv)
    rw [Int.natCast_zero] at hl
    by_cases d : frs l k (wins l.length (k : Int)) 0 = true
    · rw [if_pos d] at hl
      simp [ir_choose_Fair, go_sem, hv.is, hW, hl, hu'.is, h1, d]
    · rw [if_neg d] at hl
      have d' : frs l k (wins l.length (k : Int)) 0 = false := by simpa using d
      simp [ir_choose_Fair, go_sem, hv.is, hW, hl, hu'.is, h1, d']
  · have e0 : wins l.length w = 0 := by unfold wins; rw [if_pos (by omega)]
    rw [e0] at hW
    simp only [Int.natCast_zero, Int.cast_ofNat_Int] at hW
    obtain ⟨B, hB⟩ : ∃ B, B = C.loop ir_choose_Fairl0 := ⟨_, rfl⟩
    have hl : evCI pg B ⟨[v, .int .i64 w, .undef, .int .i64 0, .int .i64 0, .undef, .undef], ⟨[], [], []⟩⟩ = some (.exit 0, ⟨[v, .int .i64 w, .undef, .int .i64 0, .int .i64 0, .bool false, .undef], ⟨[], [], []⟩⟩) := by
      rw [s_loop_at hB]
      simp [ir_choose_Fairl0, go_sem, hv.is]
    rw [hB] at hl
    simp [ir_choose_Fair, go_sem, hv.is, hW, hl, h1]
end Go.Proofs.Ytgcahipcbidojaa
