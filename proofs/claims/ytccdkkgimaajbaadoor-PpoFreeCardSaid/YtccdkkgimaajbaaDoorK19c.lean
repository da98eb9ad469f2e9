/- Layer 19: a relation's pairs (no claim; lemmas). -/
import Derived.Test.YtccdkkgimaajbaaDoorK19b
set_option linter.unusedSimpArgs false
set_option linter.unusedVariables false
namespace Go.Proofs.YtccdkkgimaajbaaDoor
open Go Go.Vm

def pR (l : List (Int × Int)) : List (List V) := l.map fun q => [.int .i64 q.1, .int .i64 q.2]
theorem pR_len (l : List (Int × Int)) : (pR l).length = l.length := by simp [pR]
theorem pR_el (l : List (Int × Int)) (i : Nat) (h : i < (pR l).length) : (pR l)[i] = [.int .i64 (l[i]'(by simpa [pR] using h)).1, .int .i64 (l[i]'(by simpa [pR] using h)).2] := by simp [pR]
theorem pR_clean (l : List (Int × Int)) : CleanR (pR l) := by
  intro q hq x hx
  obtain ⟨n, _, rfl⟩ := List.mem_map.1 hq
  simp at hx
  rcases hx with rfl | rfl <;> rfl
theorem app_oneP {m : Mem} {l : List (Int × Int)} {x y : Int} (ht : m.tk[0]? = some l.length) (hl : l.length ≤ 1000000) :
    appV 2 2 16 m (.osl false 0 (pR l)) (.els [[.int .i64 x, .int .i64 y]]) = some (.osl false 0 (pR (l ++ [(x, y)])), { m with tk := m.tk.set 0 (l.length + 1) }) := by
  have e : pR (l ++ [(x, y)]) = pR l ++ [[.int .i64 x, .int .i64 y]] := by simp [pR]
  have h1 : immAll (pR l ++ [[.int .i64 x, .int .i64 y]]) = true := by simp [immAll, pR, V.imm]
  have h2 : szAll 2 (pR l ++ [[.int .i64 x, .int .i64 y]]) = true := by simp [szAll, pR]
  unfold appV
  simp only [srcV, List.length_singleton, e, h1, h2, pR_len, ht, fits_of (b := 16) (n := l.length + 1) (by omega) (by omega), Bool.and_self, if_true, Bool.false_eq_true, if_false]
section
variable (r u : V) (q : List Int) (hu : Sl u (iI q)) (hq : q.length ≤ 512) (a n : Int)
include hu hq
theorem Pairs_loop0 (i : Nat) (hi : i ≤ q.length) (l : List (Int × Int)) (hl : l.length ≤ 600000 + i) :
    evCI pg (.loop ir_rel_Rel_Pairsl0) ⟨[r, .undef, .osl false 0 (pR l), .int .i64 a, .undef, .int .i64 n, .int .i64 a, .undef, u, .int .i64 (q.length : Int), .int .i64 (i : Int), .undef], ⟨[], [l.length], []⟩⟩ =
      some (.exit 2, ⟨[r, .undef, .osl false 0 (pR (l ++ (q.drop i).map fun b => (a, b))), .int .i64 a, .undef, .int .i64 n, .int .i64 a, .undef, u, .int .i64 (q.length : Int), .int .i64 (q.length : Int), .bool false],
        ⟨[], [(l ++ (q.drop i).map fun b => (a, b)).length], []⟩⟩) := by
  obtain ⟨B, hB⟩ : ∃ B, B = C.loop ir_rel_Rel_Pairsl0 := ⟨_, rfl⟩
  by_cases h : i < q.length
  · have e1 := fun m => hu.ia (sz := 1) m .i64 (i := i) (by rw [iI_len]; exact h) (by simp [iI])
    simp only [iI_el] at e1
    have e3 := succ_i64 h (by omega)
    have ea := app_oneP (m := ⟨[], [l.length], []⟩) (l := l) (x := a) (y := q[i]) rfl (by omega)
    simp only [List.set_cons_zero] at ea
    have ih := Pairs_loop0 (i + 1) (by omega) (l ++ [(a, q[i])]) (by simp; omega)
    rw [List.length_append, List.length_singleton] at ih
    rw [List.drop_eq_getElem_cons h, List.map_cons, List.append_cons, ← ih, ← hB]
    conv => lhs; rw [s_loop_at hB]
    simp [ir_rel_Rel_Pairsl0, go_sem, h, e1, e3, ea, litParts, -Int.natCast_add]
  · obtain rfl : i = q.length := by omega
    rw [← hB, s_loop_at hB, List.drop_length, List.map_nil, List.append_nil]
    simp [ir_rel_Rel_Pairsl0, go_sem, hu.is]
termination_by q.length - i
end
/-- All pairs, in order. -/
def prs (n : Nat) (W : Nat → Nat) (i : Nat) : List (Int × Int) := (List.range' i (n - i)).flatMap fun a => (rt n (W a)).map fun b => ((a : Int), b)
theorem prs_step {n i : Nat} (W : Nat → Nat) (h : i < n) : prs n W i = ((rt n (W i)).map fun b => ((i : Int), b)) ++ prs n W (i + 1) := by
  unfold prs
  rw [show n - i = (n - (i + 1)) + 1 by omega, List.range'_succ, List.flatMap_cons]
theorem prs_end (n : Nat) (W : Nat → Nat) : prs n W n = [] := by unfold prs; rw [Nat.sub_self]; rfl
section
variable {t : Bool} {rv : V} {n : Nat} {W : Nat → Nat} (hr : RelV rv n W)
include hr
theorem Pairs_loop (i : Nat) (hi : i ≤ n) (l : List (Int × Int)) (hl : l.length ≤ 512 * i) :
    evCI pg (.loop ir_rel_Rel_Pairsl1) ⟨[.ip t [rv] 0, .undef, .osl false 0 (pR l), .undef, .undef, .int .i64 (n : Int), .int .i64 (i : Int), .undef, .undef, .undef, .undef, .undef], ⟨[], [l.length], []⟩⟩ =
      some (.exit 0, ⟨[.ip t [rv] 0, .undef, .osl false 0 (pR (l ++ prs n W i)), .undef, .undef, .int .i64 (n : Int), .int .i64 (n : Int), .bool false, .undef, .undef, .undef, .undef], ⟨[], [(l ++ prs n W i).length], []⟩⟩) := by
  obtain ⟨B, hB⟩ : ∃ B, B = C.loop ir_rel_Rel_Pairsl1 := ⟨_, rfl⟩
  have hle := hr.le
  by_cases h : i < n
  · obtain ⟨x, hx, e⟩ := hr.row h
    have hea := each_ok x n (W i) hx hle (hr.lt i h)
    have e3 := succ_i64 h (by omega)
    have hrl := rt_len n (W i)
    have ha := Pairs_loop0 (.ip t [rv] 0) (ils (iI (rt n (W i)))) (rt n (W i)) (.ils _) (by omega) (i : Int) (n : Int) 0 (by omega) l (by omega)
    rw [List.drop_zero, Int.natCast_zero] at ha
    have ih := Pairs_loop (i + 1) (by omega) (l ++ (rt n (W i)).map fun b => ((i : Int), b)) (by rw [List.length_append, List.length_map]; omega)
    rw [prs_step W h, ← List.append_assoc, ← ih, ← hB]
    conv => lhs; rw [s_loop_at hB]
    generalize rt n (W i) = q at *
    have hsl := Sl.ils (iI q)
    simp [ir_rel_Rel_Pairsl1, go_sem, h, e, e3, hx.is, hea, ha, hsl.is, hsl.rows, iI_len, -Int.natCast_add, -List.length_append]
  · obtain rfl : i = n := by omega
    rw [← hB, s_loop_at hB, prs_end, List.append_nil]
    simp [ir_rel_Rel_Pairsl1, go_sem, hr.is]
termination_by n - i
theorem Pairs_ok : evI pg .val n_rel_Rel_Pairs [.ip t [rv] 0] [] = some (ils (pR (prs n W 0)), []) := by
  have h := Pairs_loop (t := t) hr 0 (by omega) [] (by simp)
  have hL := Len_ok (t := t) hr
  rw [List.nil_append, List.length_nil, Int.natCast_zero] at h
  have e0 : pR [] = [] := rfl
  rw [e0] at h
  rw [s_fn fn_rel_Rel_Pairs]
  simp [ir_rel_Rel_Pairs, go_sem, hL, h]
end
end Go.Proofs.YtccdkkgimaajbaaDoor
