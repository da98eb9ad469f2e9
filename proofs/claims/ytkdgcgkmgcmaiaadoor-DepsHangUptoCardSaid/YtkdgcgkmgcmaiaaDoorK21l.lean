/- Layer 21: what is handed (no claim; lemmas). -/
import Derived.Test.YtkdgcgkmgcmaiaaDoorK21k
set_option linter.unusedSimpArgs false
set_option linter.unusedVariables false
namespace Go.Proofs.YtkdgcgkmgcmaiaaDoor
open Go Go.Vm

theorem alive21 : evI pg .val n_undertowlaw21_alive [] [] = some (.bool true, []) := closed irL_ok 400 (by kernel_rfl)
theorem pv_in {n : Nat} {vs : List V} (h : PV Tryd.prog (n + 2) 43 vs) : ∃ x : In, vs = inV x ∧ okI x := by
  obtain ⟨_, _, rfl, h1, _, _, rfl, h2, _, _, rfl, h3, _, _, rfl, h4, _, _, rfl, h5, _, _, rfl, h6, _, _, rfl, h7, _, _, rfl, h8, _, _, rfl, h9, rfl⟩ := pv_struct Tryd.underlying43 h
  obtain ⟨a1, rfl, hb⟩ := pv_i64 Tryd.underlying3 h1
  obtain ⟨a2, rfl, _⟩ := pv_i64 Tryd.underlying3 h2
  obtain ⟨a3, rfl, _⟩ := pv_i64 Tryd.underlying3 h3
  obtain ⟨a4, rfl, _⟩ := pv_i64 Tryd.underlying3 h4
  obtain ⟨a5, rfl, _⟩ := pv_i64 Tryd.underlying2 h5
  obtain ⟨a6, rfl⟩ := pv_bool Tryd.underlying4 h6
  obtain ⟨a7, rfl⟩ := pv_bool Tryd.underlying4 h7
  obtain ⟨a8, rfl, _⟩ := pv_i64 Tryd.underlying3 h8
  obtain ⟨a9, rfl, _⟩ := pv_i64 Tryd.underlying3 h9
  exact ⟨⟨a1, a2, a3, a4, a5, a8, a9, a6, a7⟩, rfl, hb.2⟩
theorem pv_ins {n : Nat} : ∀ es : List (List V), (∀ q ∈ es, PV Tryd.prog (n + 2) 43 q) → ∃ l : List In, es = inR l ∧ ∀ x ∈ l, okI x
  | [], _ => ⟨[], rfl, by simp⟩
  | q :: es, h => by
    obtain ⟨w, rfl, hw⟩ := pv_in (h q (by simp))
    obtain ⟨l, rfl, hl⟩ := pv_ins es fun q hq => h q (by simp [hq])
    refine ⟨w :: l, rfl, fun x hx => ?_⟩
    rcases List.mem_cons.1 hx with rfl | hx
    · exact hw
    · exact hl x hx
theorem arg_ins {n : Nat} {v : V} (h : ArgPV Tryd.prog (n + 3) 22 v) : ∃ l : List In, Sl v (inR l) ∧ l.length ≤ maxLen ∧ ∀ x ∈ l, okI x := by
  rcases arg_slice Tryd.underlying22 h with rfl | ⟨es, rfl, hl, hes⟩
  · exact ⟨[], .nils, by simp [maxLen], by simp⟩
  · obtain ⟨l, rfl, hok⟩ := pv_ins es hes
    exact ⟨l, .isl _ _, by rwa [inR_len] at hl, hok⟩
theorem arg_in {n : Nat} {v : V} (h : ArgPV Tryd.prog (n + 3) 43 v) : ∃ x : In, v = .agg (inV x) ∧ okI x := by
  simp only [ArgPV, Tryd.underlying43] at h
  obtain ⟨vs, rfl, h⟩ := h
  obtain ⟨x, rfl, hx⟩ := pv_in h
  exact ⟨x, rfl, hx⟩
theorem inR_all (l : List In) : ∀ e ∈ inR l, e.length = 9 := by
  intro e he
  obtain ⟨x, _, rfl⟩ := List.mem_map.1 he
  rfl
end Go.Proofs.YtkdgcgkmgcmaiaaDoor
