/- Layer 13: the document's buffer: a byte that is found (no claim; lemmas). -/
import Derived.Test.YtaedicechhbhdaaK13jd
set_option linter.unusedSimpArgs false
set_option linter.unusedVariables false
namespace Go.Proofs.Ytaedicechhbhdaa
open Go Go.Vm

theorem lastL_succ (at_ : Int) (L : List SE) (k : Nat) (h : k < L.length) : lastL at_ (L.take (k + 1)) = if cov at_ L[k].1 = true then some L[k] else lastL at_ (L.take k) := by
  unfold lastL
  rw [List.take_succ_eq_append_getElem h, List.reverse_append, List.reverse_singleton, List.singleton_append, List.find?_cons]
  split <;> rename_i hc
  · rw [if_pos hc]
  · rw [if_neg (by simp [hc])]
section
variable {t : Bool} {lv : V} {L : List SE} {ep : Int} (hv : Sl lv (seR L)) (hI : Iv L ep)
include hv hI
theorem FindD_loop (at_ : Int) (hat : -9223372036854775808 ≤ at_ ∧ at_ ≤ 9223372036854775807) (k : Nat) (hk : k ≤ L.length) :
    evCI pg (.loop ir_undertowref13_Buffer_Findl0) ⟨[.ip t [lv, .int .i64 ep] 0, .int .i64 at_, .undef, .undef, .undef, .int .i64 ((k : Int) - 1), .undef, .undef, .undef], ⟨[[]], [], []⟩⟩ =
      some (match lastL at_ (L.take k) with
        | some x => (.ret, ⟨[.undef, .undef, .int .u8 ((x.1.data / 2 ^ (8 * (at_ - x.1.addr)).toNat % 256 : Nat) : Int), .int .i64 x.1.id, .bool true, .undef, .undef, .undef, .undef], ⟨[[]], [], []⟩⟩)
        | none => (.exit 0, ⟨[.ip t [lv, .int .i64 ep] 0, .int .i64 at_, .undef, .undef, .undef, .int .i64 (-1), .undef, .bool false, .undef], ⟨[[]], [], []⟩⟩)) := by
  obtain ⟨B, hB⟩ : ∃ B, B = C.loop ir_undertowref13_Buffer_Findl0 := ⟨_, rfl⟩
  cases k with
  | zero =>
    rw [← hB, s_loop_at hB]
    simp [ir_undertowref13_Buffer_Findl0, go_sem, lastL]
  | succ k =>
    have hk' : k < L.length := by omega
    have hl := hI.len
    have hm := hI.may L[k] (List.getElem_mem _)
    have hok := okS_may hm.1 hm.2
    have ih := FindD_loop at_ hat k (by omega)
    have e0 : ((k + 1 : Nat) : Int) - 1 = (k : Int) := by omega
    have e1 := fun m => hv.ia (sz := 5) m .i64 (i := k) (by rw [seR_len]; exact hk') (seR_all _ _ (List.getElem_mem _))
    simp only [seR_el, seV] at e1
    have e4 : IntKind.i64.wrap ((k : Int) - 1) = (k : Int) - 1 := wrap_i64 (by omega) (by omega)
    unfold okS at hok
    rw [e0, lastL_succ _ _ _ hk']
    rw [← hB] at ih
    rw [← hB, s_loop_at hB]
    clear hm
    generalize L[k] = x at *
    obtain ⟨⟨w1, w2, w3, w4⟩, se⟩ := x
    simp only at hok e1
    have e6 : IntKind.i64.wrap (w2 + w3) = w2 + w3 := wrap_i64 (by omega) (by omega)
    have e7 : IntKind.i64.wrap (w2 + w3 - 1) = w2 + w3 - 1 := wrap_i64 (by omega) (by omega)
    by_cases c1 : w2 ≤ at_
    · by_cases c2 : at_ ≤ w2 + w3 - 1
      · have hc : cov at_ ⟨w1, w2, w3, w4⟩ = true := by unfold cov; simp only [decide_eq_true_eq]; omega
        simp only
        rw [if_pos hc]
        obtain ⟨d, hd⟩ : ∃ d : Nat, at_ - w2 = d := ⟨(at_ - w2).toNat, by omega⟩
        simp only
        rw [hd]
        have f1 : IntKind.i64.wrap (at_ - w2) = (d : Int) := by rw [hd]; exact wrap_i64 (by omega) (by omega)
        have f2 : IntKind.i64.wrap (8 * (d : Int)) = ((8 * d : Nat) : Int) := by rw [wrap_i64 (by omega) (by omega)]; rfl
        have f6 : IntKind.u64.wrap ((8 * d : Nat) : Int) = ((8 * d : Nat) : Int) := by
          show ((8 * d : Nat) : Int) % 18446744073709551616 = _
          omega
        have f3 : (8 * (d : Int)).toNat = 8 * d := by omega
        have f4 : ((w4 : Int)).fdiv (2 ^ (8 * d)) = ((w4 / 2 ^ (8 * d) : Nat) : Int) := shr_nat _ _
        have f5 : IntKind.u8.wrap ((w4 / 2 ^ (8 * d) : Nat) : Int) = ((w4 / 2 ^ (8 * d) % 256 : Nat) : Int) := by
          show ((w4 / 2 ^ (8 * d) : Nat) : Int) % 256 = _
          rw [Int.natCast_emod]; rfl
        have em : min (8 * d) 64 = 8 * d := by omega
        rw [f3]
        have hsh : ¬ ((8 * d : Nat) : Int) < 0 := by omega
        simp [ir_undertowref13_Buffer_Findl0, go_sem, hv.is, hv.rows, seR_len, e1, e6, e7, c1, c2, f1, f2, f4, f5, f6, em, hsh, IntKind.bits, loadAt, V.cells, V.exp, evStore, splice, -Int.natCast_mul, -Int.natCast_emod, -Int.natCast_ediv, -Int.natCast_pow]
      · have hc : ¬ cov at_ ⟨w1, w2, w3, w4⟩ = true := by unfold cov; simp only [decide_eq_true_eq]; omega
        simp only
        rw [if_neg hc, ← ih]
        simp [ir_undertowref13_Buffer_Findl0, go_sem, hv.is, hv.rows, seR_len, e1, e4, e6, e7, c1, c2, loadAt, V.cells, V.exp, evStore, splice]
    · have hc : ¬ cov at_ ⟨w1, w2, w3, w4⟩ = true := by unfold cov; simp only [decide_eq_true_eq]; omega
      simp only
      rw [if_neg hc, ← ih]
      simp [ir_undertowref13_Buffer_Findl0, go_sem, hv.is, hv.rows, seR_len, e1, e4, e6, e7, c1, loadAt, V.cells, V.exp, evStore, splice]
theorem FindD_ok (at_ : Int) (hat : -9223372036854775808 ≤ at_ ∧ at_ ≤ 9223372036854775807) : evI pg .val n_undertowref13_Buffer_Find [.ip t [lv, .int .i64 ep] 0, .int .i64 at_] [] = some (fndV (fndF at_ (zW, -1) (grp L)) at_, []) := by
  have h := FindD_loop (t := t) hv hI at_ hat L.length (Nat.le_refl _)
  have hl := hI.len
  have el : IntKind.i64.wrap ((L.length : Int) - 1) = (L.length : Int) - 1 := wrap_i64 (by omega) (by omega)
  rw [List.take_length] at h
  rw [fnd_last hI, s_fn fn_undertowref13_Buffer_Find]
  cases q : lastL at_ L with
  | none =>
    rw [q] at h
    simp [ir_undertowref13_Buffer_Find, go_sem, hv.is, hv.rows, seR_len, el, h, fndV]
  | some x =>
    rw [q] at h
    have := hI.le x (mem_lastL q).1
    have h0 : ¬ x.2 < 0 := by omega
    simp only at h ⊢
    unfold fndV
    rw [if_neg h0]
    simp [ir_undertowref13_Buffer_Find, go_sem, hv.is, hv.rows, seR_len, el, h, -Int.natCast_emod, -Int.natCast_ediv, -Int.natCast_pow]
end
end Go.Proofs.Ytaedicechhbhdaa
