/- Layer 13: the loops of the law on what is found (no claim; lemmas). -/
import Derived.Test.YtaedicechhbhdaaK13w
set_option linter.unusedSimpArgs false
set_option linter.unusedVariables false
namespace Go.Proofs.Ytaedicechhbhdaa
open Go Go.Vm

/-- A list on the heap: none, or one that is put more behind. -/
def ivs (iv : V) (I : List Wr) : Prop := (iv = .nils ∧ I = []) ∨ ∃ j, iv = .osl true j (wsV I)
theorem Lg.ivs {H : List Vm.Obj} {iv : V} {I : List Wr} (h : Lg H iv (wsV I)) : ivs iv I := by
  have hl := wsV_len I
  generalize hw : wsV I = es at h hl
  cases h with
  | nils =>
    left
    exact ⟨rfl, by simpa using hl.symm⟩
  | tok j es _ _ => exact .inr ⟨j, by rw [hw]⟩
theorem osl_iw (jl : Nat) (st : List Wr) (m : Mem) {j : Nat} (h : j < st.length) : iaSV 4 m (.osl true jl (wsV st)) (.int .i64 (j : Int)) = some (.ip false [.int .i64 st[j].id, .int .i64 st[j].addr, .int .i64 st[j].size, .int .u64 (st[j].data : Int)] 0) := by
  rw [e_ia_osl, asIx_nat (by rw [wsV_len]; exact h)]
  have : (wsV st)[j]? = some (wrV st[j]) := by simp [wsV, h]
  simp only [this]
  rfl
theorem Finds_loop2 (v iv : V) (hvs : isS v = true) (I : List Wr) (hiv : ivs iv I) (hI : ∀ w ∈ I, okS w) (hIl : I.length ≤ 60) (i : Nat) (at_ : Int) (hat : -1 ≤ at_ ∧ at_ ≤ 40) (a b : Int) (c : Bool) (H : List Vm.Obj) (j : Nat) (hj : j ≤ I.length) (r : Nat × Int × Bool) :
    evCI pg (.loop ir_undertowlaw13_SbufFindsl2) ⟨[v, .undef, .ptr 0 0 0, iv, .int .i64 (i : Int), .undef, .undef, .undef, .undef, .undef, .undef, .int .i64 at_, .int .u8 a, .int .i64 b, .bool c, .int .u8 (r.1 : Int), .int .i64 r.2.1, .bool r.2.2, .int .i64 (j : Int), .undef, .undef, .undef, .undef, .undef, .undef, .undef, .undef, .undef, .undef, .undef, .undef, .undef, .undef, .undef], ⟨[[]], [], H⟩⟩ =
      some (.exit 9, ⟨[v, .undef, .ptr 0 0 0, iv, .int .i64 (i : Int), .undef, .undef, .undef, .undef, .undef, .undef, .int .i64 at_, .int .u8 a, .int .i64 b, .bool c, .int .u8 ((wf at_ r (I.drop j)).1 : Nat), .int .i64 (wf at_ r (I.drop j)).2.1, .bool (wf at_ r (I.drop j)).2.2, .int .i64 (I.length : Int), .undef, .undef, .undef, .undef, .undef, .undef, .undef, .undef, .undef, .undef, .undef, .undef, .bool false, .undef, .undef], ⟨[[]], [], H⟩⟩) := by
  obtain ⟨B, hB⟩ : ∃ B, B = C.loop ir_undertowlaw13_SbufFindsl2 := ⟨_, rfl⟩
  rcases hiv with ⟨rfl, rfl⟩ | ⟨ji, rfl⟩
  · have : j = 0 := by simpa using hj
    subst this
    obtain ⟨r1, r2, r3⟩ := r
    rw [← hB, s_loop_at hB]
    simp [ir_undertowlaw13_SbufFindsl2, go_sem, hvs, wf]
  · by_cases h : j < I.length
    · have hw := hI I[j] (List.getElem_mem _)
      unfold okS at hw
      have e1 := fun m => osl_iw ji I m h
      have e3 := succ_i64 h (by omega)
      have ea : IntKind.i64.wrap (I[j].addr + I[j].size) = I[j].addr + I[j].size := wrap_i64 (by omega) (by omega)
      rw [List.drop_eq_getElem_cons h, wf]
      by_cases c1 : I[j].addr ≤ at_
      · by_cases c2 : at_ < I[j].addr + I[j].size
        · have hc : cov at_ I[j] = true := by unfold cov; rw [decide_eq_true_eq]; omega
          have ih := Finds_loop2 v (.osl true ji (wsV I)) hvs I (.inr ⟨ji, rfl⟩) hI hIl i at_ hat a b c H (j + 1) (by omega) (btI I[j] at_, I[j].id, true)
          rw [if_pos hc, ← ih, ← hB]
          conv => lhs; rw [s_loop_at hB]
          obtain ⟨d, hd⟩ : ∃ d : Nat, at_ - I[j].addr = d := ⟨(at_ - I[j].addr).toNat, by omega⟩
          have q1 : IntKind.i64.wrap (at_ - I[j].addr) = (d : Int) := by rw [hd]; exact wrap_i64 (by omega) (by omega)
          have q2 : IntKind.i64.wrap (8 * (d : Int)) = ((8 * d : Nat) : Int) := by rw [wrap_i64 (by omega) (by omega)]; rfl
          have q2' : IntKind.u64.wrap ((8 * d : Nat) : Int) = ((8 * d : Nat) : Int) := wrap_u64' (by omega)
          have q4 : ((I[j].data : Int)).fdiv (2 ^ (8 * d)) = ((I[j].data / 2 ^ (8 * d) : Nat) : Int) := shr_nat _ _
          have q5 : IntKind.u8.wrap ((I[j].data / 2 ^ (8 * d) : Nat) : Int) = ((btI I[j] at_ : Nat) : Int) := by
            unfold btI
            rw [hd, show (8 * (d : Int)).toNat = 8 * d by omega]
            show ((I[j].data / 2 ^ (8 * d) : Nat) : Int) % 256 = _
            rw [Int.natCast_emod]; rfl
          have em : min (8 * d) 64 = 8 * d := by omega
          obtain ⟨r1, r2, r3⟩ := r
          simp [ir_undertowlaw13_SbufFindsl2, go_sem, hvs, wsV_len, h, e1, e3, ea, c1, c2, q1, q2, q2', q4, q5, em, IntKind.bits, -Int.natCast_add, -Int.natCast_mul, -Int.natCast_emod, -Int.natCast_ediv, -Int.natCast_pow]
        · have hc : ¬ cov at_ I[j] = true := by unfold cov; rw [decide_eq_true_eq]; omega
          have ih := Finds_loop2 v (.osl true ji (wsV I)) hvs I (.inr ⟨ji, rfl⟩) hI hIl i at_ hat a b c H (j + 1) (by omega) r
          rw [if_neg hc, ← ih, ← hB]
          conv => lhs; rw [s_loop_at hB]
          obtain ⟨r1, r2, r3⟩ := r
          simp [ir_undertowlaw13_SbufFindsl2, go_sem, hvs, wsV_len, h, e1, e3, ea, c1, c2, -Int.natCast_add]
      · have hc : ¬ cov at_ I[j] = true := by unfold cov; rw [decide_eq_true_eq]; omega
        have ih := Finds_loop2 v (.osl true ji (wsV I)) hvs I (.inr ⟨ji, rfl⟩) hI hIl i at_ hat a b c H (j + 1) (by omega) r
        rw [if_neg hc, ← ih, ← hB]
        conv => lhs; rw [s_loop_at hB]
        obtain ⟨r1, r2, r3⟩ := r
        simp [ir_undertowlaw13_SbufFindsl2, go_sem, hvs, wsV_len, h, e1, e3, c1, -Int.natCast_add]
    · obtain rfl : j = I.length := by omega
      obtain ⟨r1, r2, r3⟩ := r
      rw [← hB, s_loop_at hB, List.drop_length]
      simp [ir_undertowlaw13_SbufFindsl2, go_sem, hvs, wsV_len, wf]
termination_by I.length - j
theorem Finds_loop3 (v iv : V) (hvs : isS v = true) (R : List SE) (hiv : ivs iv (R.map Prod.fst)) (hR : ∀ x ∈ R, okS x.1) (hRl : R.length ≤ 60) (i : Nat) (H : List Vm.Obj) (ep : Int) (F : Nat → Prop) (hl : Lv H 0 (R.map hz) ep F) (hv : Iv (R.map hz) ep) (t : Nat) (ht : t ≤ 41) :
    evCI pg (.loop ir_undertowlaw13_SbufFindsl3) ⟨[v, .undef, .ptr 0 0 0, iv, .int .i64 (i : Int), .undef, .undef, .undef, .undef, .undef, .undef, .int .i64 ((t : Int) - 1), .undef, .undef, .undef, .undef, .undef, .undef, .undef, .undef, .undef, .undef, .undef, .undef, .undef, .undef, .undef, .undef, .undef, .undef, .undef, .undef, .undef, .undef], ⟨[[]], [], H⟩⟩ =
      some (.exit 7, ⟨[v, .undef, .ptr 0 0 0, iv, .int .i64 (i : Int), .undef, .undef, .undef, .undef, .undef, .undef, .int .i64 40, .undef, .undef, .undef, .undef, .undef, .undef, .undef, .undef, .undef, .undef, .undef, .undef, .undef, .undef, .undef, .undef, .undef, .undef, .bool false, .undef, .undef, .undef], ⟨[[]], [], H⟩⟩) := by
  obtain ⟨B, hB⟩ : ∃ B, B = C.loop ir_undertowlaw13_SbufFindsl3 := ⟨_, rfl⟩
  by_cases h : t < 41
  · have ih := Finds_loop3 v iv hvs R hiv hR hRl i H ep F hl hv (t + 1) (by omega)
    obtain ⟨ev, u, hp, hu, hui⟩ := hl.imm
    have hpl := get_lt hp
    have hF := Find_ok true u (grp (R.map hz)) ep hu hv.ok ((t : Int) - 1) (by omega)
    rw [find_same hv hR] at hF
    have hI : ∀ w ∈ R.map Prod.fst, okS w := by
      intro w hw
      obtain ⟨x, hx, rfl⟩ := List.mem_map.1 hw
      exact hR x hx
    have h0 := fun a b c => Finds_loop2 v iv hvs (R.map Prod.fst) hiv hI (by simpa using hRl) i ((t : Int) - 1) (by omega) a b c H 0 (by omega) (0, 0, false)
    rw [List.drop_zero, Int.natCast_zero] at h0
    revert h0 hF
    generalize wf ((t : Int) - 1) (0, 0, false) (R.map Prod.fst) = r
    intro hF h0
    obtain ⟨r1, r2, r3⟩ := r
    simp only at h0 hF
    have h0' := h0 (r1 : Int) r2 r3
    have hlt : (t : Int) - 1 < 40 := by omega
    have e3 : IntKind.i64.wrap ((t : Int) - 1 + 1) = ((t + 1 : Nat) : Int) - 1 := by rw [wrap_i64 (by omega) (by omega)]; omega
    have e3' : IntKind.i64.wrap (t : Int) = ((t + 1 : Nat) : Int) - 1 := by rw [wrap_i64 (by omega) (by omega)]; omega
    rw [← hB] at ih
    rw [← hB, s_loop_at hB, ← ih]
    rcases hiv with ⟨rfl, hn⟩ | ⟨ji, rfl⟩
    · cases r3 <;> simp [ir_undertowlaw13_SbufFindsl3, go_sem, hvs, hlt, hp, get_el hp, hpl, hui, hu.is, hF, h0', e3, e3', unV, -Int.natCast_add]
    · cases r3 <;> simp [ir_undertowlaw13_SbufFindsl3, go_sem, hvs, hlt, hp, get_el hp, hpl, hui, hu.is, hF, h0', e3, e3', unV, -Int.natCast_add]
  · obtain rfl : t = 41 := by omega
    rw [← hB, s_loop_at hB]
    rcases hiv with ⟨rfl, hn⟩ | ⟨ji, rfl⟩
    · simp [ir_undertowlaw13_SbufFindsl3, go_sem, hvs]
    · simp [ir_undertowlaw13_SbufFindsl3, go_sem, hvs]
termination_by 41 - t
end Go.Proofs.Ytaedicechhbhdaa
