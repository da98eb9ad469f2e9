/- Layer 13: all entries go, and what they leave (no claim; lemmas). -/
import Derived.Test.YtaedicechhbhdaaK13s
set_option linter.unusedSimpArgs false
set_option linter.unusedVariables false
namespace Go.Proofs.Ytaedicechhbhdaa
open Go Go.Vm

theorem osl_ia (jl : Nat) (st : List Wr) (m : Mem) {j : Nat} (h : j < st.length) : iaSV 4 m (.osl true jl (wsV st)) (.int .i64 (j : Int)) = some (.ip false (wrV st[j]) 0) := by
  rw [e_ia_osl, asIx_nat (by rw [wsV_len]; exact h)]
  have : (wsV st)[j]? = some (wrV st[j]) := by simp [wsV, h]
  simp only [this]
  rfl
theorem set_same {H : List Vm.Obj} {p : Nat} {o : Vm.Obj} (h : H[p]? = some o) : H.set p o = H := by
  apply List.ext_getElem?
  intro q
  by_cases e : p = q
  · subst e; rw [h]; simp [get_lt h]
  · simp [e]
section
variable (pv : V) (picks : List Nat) (hpv : Sl pv (byV picks)) (hpk : ∀ b ∈ picks, b < 256)
include hpv
omit hpv in
theorem Same_loop2 (n0 : Nat) (jl : Nat) (st : List Wr) (j : Nat) (hj : j < st.length) (w : Wr) (hwe : st[j] = w) (hw : okS w) (a n : Nat) (ha : w.addr = (a : Int)) (hn : w.size = (n : Int)) (k : Nat) (hk : k ≤ n) (H : List Vm.Obj) (Q : List Nat) (hC : Q.length = 1040) (h1 : H[2]? = some (.arr (byV Q))) :
    evCI pg (.loop ir_undertowlaw13_SbufSamel2) ⟨[.undef, pv, .undef, .ptr 0 0 0, .rsl 1 0 1040, .rsl 2 0 1040, .undef, .undef, .undef, .int .i64 (n0 : Int), .undef, .undef, .osl true jl (wsV st), .int .i64 (j : Int), .int .i64 (k : Int), .undef, .undef, .undef, .undef, .undef, .undef, .undef, .undef, .undef, .undef], ⟨[[]], [], H⟩⟩ =
      some (.exit 8, ⟨[.undef, pv, .undef, .ptr 0 0 0, .rsl 1 0 1040, .rsl 2 0 1040, .undef, .undef, .undef, .int .i64 (n0 : Int), .undef, .undef, .osl true jl (wsV st), .int .i64 (j : Int), .int .i64 (n : Int), .undef, .undef, .undef, .undef, .undef, .undef, .undef, .undef, .undef, .bool false], ⟨[[]], [], H.set 2 (.arr (byV (wrt w n Q k)))⟩⟩) := by
  obtain ⟨B, hB⟩ : ∃ B, B = C.loop ir_undertowlaw13_SbufSamel2 := ⟨_, rfl⟩
  have hw' := hw
  unfold okS at hw
  rw [ha, hn] at hw
  have h1l := get_lt h1
  have hwv : wrV w = [.int .i64 w.id, .int .i64 (a : Int), .int .i64 (n : Int), .int .u64 (w.data : Int)] := by unfold wrV; rw [ha, hn]
  have e1 := fun m => osl_ia jl st m hj
  rw [hwe, hwv] at e1
  have hat : w.addr.toNat = a := by omega
  by_cases h : k < n
  · have ih := Same_loop2 n0 jl st j hj w hwe hw' a n ha hn (k + 1) (by omega) (H.set 2 (.arr (byV (Q.set (a + k) (w.data / 2 ^ (8 * k) % 256))))) (Q.set (a + k) (w.data / 2 ^ (8 * k) % 256)) (by simpa using hC) (by simp [h1l])
    rw [List.set_set] at ih
    have e3 := succ_i64 h (by omega)
    have ea : IntKind.i64.wrap ((a : Int) + (k : Int)) = ((a + k : Nat) : Int) := by rw [wrap_i64 (by omega) (by omega)]; rfl
    have e2 : IntKind.i64.wrap (8 * (k : Int)) = ((8 * k : Nat) : Int) := by rw [wrap_i64 (by omega) (by omega)]; rfl
    have e2' : IntKind.u64.wrap ((8 * k : Nat) : Int) = ((8 * k : Nat) : Int) := wrap_u64' (by omega)
    have e4 : ((w.data : Int)).fdiv (2 ^ (8 * k)) = ((w.data / 2 ^ (8 * k) : Nat) : Int) := shr_nat _ _
    have e5 : IntKind.u8.wrap ((w.data / 2 ^ (8 * k) : Nat) : Int) = ((w.data / 2 ^ (8 * k) % 256 : Nat) : Int) := by
      show ((w.data / 2 ^ (8 * k) : Nat) : Int) % 256 = _
      rw [Int.natCast_emod]; rfl
    have em : min (8 * k) 64 = 8 * k := by omega
    have hin : ((a + k : Nat) : Int) < 1040 := by omega
    have hg := byV_get Q (a + k) (by omega)
    rw [wrt_at Q h, hat]
    rw [← hB] at ih
    rw [← hB, s_loop_at hB, ← ih]
    simp [ir_undertowlaw13_SbufSamel2, go_sem, h, e1, ea, e2, e2', e3, e4, e5, em, h1, get_el h1, h1l, hin, hg, byV_set, IntKind.bits, -Int.natCast_add, -Int.natCast_mul, -Int.natCast_emod, -Int.natCast_ediv, -Int.natCast_pow]
  · obtain rfl : k = n := by omega
    rw [wrt_end, ← hB, s_loop_at hB, set_same h1]
    simp [ir_undertowlaw13_SbufSamel2, go_sem, e1]
termination_by n - k
omit hpv in
theorem Same_loop3 (n0 : Nat) (jl : Nat) (st : List Wr) (hst : ∀ w ∈ st, okS w) (hl8 : st.length ≤ 8) (j : Nat) (hj : j ≤ st.length) (H : List Vm.Obj) (S : List Wr) (Q : List Nat) (hQ : MemOf (S ++ st.take j) Q) (h1 : H[2]? = some (.arr (byV Q))) :
    ∃ Q', MemOf (S ++ st) Q' ∧ evCI pg (.loop ir_undertowlaw13_SbufSamel3) ⟨[.undef, pv, .undef, .ptr 0 0 0, .rsl 1 0 1040, .rsl 2 0 1040, .undef, .undef, .undef, .int .i64 (n0 : Int), .undef, .undef, .osl true jl (wsV st), .int .i64 (j : Int), .undef, .undef, .undef, .undef, .undef, .undef, .undef, .undef, .undef, .undef, .undef], ⟨[[]], [], H⟩⟩ =
      some (.exit 6, ⟨[.undef, pv, .undef, .ptr 0 0 0, .rsl 1 0 1040, .rsl 2 0 1040, .undef, .undef, .undef, .int .i64 (n0 : Int), .undef, .undef, .osl true jl (wsV st), .int .i64 (st.length : Int), .undef, .undef, .undef, .undef, .undef, .undef, .undef, .undef, .undef, .bool false, .undef], ⟨[[]], [], H.set 2 (.arr (byV Q'))⟩⟩) := by
  obtain ⟨B, hB⟩ : ∃ B, B = C.loop ir_undertowlaw13_SbufSamel3 := ⟨_, rfl⟩
  have h1l := get_lt h1
  by_cases h : j < st.length
  · have hw := hst st[j] (List.getElem_mem _)
    have hw' := hw
    unfold okS at hw
    obtain ⟨a, ha⟩ : ∃ a : Nat, st[j].addr = a := ⟨st[j].addr.toNat, by omega⟩
    obtain ⟨n, hn⟩ : ∃ n : Nat, st[j].size = n := ⟨st[j].size.toNat, by omega⟩
    have h0 := Same_loop2 pv n0 jl st j h st[j] rfl hw' a n ha hn 0 (by omega) H Q hQ.1 h1
    rw [Int.natCast_zero] at h0
    have hQ1 : MemOf (S ++ st.take (j + 1)) (wrt st[j] n Q 0) := by
      rw [List.take_succ_eq_append_getElem h, ← List.append_assoc]
      have := hQ.snoc st[j] hw'
      rwa [show st[j].size.toNat = n by omega] at this
    obtain ⟨Q', q1, ih⟩ := Same_loop3 n0 jl st hst hl8 (j + 1) (by omega) (H.set 2 (.arr (byV (wrt st[j] n Q 0)))) S _ hQ1 (by rw [List.getElem?_set_self h1l])
    rw [List.set_set] at ih
    have e3 := succ_i64 h (by omega)
    refine ⟨Q', q1, ?_⟩
    rw [← hB] at ih
    rw [← hB, s_loop_at hB, ← ih]
    simp [ir_undertowlaw13_SbufSamel3, go_sem, wsV_len, h, h0, e3, -Int.natCast_add]
  · obtain rfl : j = st.length := by omega
    rw [List.take_length] at hQ
    refine ⟨Q, hQ, ?_⟩
    rw [← hB, s_loop_at hB, set_same h1]
    simp [ir_undertowlaw13_SbufSamel3, go_sem, wsV_len]
termination_by st.length - j
include hpk in
theorem Same_loop4 (n0 : Nat) (H : List Vm.Obj) (L : List SE) (ep : Int) (F : Nat → Prop) (hl : Lv H 0 L ep F) (hiv : Iv L ep) (hn : n0 + (grp L).length ≤ 60) (S T : List Wr) (hS : ∀ p : Nat, T.filter (cov (p : Int)) = S.filter (cov (p : Int)) ++ (L.map Prod.fst).filter (cov (p : Int))) (Q : List Nat) (hQ : MemOf S Q) (G : Vm.Obj) (h1 : H[1]? = some G) (h2 : H[2]? = some (.arr (byV Q))) (hF : ∀ q, F q → q ≠ 1 ∧ q ≠ 2) :
    ∃ H' F' S' Q' c, evCI pg (.loop ir_undertowlaw13_SbufSamel4) ⟨[.undef, pv, .undef, .ptr 0 0 0, .rsl 1 0 1040, .rsl 2 0 1040, .undef, .undef, .undef, .int .i64 (n0 : Int), .undef, .undef, .undef, .undef, .undef, .undef, .undef, .undef, .undef, .undef, .undef, .undef, .undef, .undef, .undef], ⟨[[]], [], H⟩⟩ =
      some (.exit 4, ⟨[.undef, pv, .undef, .ptr 0 0 0, .rsl 1 0 1040, .rsl 2 0 1040, .undef, .undef, .undef, c, .undef, .undef, .undef, .undef, .undef, .undef, .undef, .undef, .undef, .undef, .bool false, .undef, .undef, .undef, .undef], ⟨[[]], [], H'⟩⟩) ∧
      Lv H' 0 [] ep F' ∧ MemOf S' Q' ∧ (∀ p : Nat, T.filter (cov (p : Int)) = S'.filter (cov (p : Int))) ∧ H'[1]? = some G ∧ H'[2]? = some (.arr (byV Q')) := by
  obtain ⟨B, hB⟩ : ∃ B, B = C.loop ir_undertowlaw13_SbufSamel4 := ⟨_, rfl⟩
  obtain ⟨ev, u, hp, hu, hui⟩ := hl.imm
  have hpl := get_lt hp
  have hE := Empty_ok true u (grp L) ep hu
  by_cases hne : grp L = []
  · have hL : L = [] := by
      cases L with
      | nil => rfl
      | cons x L =>
        have := grp_cov (x :: L) x (by simp)
        rw [hne] at this
        simp at this
    subst hL
    refine ⟨H, F, S, Q, .int .i64 (n0 : Int), ?_, hl, hQ, fun p => by have := hS p; simpa using this, h1, h2⟩
    rw [decide_eq_true (by rw [hne]; rfl)] at hE
    rw [← hB, s_loop_at hB]
    have hlt : (n0 : Int) < 60 ∨ ¬ (n0 : Int) < 60 := by omega
    rcases hlt with hlt | hlt
    · simp [ir_undertowlaw13_SbufSamel4, go_sem, hpv.is, hlt, hp, get_el hp, hpl, hui, hu.is, hE, unV]
    · simp [ir_undertowlaw13_SbufSamel4, go_sem, hpv.is, hlt, unV]
  · have hpos : 0 < (grp L).length := List.length_pos_iff.2 hne
    rw [decide_eq_false (by omega)] at hE
    have hR := Ready_ok true u (grp L) ep hu hiv.ok
    have hRl := rdy_len (lea ep (grp L)) (grp L) 0
    have hRp := rdy_pos hiv hne
    have h4 := hiv.n4
    have hcl := ilsI_clean (rdy (lea ep (grp L)) (grp L) 0)
    -- which goes
    obtain ⟨k, hk, hkv⟩ : ∃ k : Nat, k < (rdy (lea ep (grp L)) (grp L) 0).length ∧ k = (if n0 < picks.length then picks.getD n0 0 % (rdy (lea ep (grp L)) (grp L) 0).length else 0) := by
      refine ⟨_, ?_, rfl⟩
      split
      · exact Nat.mod_lt _ hRp
      · exact hRp
    obtain ⟨q, hq, hq1, hq2⟩ := rdy_get (lea ep (grp L)) (grp L) 0 k hk
    rw [Nat.zero_add] at hq1
    obtain ⟨H1, F1, o, κ, d1, d2, d3, d4, d5, d6, d7, d8, d9, d10, d11, d12, d13⟩ := hl.drain hiv q hq hq2
    have l1 := get_lt h1
    have l2 := get_lt h2
    have h1' : H1[1]? = some G := by rw [d12 1 l1 (fun hc => (hF 1 hc).1 rfl)]; exact h1
    have h2' : H1[2]? = some (.arr (byV Q)) := by rw [d12 2 l2 (fun hc => (hF 2 hc).2 rfl)]; exact h2
    have hne2 : wsV ((L.filter fun x => decide (key x = κ)).map Prod.fst) ≠ [] := by
      intro hc
      have := congrArg List.length hc
      rw [wsV_len] at this
      simp at this
      apply d7
      rw [List.filter_eq_nil_iff]
      intro x hx hk
      rw [decide_eq_true_eq] at hk
      exact this x.1 x.2 hx hk
    have hst : ∀ w ∈ (L.filter fun x => decide (key x = κ)).map Prod.fst, okS w := by
      intro w hw
      obtain ⟨x, hx, rfl⟩ := List.mem_map.1 hw
      have := hiv.may x (List.mem_filter.1 hx).1
      exact okS_may this.1 this.2
    have hgo := fun p => go_same hiv κ d5 p
    obtain ⟨st, hste⟩ : ∃ st, (L.filter fun x => decide (key x = κ)).map Prod.fst = st := ⟨_, rfl⟩
    rw [hste] at d9 hne2 hst hgo
    have hlen8 : st.length ≤ 8 := by rw [← hste]; simpa using d8
    obtain ⟨jl, ho⟩ : ∃ jl, o = .osl true jl (wsV st) := by
      generalize wsV st = ws at d9 hne2
      cases d9 with
      | nils => exact absurd rfl hne2
      | tok j es _ _ => exact ⟨j, rfl⟩
    obtain ⟨Q1, q1, hw3⟩ := Same_loop3 pv n0 jl st hst hlen8 0 (by omega) H1 S Q (by simpa using hQ) h2'
    have l2' := get_lt h2'
    have hF1 : ∀ q, F1 q → q ≠ 1 ∧ q ≠ 2 := fun q hq => hF q (d13 q hq)
    have hl1 : Lv (H1.set 2 (.arr (byV Q1))) 0 (L.filter fun x => decide (key x ≠ κ)) ep F1 := d2.frame fun q hq => List.getElem?_set_ne (fun e => (hF1 q hq).2 e.symm)
    obtain ⟨H', F', S', Q', c, ih, r1, r2, r3, r4⟩ := Same_loop4 (n0 + 1) _ _ ep F1 hl1 d3 (by omega) (S ++ st) T (fun p => by rw [hS p, hgo p, List.filter_append, List.append_assoc]) Q1 q1 G (by rw [List.getElem?_set_ne (by omega)]; exact h1') (by rw [List.getElem?_set_self l2']) hF1
    refine ⟨H', F', S', Q', c, ?_, r1, r2, r3, r4⟩
    rw [← hB] at ih
    rw [← hB, s_loop_at hB, ← ih]
    have h60 : (n0 : Int) < 60 := by omega
    have e3 := succ_i64 (n := 60) (i := n0) (by omega) (by omega)
    subst ho
    obtain ⟨R, hRe⟩ : ∃ R, rdy (lea ep (grp L)) (grp L) 0 = R := ⟨_, rfl⟩
    have hq1' : R[k]? = some (q : Int) := by
      rw [← hRe, List.getElem?_eq_getElem hk, hq1]
    rw [hRe] at hR hRl hRp hcl hk hkv
    have hRk : R[k] = (q : Int) := by rw [List.getElem?_eq_getElem hk] at hq1'; exact Option.some.inj hq1'
    have er := fun m => (Sl.ils (iI R)).ia (sz := 1) m .i64 (i := k) (by rw [iI_len]; exact hk) (by simp [iI])
    simp only [iI_el, hRk] at er
    have hRne : ¬ R = [] := by intro hc; rw [hc] at hRp; simp at hRp
    rw [Int.natCast_zero] at hw3
    by_cases cp : n0 < picks.length
    · rw [if_pos cp] at hkv
      have ep1 := fun m => hpv.ia (sz := 1) m .i64 (i := n0) (by rw [byV_len]; exact cp) (by simp [byV])
      simp only [byV_el] at ep1
      have hpkn := hpk picks[n0] (List.getElem_mem _)
      have hgd : picks.getD n0 0 = picks[n0] := by simp [List.getD_eq_getElem?_getD, cp]
      rw [hgd] at hkv
      have e5 : IntKind.i64.wrap (picks[n0] : Int) = (picks[n0] : Int) := wrap_i64 (by omega) (by omega)
      have em : ((picks[n0] : Nat) : Int).tmod (R.length : Int) = (k : Int) := by rw [hkv]; rfl
      have hR0 : ¬ R.length = 0 := by omega
      simp [ir_undertowlaw13_SbufSamel4, go_sem, hpv.is, hpv.rows, byV_len, h60, hp, get_el hp, hpl, hui, hu.is, hE, hR, hcl, iI_len, hRne, hR0, cp, ep1, e5, em, er, d1, e3, hw3, unV, -Int.natCast_add]
    · rw [if_neg cp] at hkv
      subst hkv
      rw [Int.natCast_zero] at er
      simp [ir_undertowlaw13_SbufSamel4, go_sem, hpv.is, hpv.rows, byV_len, h60, hp, get_el hp, hpl, hui, hu.is, hE, hR, hcl, iI_len, hRne, cp, er, d1, e3, hw3, unV, -Int.natCast_add]
termination_by (grp L).length
decreasing_by omega
end
end Go.Proofs.Ytaedicechhbhdaa
