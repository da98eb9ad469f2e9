/- Layer 13: a memory that stores are written to, in whichever order of entries (no claim; lemmas). -/
import Derived.Test.YtaedicechhbhdaaK13q
set_option linter.unusedSimpArgs false
set_option linter.unusedVariables false
namespace Go.Proofs.Ytaedicechhbhdaa
open Go Go.Vm

/-- A byte of a store. -/
def bt (w : Wr) (p : Nat) : Nat := w.data / 2 ^ (8 * (p - w.addr.toNat)) % 256
/-- A store's bytes, from one on, written. -/
def wrt (w : Wr) (n : Nat) (C : List Nat) (k : Nat) : List Nat := if k < n then wrt w n (C.set (w.addr.toNat + k) (w.data / 2 ^ (8 * k) % 256)) (k + 1) else C
termination_by n - k
theorem wrt_at {w : Wr} {n k : Nat} (C : List Nat) (h : k < n) : wrt w n C k = wrt w n (C.set (w.addr.toNat + k) (w.data / 2 ^ (8 * k) % 256)) (k + 1) := by rw [wrt, if_pos h]
theorem wrt_end {w : Wr} {n : Nat} (C : List Nat) : wrt w n C n = C := by rw [wrt, if_neg (by omega)]
theorem wrt_len (w : Wr) (n : Nat) (C : List Nat) (k : Nat) : (wrt w n C k).length = C.length := by
  by_cases h : k < n
  · rw [wrt_at C h, wrt_len w n _ (k + 1), List.length_set]
  · rw [wrt, if_neg h]
termination_by n - k
theorem wrt_get (w : Wr) (n : Nat) (C : List Nat) (k p : Nat) (hp : p < C.length) : (wrt w n C k)[p]? = if w.addr.toNat + k ≤ p ∧ p < w.addr.toNat + n then some (bt w p) else C[p]? := by
  by_cases h : k < n
  · rw [wrt_at C h, wrt_get w n _ (k + 1) p (by simpa using hp)]
    by_cases c : w.addr.toNat + (k + 1) ≤ p ∧ p < w.addr.toNat + n
    · rw [if_pos c, if_pos (by omega)]
    · rw [if_neg c]
      by_cases d : w.addr.toNat + k = p
      · rw [if_pos (by omega), d, List.getElem?_set_self hp]
        unfold bt
        rw [show p - w.addr.toNat = k by omega]
      · rw [if_neg (by omega), List.getElem?_set_ne d]
  · rw [wrt, if_neg h, if_neg (by omega)]
termination_by n - k
/-- A memory after some stores. -/
def MemOf (S : List Wr) (C : List Nat) : Prop := C.length = 1040 ∧ ∀ p : Nat, p < 1040 → C[p]? = some (match S.reverse.find? (cov (p : Int)) with
  | some w => bt w p
  | none => 0)
theorem MemOf.nil : MemOf [] (List.replicate 1040 0) := ⟨List.length_replicate, fun p hp => by rw [List.getElem?_replicate, if_pos hp]; rfl⟩
theorem cov_nat {w : Wr} (h : okS w) (p : Nat) : cov (p : Int) w = true ↔ w.addr.toNat ≤ p ∧ p < w.addr.toNat + w.size.toNat := by
  unfold okS at h
  unfold cov
  rw [decide_eq_true_eq]
  omega
theorem MemOf.snoc {S : List Wr} {C : List Nat} (h : MemOf S C) (w : Wr) (hw : okS w) : MemOf (S ++ [w]) (wrt w w.size.toNat C 0) := by
  refine ⟨by rw [wrt_len]; exact h.1, fun p hp => ?_⟩
  rw [wrt_get _ _ _ _ _ (by rw [h.1]; exact hp), List.reverse_append, List.reverse_singleton, List.singleton_append, List.find?_cons]
  have hc := cov_nat hw p
  by_cases c : cov (p : Int) w = true
  · rw [if_pos (by have := hc.1 c; omega), c]
  · have c' : cov (p : Int) w = false := by simpa using c
    rw [if_neg (fun hh => c (hc.2 (by omega))), c']
    exact h.2 p hp
theorem MemOf.same {S S' : List Wr} {C C' : List Nat} (h : MemOf S C) (h' : MemOf S' C') (hs : ∀ p : Nat, S.filter (cov (p : Int)) = S'.filter (cov (p : Int))) : C = C' := by
  apply List.ext_getElem?
  intro p
  by_cases hp : p < 1040
  · rw [h.2 p hp, h'.2 p hp]
    have key : ∀ T : List Wr, T.reverse.find? (cov (p : Int)) = (T.filter (cov (p : Int))).getLast? := by
      intro T
      rw [← List.head?_filter, List.filter_reverse, List.head?_reverse]
    rw [key, key, hs p]
  · rw [List.getElem?_eq_none (by rw [h.1]; omega), List.getElem?_eq_none (by rw [h'.1]; omega)]
theorem bt_zw (w : Wr) (p k : Nat) (hm : 1 ≤ w.size ∧ w.size ≤ 8) (hk : k < w.size.toNat) : (zw w).data / 2 ^ (8 * k) % 256 = w.data / 2 ^ (8 * k) % 256 := by
  unfold zw zx
  simp only
  obtain ⟨n, hn⟩ : ∃ n : Nat, w.size = n := ⟨w.size.toNat, by omega⟩
  rw [hn] at hk ⊢
  rw [show (8 * (n : Int)).toNat = 8 * k + 8 * (n - k) by omega, Nat.pow_add, Nat.mod_mul_right_div_self]
  exact Nat.mod_mod_of_dvd _ (Nat.pow_dvd_pow 2 (show 8 ≤ 8 * (n - k) by have : ((n : Int)).toNat = n := rfl; omega))
theorem wrt_zw (w : Wr) (hm : 1 ≤ w.size ∧ w.size ≤ 8) (C : List Nat) (k : Nat) : wrt (zw w) w.size.toNat C k = wrt w w.size.toNat C k := by
  by_cases h : k < w.size.toNat
  · rw [wrt_at C h, wrt_at C h, bt_zw w 0 k hm h]
    exact wrt_zw w hm _ (k + 1)
  · rw [wrt, if_neg h, wrt, if_neg h]
termination_by w.size.toNat - k
/-- Entries of the least epoch go first. -/
theorem part_filter {α : Type} (p : α → Bool) : ∀ (l : List α), (∀ x y, [x, y].Sublist l → p y = true → p x = true) → l = l.filter p ++ l.filter fun x => !p x
  | [], _ => rfl
  | a :: l, h => by
    have ih := part_filter p l fun x y hxy hp => h x y (hxy.trans (List.sublist_cons_self a l)) hp
    by_cases c : p a = true
    · rw [List.filter_cons_of_pos c, List.filter_cons_of_neg (by simp [c]), List.cons_append, ← ih]
    · have hn : l.filter p = [] := by
        rw [List.filter_eq_nil_iff]
        intro y hy hp
        exact c (h a y (List.Sublist.cons_cons a (List.singleton_sublist.2 hy)) hp)
      rw [List.filter_cons_of_neg c, hn, List.nil_append, List.filter_cons_of_pos (by simpa using c)]
      rw [hn, List.nil_append] at ih
      rw [← ih]
/-- Stores with a byte keep their order when an entry of the least epoch goes. -/
theorem go_same {L : List SE} {ep : Int} (h : Iv L ep) (κ : Int × Int) (hκ : κ.2 = lea ep (grp L)) (p : Nat) :
    (L.map Prod.fst).filter (cov (p : Int)) = ((L.filter fun x => decide (key x = κ)).map Prod.fst).filter (cov (p : Int)) ++ ((L.filter fun x => decide (key x ≠ κ)).map Prod.fst).filter (cov (p : Int)) := by
  rw [List.filter_map, List.filter_map, List.filter_map, ← List.map_append, List.filter_filter, List.filter_filter]
  congr 1
  have hp := part_filter (fun x : SE => decide (key x = κ)) (L.filter (cov (p : Int) ∘ Prod.fst)) ?_
  · rw [List.filter_filter, List.filter_filter] at hp
    conv => lhs; rw [hp]
    congr 1
    · apply List.filter_congr; intro x _; rw [Bool.and_comm]
    · apply List.filter_congr; intro x _; rw [Bool.and_comm]; simp
  · intro x y hxy hy
    rw [decide_eq_true_eq] at hy ⊢
    have hx1 : x ∈ L.filter (cov (p : Int) ∘ Prod.fst) := hxy.subset (by simp)
    have hy1 : y ∈ L.filter (cov (p : Int) ∘ Prod.fst) := hxy.subset (by simp)
    rw [List.mem_filter] at hx1 hy1
    have e1 := cov_blk (h.may x hx1.1).1 hx1.2
    have e2 := cov_blk (h.may y hy1.1).1 hy1.2
    have hmono := (h.mono.filter _).sublist hxy
    rw [List.pairwise_cons] at hmono
    have hle := hmono.1 y (by simp)
    have hge := lea_le L ep x hx1.1
    rw [← hy] at hκ ⊢
    unfold key at hκ ⊢
    simp only at hκ
    rw [e1, e2, show x.2 = y.2 by omega]
/-! ### the program's loops -/
theorem toImm_by (vs : List (List V)) (tk : List Nat) (H : List Vm.Obj) (d id n : Nat) (C : List Nat) (h : H[id]? = some (.arr (byV C))) (hn : C.length = n) : toImm ⟨vs, tk, H⟩ true (d + 2) (.rsl id 0 n) = some (.isl true (byV C)) := by
  rw [e_imm_rsl]
  have : omap2 (toImm ⟨vs, tk, H⟩ true (d + 1)) (byV C) = some (byV C) := omap2_same fun q hq x hx => by
    obtain ⟨n, _, rfl⟩ := List.mem_map.1 hq
    simp at hx; subst hx; rfl
  simp only [h]
  rw [if_pos (by rw [byV_len]; omega), List.drop_zero, List.take_of_length_le (by rw [byV_len]; omega), this]
  rfl
theorem byV_set (l : List Nat) (k x : Nat) : (byV l).set k [.int .u8 (x : Int)] = byV (l.set k x) := by simp [byV, List.map_set]
section
variable (v pv : V) (acts : List Ac) (picks : List Nat) (hv : Sl v (acR acts)) (hpv : Sl pv (byV picks)) (hok : okA acts) (hpk : ∀ b ∈ picks, b < 256)
include hv hpv
omit hv hpv in
theorem Same_loop0 (i : Nat) (w : Wr) (hw : okS w) (a n : Nat) (ha : w.addr = (a : Int)) (hn : w.size = (n : Int)) (k : Nat) (hk : k ≤ n) (H : List Vm.Obj) (Q : List Nat) (hC : Q.length = 1040) (h1 : H[1]? = some (.arr (byV Q))) :
    evCI pg (.loop ir_undertowlaw13_SbufSamel0) ⟨[v, pv, .undef, .ptr 0 0 0, .rsl 1 0 1040, .rsl 2 0 1040, .int .i64 (i : Int), .lp 0 0, .int .i64 (k : Int), .undef, .undef, .undef, .undef, .undef, .undef, .undef, .undef, .undef, .undef, .undef, .undef, .undef, .undef, .undef, .undef], ⟨[wrV w], [], H⟩⟩ =
      some (.exit 2, ⟨[v, pv, .undef, .ptr 0 0 0, .rsl 1 0 1040, .rsl 2 0 1040, .int .i64 (i : Int), .lp 0 0, .int .i64 (n : Int), .undef, .undef, .undef, .undef, .undef, .undef, .undef, .undef, .undef, .undef, .bool false, .undef, .undef, .undef, .undef, .undef], ⟨[wrV w], [], H.set 1 (.arr (byV (wrt w n Q k)))⟩⟩) := by
  obtain ⟨B, hB⟩ : ∃ B, B = C.loop ir_undertowlaw13_SbufSamel0 := ⟨_, rfl⟩
  have hw' := hw
  unfold okS at hw
  rw [ha, hn] at hw
  have h1l := get_lt h1
  have hwv : wrV w = [.int .i64 w.id, .int .i64 (a : Int), .int .i64 (n : Int), .int .u64 (w.data : Int)] := by unfold wrV; rw [ha, hn]
  have hat : w.addr.toNat = a := by omega
  by_cases h : k < n
  · have ih := Same_loop0 i w hw' a n ha hn (k + 1) (by omega) (H.set 1 (.arr (byV (Q.set (a + k) (w.data / 2 ^ (8 * k) % 256))))) (Q.set (a + k) (w.data / 2 ^ (8 * k) % 256)) (by simpa using hC) (by simp [h1l])
    rw [List.set_set] at ih
    have e3 := succ_i64 h (by omega)
    have ea : IntKind.i64.wrap ((a : Int) + (k : Int)) = ((a + k : Nat) : Int) := by rw [wrap_i64 (by omega) (by omega)]; rfl
    have e2 : IntKind.i64.wrap (8 * (k : Int)) = ((8 * k : Nat) : Int) := by rw [wrap_i64 (by omega) (by omega)]; rfl
    have e2' : IntKind.u64.wrap ((8 * k : Nat) : Int) = ((8 * k : Nat) : Int) := wrap_u64' (by omega)
    have e4 : ((w.data : Int)).fdiv (2 ^ (8 * k)) = ((w.data / 2 ^ (8 * k) : Nat) : Int) := shr_nat _ _
    have e5 : IntKind.u8.wrap ((w.data / 2 ^ (8 * k) : Nat) : Int) = ((w.data / 2 ^ (8 * k) % 256 : Nat) : Int) := by
      show ((w.data / 2 ^ (8 * k) : Nat) : Int) % 256 = _
      rw [Int.natCast_emod]; rfl
    have em : min (8 * k) 64 = 8 * k := by omega
    have hin : ((a + k : Nat) : Int) < 1040 := by omega
    have hg := byV_get Q (a + k) (by omega)
    rw [wrt_at Q h, hat]
    rw [← hB] at ih
    rw [← hB, s_loop_at hB, ← ih, hwv]
    simp [ir_undertowlaw13_SbufSamel0, go_sem, h, ea, e2, e2', e3, e4, e5, em, h1, get_el h1, h1l, hin, hg, byV_set, IntKind.bits, -Int.natCast_add, -Int.natCast_mul, -Int.natCast_emod, -Int.natCast_ediv, -Int.natCast_pow]
  · obtain rfl : k = n := by omega
    rw [wrt_end, ← hB, s_loop_at hB]
    have hset : H.set 1 (.arr (byV Q)) = H := by
      apply List.ext_getElem?
      intro q
      by_cases e : 1 = q
      · subst e; rw [h1]; simp [h1l]
      · simp [e]
    rw [hset, hwv]
    simp [ir_undertowlaw13_SbufSamel0, go_sem]
termination_by n - k
include hok in
theorem Same_loop1 (i : Nat) (hi : i ≤ min acts.length 60) (H : List Vm.Obj) (L : List SE) (ep : Int) (F : Nat → Prop) (hl : Lv H 0 L ep F) (hiv : Iv L ep) (hep : ep ≤ i) (Q : List Nat) (hQ : MemOf (L.map Prod.fst) Q) (G : Vm.Obj) (h1 : H[1]? = some (.arr (byV Q))) (h2 : H[2]? = some G) (hF : ∀ q, F q → q ≠ 1 ∧ q ≠ 2) :
    ∃ H' L' ep' F' Q' c, evCI pg (.loop ir_undertowlaw13_SbufSamel1) ⟨[v, pv, .undef, .ptr 0 0 0, .rsl 1 0 1040, .rsl 2 0 1040, .int .i64 (i : Int), .undef, .undef, .undef, .undef, .undef, .undef, .undef, .undef, .undef, .undef, .undef, .undef, .undef, .undef, .undef, .undef, .undef, .undef], ⟨[[]], [], H⟩⟩ =
      some (.exit 0, ⟨[v, pv, .undef, .ptr 0 0 0, .rsl 1 0 1040, .rsl 2 0 1040, c, .undef, .undef, .undef, .undef, .undef, .undef, .undef, .undef, .undef, .bool false, .undef, .undef, .undef, .undef, .undef, .undef, .undef, .undef], ⟨[[]], [], H'⟩⟩) ∧
      Lv H' 0 L' ep' F' ∧ Iv L' ep' ∧ MemOf (L'.map Prod.fst) Q' ∧ H'[1]? = some (.arr (byV Q')) ∧ H'[2]? = some G ∧ (∀ q, F' q → q ≠ 1 ∧ q ≠ 2) := by
  obtain ⟨B, hB⟩ : ∃ B, B = C.loop ir_undertowlaw13_SbufSamel1 := ⟨_, rfl⟩
  by_cases h : i < min acts.length 60
  · have ha : i < acts.length := by omega
    have h60 : (i : Int) < 60 := by omega
    have e1 := fun m => acg hv ha m
    have e3 := succ_i64 (n := 60) (i := i) (by omega) (by omega)
    have hd := (hok acts[i] (List.getElem_mem _)).1
    have hav : acV acts[i] = .int .i64 acts[i].kind :: wrV acts[i].w := rfl
    have hwv : wrV acts[i].w = [.int .i64 acts[i].w.id, .int .i64 acts[i].w.addr, .int .i64 acts[i].w.size, .int .u64 (acts[i].w.data : Int)] := rfl
    rw [hav, hwv] at e1
    by_cases ck : acts[i].kind = 1
    · obtain ⟨H1, ep1, b1, b2, b3, b4, b5, b6, b7, _⟩ := hl.bar hiv (by omega)
      have l1 := get_lt h1
      have l2 := get_lt h2
      obtain ⟨H', L', ep', F', Q', c, ih, r⟩ := Same_loop1 (i + 1) (by omega) H1 L ep1 F b2 b3 (by omega) Q hQ G (by rw [b7 1 l1 (by omega)]; exact h1) (by rw [b7 2 l2 (by omega)]; exact h2) hF
      refine ⟨H', L', ep', F', Q', c, ?_, r⟩
      rw [← hB] at ih
      rw [← hB, s_loop_at hB, ← ih]
      simp [ir_undertowlaw13_SbufSamel1, go_sem, hv.is, hpv.is, hv.rows, acR_len, ha, h60, e1, e3, ck, b1, -Int.natCast_add]
    · cases hf : fits13 (grp L) ep acts[i].w with
      | false =>
        have hp := hl.putno hiv acts[i].w hf
        rw [hwv] at hp
        obtain ⟨H', L', ep', F', Q', c, ih, r⟩ := Same_loop1 (i + 1) (by omega) H L ep F hl hiv (by omega) Q hQ G h1 h2 hF
        refine ⟨H', L', ep', F', Q', c, ?_, r⟩
        rw [← hB] at ih
        rw [← hB, s_loop_at hB, ← ih]
        simp [ir_undertowlaw13_SbufSamel1, go_sem, hv.is, hpv.is, hv.rows, acR_len, ha, h60, e1, e3, ck, hp, -Int.natCast_add]
      | true =>
        obtain ⟨H1, F1, b1, b2, b3, b4, b5, b6⟩ := hl.put hiv acts[i].w hd hf
        have l1 := get_lt h1
        have l2 := get_lt h2
        have hm : mayW acts[i].w = true := by unfold fits13 at hf; rw [Bool.and_eq_true] at hf; exact hf.1
        have hokw := okS_may hm hd
        have h1' : H1[1]? = some (.arr (byV Q)) := by rw [b5 1 l1 (fun hc => (hF 1 hc).1 rfl)]; exact h1
        have h2' : H1[2]? = some G := by rw [b5 2 l2 (fun hc => (hF 2 hc).2 rfl)]; exact h2
        have hb := may_addr hm
        obtain ⟨a, haa⟩ : ∃ a : Nat, acts[i].w.addr = a := ⟨acts[i].w.addr.toNat, by omega⟩
        obtain ⟨n, hnn⟩ : ∃ n : Nat, acts[i].w.size = n := ⟨acts[i].w.size.toNat, by omega⟩
        have h0 := Same_loop0 v pv i acts[i].w hokw a n haa hnn 0 (by omega) H1 Q hQ.1 h1'
        rw [Int.natCast_zero, hwv] at h0
        rw [hwv] at b1
        have hF1 : ∀ q, F1 q → q ≠ 1 ∧ q ≠ 2 := fun q hq => by
          rcases b6 q hq with hc | hc
          · exact hF q hc
          · omega
        have hl1 : Lv (H1.set 1 (.arr (byV (wrt acts[i].w n Q 0)))) 0 (L ++ [(zw acts[i].w, ep)]) ep F1 := b2.frame fun q hq => List.getElem?_set_ne (fun e => (hF1 q hq).1 e.symm)
        have hQ1 : MemOf ((L ++ [(zw acts[i].w, ep)]).map Prod.fst) (wrt acts[i].w n Q 0) := by
          rw [List.map_append]
          have hz : okS (zw acts[i].w) := ⟨hokw.1, hokw.2.1, hokw.2.2.1, hokw.2.2.2.1, zx_lt hd⟩
          have := hQ.snoc (zw acts[i].w) hz
          have hsz : (zw acts[i].w).size.toNat = acts[i].w.size.toNat := rfl
          rw [hsz, wrt_zw _ ⟨hb.2.2.1, hb.2.2.2⟩] at this
          have hn2 : acts[i].w.size.toNat = n := by omega
          rw [hn2] at this
          exact this
        have l1' : 1 < H1.length := get_lt h1'
        obtain ⟨H', L', ep', F', Q', c, ih, r⟩ := Same_loop1 (i + 1) (by omega) _ _ ep F1 hl1 b3 (by omega) _ hQ1 G (by rw [List.getElem?_set_self l1']) (by rw [List.getElem?_set_ne (by omega)]; exact h2') hF1
        refine ⟨H', L', ep', F', Q', c, ?_, r⟩
        rw [← hB] at ih
        rw [← hB, s_loop_at hB, ← ih]
        rw [haa, hnn] at e1 b1 h0
        simp [ir_undertowlaw13_SbufSamel1, go_sem, hv.is, hpv.is, hv.rows, acR_len, ha, h60, e1, e3, ck, b1, h0, -Int.natCast_add]
  · refine ⟨H, L, ep, F, Q, .int .i64 (i : Int), ?_, hl, hiv, hQ, h1, h2, hF⟩
    rw [← hB, s_loop_at hB]
    by_cases c1 : i < acts.length
    · have c2 : ¬ (i : Int) < 60 := by omega
      simp [ir_undertowlaw13_SbufSamel1, go_sem, hv.is, hpv.is, hv.rows, acR_len, c1, c2]
    · simp [ir_undertowlaw13_SbufSamel1, go_sem, hv.is, hpv.is, hv.rows, acR_len, c1]
termination_by 60 - i
end
end Go.Proofs.Ytaedicechhbhdaa
