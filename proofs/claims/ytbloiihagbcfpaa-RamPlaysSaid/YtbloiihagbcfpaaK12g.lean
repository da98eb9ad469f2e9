/- Layer 12: the document's memory, looked at (no claim; lemmas). -/
import Derived.Test.YtbloiihagbcfpaaK12f
set_option linter.unusedSimpArgs false
set_option linter.unusedVariables false
namespace Go.Proofs.Ytbloiihagbcfpaa
open Go Go.Vm

def rfC (av lv : V) (r : P3) : List V := [av, lv, .int .i64 0, .int .i64 r.a0, .int .i64 r.n0, .int .u64 0, .int .i64 0, .int .i64 r.a1, .int .i64 r.n1, .int .u64 0, .int .i64 0, .int .i64 r.a2, .int .i64 r.n2, .int .u64 0]
theorem refMay_ok (t : Bool) (av : V) (at_ : List Nat) (ha : Sl av (byV at_)) (hL : at_.length ≤ 1024) (cs : List V) (a n : Int) (hi : i64B a) :
    evI pg .val n_undertowref12_Ram_May [.ip t (av :: cs) 0, .int .i64 a, .int .i64 n] [] = some (.bool (mayB at_.length a n), []) := by
  have hA := refAligned_ok a n hi.1 hi.2
  rw [s_fn fn_undertowref12_Ram_May]
  unfold mayB
  cases hq : algn a n with
  | false =>
    rw [hq] at hA
    simp [ir_undertowref12_Ram_May, go_sem, hA]
  | true =>
    rw [hq] at hA
    have hn := algn_n hq
    have ha0 := algn_a hq
    by_cases c : a ≤ 2000
    · have e1 : IntKind.i64.wrap (a + n) = a + n := wrap_i64 (by omega) (by omega)
      simp [ir_undertowref12_Ram_May, go_sem, hA, c, e1, ha.is, ha.rows, byV_len]
      rw [Bool.eq_iff_iff]
      simp
      omega
    · have c2 : ¬ a ≤ (at_.length : Int) - n := by omega
      simp [ir_undertowref12_Ram_May, go_sem, hA, c, c2]
theorem refHas_ok (t : Bool) (av lv : V) (at_ : List Nat) (ha : Sl av (byV at_)) (hl : isS lv = true) (hL : at_.length ≤ 1024) (r : P3) (h a n : Int) (hi : i64B a) :
    evI pg .val n_undertowref12_Ram_Has [.ip t (rfC av lv r) 0, .int .i64 h, .int .i64 a, .int .i64 n] [] = some (.bool (mayB at_.length a n && isH h && decide (r.get h = (a, n))), []) := by
  have hm := refMay_ok t av at_ ha hL [lv, .int .i64 0, .int .i64 r.a0, .int .i64 r.n0, .int .u64 0, .int .i64 0, .int .i64 r.a1, .int .i64 r.n1, .int .u64 0, .int .i64 0, .int .i64 r.a2, .int .i64 r.n2, .int .u64 0] a n hi
  rw [s_fn fn_undertowref12_Ram_Has]
  unfold rfC
  cases hq : mayB at_.length a n with
  | false =>
    rw [hq] at hm
    simp [ir_undertowref12_Ram_Has, go_sem, hm, ha.is, hl]
  | true =>
    rw [hq] at hm
    by_cases h0 : 0 ≤ h
    · by_cases h2 : h ≤ 2
      · have hh : isH h = true := by unfold isH; simp; omega
        obtain ⟨a0, n0, a1, n1, a2, n2⟩ := r
        simp only at hm ⊢
        rcases isH_three hh with rfl | rfl | rfl
        · by_cases d : n0 = n
          · subst d
            by_cases d2 : a0 = a
            · subst d2
              simp [ir_undertowref12_Ram_Has, go_sem, hm, ha.is, hl, isH, P3.get]
            · simp [ir_undertowref12_Ram_Has, go_sem, hm, ha.is, hl, isH, P3.get, d2]
          · simp [ir_undertowref12_Ram_Has, go_sem, hm, ha.is, hl, isH, P3.get, d]
        · by_cases d : n1 = n
          · subst d
            by_cases d2 : a1 = a
            · subst d2
              simp [ir_undertowref12_Ram_Has, go_sem, hm, ha.is, hl, isH, P3.get]
            · simp [ir_undertowref12_Ram_Has, go_sem, hm, ha.is, hl, isH, P3.get, d2]
          · simp [ir_undertowref12_Ram_Has, go_sem, hm, ha.is, hl, isH, P3.get, d]
        · by_cases d : n2 = n
          · subst d
            by_cases d2 : a2 = a
            · subst d2
              simp [ir_undertowref12_Ram_Has, go_sem, hm, ha.is, hl, isH, P3.get]
            · simp [ir_undertowref12_Ram_Has, go_sem, hm, ha.is, hl, isH, P3.get, d2]
          · simp [ir_undertowref12_Ram_Has, go_sem, hm, ha.is, hl, isH, P3.get, d]
      · have hh : isH h = false := by unfold isH; simp; omega
        simp [ir_undertowref12_Ram_Has, go_sem, hm, ha.is, hl, h0, h2, hh]
    · have hh : isH h = false := by unfold isH; simp; omega
      simp [ir_undertowref12_Ram_Has, go_sem, hm, ha.is, hl, h0, hh]

/-! ### a byte -/
def lastC (log : List Wr) (k : Nat) : Option Wr := log.foldl (fun acc w => if cov w k then some w else acc) none
theorem lastC_W (x : Nat) (log : List Wr) (k : Nat) : lastW x log k = match lastC log k with
    | some w => (byteOf w k, w.id)
    | none => (x, -1) := by
  unfold lastW lastC
  have : ∀ (log : List Wr) (o : Option Wr), log.foldl (lastS k) (match o with | some w => (byteOf w k, w.id) | none => (x, -1)) = match log.foldl (fun acc w => if cov w k then some w else acc) o with
      | some w => (byteOf w k, w.id)
      | none => (x, -1) := by
    intro log
    induction log with
    | nil => intro o; rfl
    | cons w log ih =>
      intro o
      rw [List.foldl_cons, List.foldl_cons, ← ih]
      congr 1
      unfold lastS
      cases cov w k <;> simp
  exact this log none
theorem lastC_app (log : List Wr) (w : Wr) (k : Nat) : lastC (log ++ [w]) k = if cov w k then some w else lastC log k := by
  unfold lastC
  rw [List.foldl_append]; rfl
theorem Byte_loop (t : Bool) (av lv : V) (log : List Wr) (hl : Sl lv (wsV log)) (ha : isS av = true) (cs : List V) (L : Nat) (hL : L ≤ 1024) (hok : ∀ w ∈ log, okLog L w) (k : Nat) (hk : k < L) : ∀ n, n ≤ log.length → log.length ≤ 1000000 →
    evCI pg (.loop ir_undertowref12_Ram_Bytel0) ⟨[.ip t (av :: lv :: cs) 0, .int .i64 (k : Int), .undef, .undef, .int .i64 ((n : Int) - 1), .undef, .undef, .undef], ⟨[[]], [], []⟩⟩ =
      some (match lastC (log.take n) k with
        | some w => (.ret, ⟨[.undef, .undef, .int .u8 (byteOf w k : Int), .int .i64 w.id, .undef, .undef, .undef, .undef], ⟨[[]], [], []⟩⟩)
        | none => (.exit 0, ⟨[.ip t (av :: lv :: cs) 0, .int .i64 (k : Int), .undef, .undef, .int .i64 (-1), .undef, .bool false, .undef], ⟨[[]], [], []⟩⟩))
  | 0, _, _ => by
    rw [s_loop]
    simp [ir_undertowref12_Ram_Bytel0, go_sem, lastC]
  | n + 1, hn, hl6 => by
    have hnl : n < log.length := by omega
    have e1 := fun m => hl.ia (sz := 4) m .i64 (i := n) (by rw [wsV_len]; omega) (wsV_sz _ _ (List.getElem_mem _))
    simp only [wsV_el] at e1
    have ho := hok log[n] (List.getElem_mem _)
    have ih := Byte_loop t av lv log hl ha cs L hL hok k hk n (by omega) hl6
    have e0 : ((n + 1 : Nat) : Int) - 1 = (n : Int) := by omega
    have e6 : IntKind.i64.wrap ((n : Int) - 1) = (n : Int) - 1 := wrap_i64 (by omega) (by omega)
    rw [e0, List.take_succ_eq_append_getElem hnl, lastC_app]
    obtain ⟨B, hB⟩ : ∃ B, B = C.loop ir_undertowref12_Ram_Bytel0 := ⟨_, rfl⟩
    rw [← hB] at ih
    rw [← hB, s_loop_at hB]
    revert e1 ho
    generalize log[n] = w
    intro e1 ho
    obtain ⟨w1, w2, w3, w4⟩ := w
    obtain ⟨o1, o2, o3, o4, o5⟩ := ho
    simp only at o1 o2 o3 o4 o5
    obtain ⟨an, rfl⟩ : ∃ an : Nat, w2 = (an : Int) := ⟨w2.toNat, by omega⟩
    have e2 : IntKind.i64.wrap ((an : Int) + w3) = (an : Int) + w3 := wrap_i64 (by omega) (by omega)
    unfold cov
    simp only [wrV] at e1
    by_cases c1 : an ≤ k
    · by_cases c2 : (k : Int) < (an : Int) + w3
      · have c3 : (decide ((an : Int) ≤ (k : Int)) && decide ((k : Int) < (an : Int) + w3)) = true := by simp [c2]; omega
        rw [if_pos c3]
        have e3 : IntKind.i64.wrap ((k : Int) - (an : Int)) = ((k - an : Nat) : Int) := by rw [wrap_i64 (by omega) (by omega)]; omega
        have e4 : IntKind.i64.wrap (8 * ((k - an : Nat) : Int)) = ((8 * (k - an) : Nat) : Int) := by rw [wrap_i64 (by omega) (by omega)]; omega
        have e5 : IntKind.u64.wrap ((8 * (k - an) : Nat) : Int) = ((8 * (k - an) : Nat) : Int) := wrap_u64' (by omega)
        have e7 : min (8 * (k - an)) 64 = 8 * (k - an) := by omega
        have e8 : ((w4 : Int)).fdiv (2 ^ (8 * (k - an))) = ((w4 / 256 ^ (k - an) : Nat) : Int) := by rw [shr_nat, Nat.pow_mul]
        have e9 : IntKind.u8.wrap ((w4 / 256 ^ (k - an) : Nat) : Int) = ((w4 / 256 ^ (k - an) % 256 : Nat) : Int) := wrap_u8 _
        have e10 : byteOf ⟨w1, (an : Int), w3, w4⟩ k = w4 / 256 ^ (k - an) % 256 := by
          unfold byteOf
          simp only
          rw [show ((k : Int) - (an : Int)).toNat = k - an by omega]
        simp only [e10]
        simp [ir_undertowref12_Ram_Bytel0, go_sem, hl.is, hl.rows, ha, c1, c2, e1, e2, e3, e4, e5, e7, e8, e9, IntKind.bits, -Int.natCast_add, -Int.natCast_mul, -Int.natCast_emod, -Int.natCast_ediv, -Int.natCast_pow]
      · have c3 : ¬ (decide ((an : Int) ≤ (k : Int)) && decide ((k : Int) < (an : Int) + w3)) = true := by simp [c2]
        rw [if_neg c3]
        simp [ir_undertowref12_Ram_Bytel0, go_sem, hl.is, hl.rows, ha, c1, c2, e1, e2, e6, ih]
    · have c3 : ¬ (decide ((an : Int) ≤ (k : Int)) && decide ((k : Int) < (an : Int) + w3)) = true := by simp; omega
      rw [if_neg c3]
      simp [ir_undertowref12_Ram_Bytel0, go_sem, hl.is, hl.rows, ha, c1, e1, e2, e6, ih]
theorem Byte_ok (t : Bool) (av lv : V) (at_ : List Nat) (log : List Wr) (ha : Sl av (byV at_)) (hl : Sl lv (wsV log)) (cs : List V) (hL : at_.length ≤ 1024) (hok : ∀ w ∈ log, okLog at_.length w) (hn : log.length ≤ 1000000) (k : Nat) (hk : k < at_.length) :
    evI pg .val n_undertowref12_Ram_Byte [.ip t (av :: lv :: cs) 0, .int .i64 (k : Int)] [] = some (.tup [.int .u8 ((lastW at_[k] log k).1 : Int), .int .i64 (lastW at_[k] log k).2], []) := by
  have hlp := Byte_loop t av lv log hl ha.is cs at_.length hL hok k hk log.length (Nat.le_refl _) hn
  rw [List.take_length] at hlp
  have e1 := fun m => ha.ia (sz := 1) m .i64 (i := k) (by rw [byV_len]; omega) (byV_elS _ _ _)
  simp only [byV_el] at e1
  have e2 : IntKind.i64.wrap ((log.length : Int) - 1) = (log.length : Int) - 1 := wrap_i64 (by omega) (by omega)
  rw [s_fn fn_undertowref12_Ram_Byte, lastC_W]
  cases hc : lastC log k with
  | some w =>
    rw [hc] at hlp
    simp [ir_undertowref12_Ram_Byte, go_sem, hl.is, hl.rows, ha.is, wsV_len, e2, hlp]
  | none =>
    rw [hc] at hlp
    simp [ir_undertowref12_Ram_Byte, go_sem, hl.is, hl.rows, ha.is, wsV_len, e2, hlp, e1]
end Go.Proofs.Ytbloiihagbcfpaa
