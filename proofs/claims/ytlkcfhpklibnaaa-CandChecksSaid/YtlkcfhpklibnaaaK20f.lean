/- Layer 20: bytes of events, places, writers (no claim; lemmas). -/
import Derived.Test.YtlkcfhpklibnaaaK20d
set_option linter.unusedSimpArgs false
set_option linter.unusedVariables false
set_option maxRecDepth 20000
namespace Go.Proofs.Ytlkcfhpklibnaaa
open Go Go.Vm

/-- Has an event a byte? -/
def hasB (e : Ev) (at_ : Int) : Bool := decide (0 ≤ adE e.r) && (decide (adE e.r ≤ at_) && decide (at_ - adE e.r < (szO e.r.ins.op : Nat)))
def bh (e : Ev) (at_ : Int) : Bool := sto e.r.ins.op && hasB e at_
def bytE (e : Ev) (at_ : Int) : Nat := if bh e at_ then e.r.wro.toNat / 2 ^ (8 * (at_ - adE e.r).toNat) % 256 else 0
theorem adE_le {r : Rt} (h : 0 ≤ r.addr) : -1 ≤ adE r ∧ adE r ≤ 1024 := by unfold adE; split <;> omega
theorem has_ok (e : Ev) (hb : Bd e.r) (at_ : Int) (ha : -100000 ≤ at_ ∧ at_ ≤ 100000) : evI pg .val n_cand_has [.agg (evC e), .int .i64 at_] [] = some (.bool (hasB e at_), []) := by
  have had := adE_le hb.ad.1
  have hw : IntKind.i64.wrap (at_ - adE e.r) = at_ - adE e.r := wrap_i64 (by omega) (by omega)
  unfold hasB
  rw [s_fn fn_cand_has]
  by_cases c : 0 ≤ adE e.r
  · by_cases d : adE e.r ≤ at_
    · by_cases f : at_ - adE e.r < (szO e.r.ins.op : Nat)
      · simp [ir_cand_has, go_sem, c, d, f, hw, V.cells, V.exp, loadAt]
      · simp [ir_cand_has, go_sem, c, d, f, hw, V.cells, V.exp, loadAt]
    · simp [ir_cand_has, go_sem, c, d, V.cells, V.exp, loadAt]
  · simp [ir_cand_has, go_sem, c, V.cells, V.exp, loadAt]
theorem hasB_pos {e : Ev} {at_ : Int} (h : hasB e at_ = true) : 0 ≤ adE e.r ∧ ∃ d : Nat, d < 8 ∧ at_ = adE e.r + d := by
  unfold hasB at h
  simp only [Bool.and_eq_true, decide_eq_true_eq] at h
  have := szO_le e.r.ins.op
  exact ⟨h.1, (at_ - adE e.r).toNat, by omega, by omega⟩
theorem evC_wro (e : Ev) (h : 16 < (evC e).length) : (evC e)[16] = .int .u64 e.r.wro := rfl
theorem evCq_wro (e : Ev) : (evC e)[16]? = some (.int .u64 e.r.wro) := rfl
theorem evC_rdd (e : Ev) (h : 15 < (evC e).length) : (evC e)[15] = .int .u64 e.r.rdd := rfl
theorem evCq_rdd (e : Ev) : (evC e)[15]? = some (.int .u64 e.r.rdd) := rfl
theorem evC_addr (e : Ev) (h : 14 < (evC e).length) : (evC e)[14] = .int .u64 e.r.addr := rfl
theorem evCq_addr (e : Ev) : (evC e)[14]? = some (.int .u64 e.r.addr) := rfl
theorem evCq_op2 (e : Ev) : (evC e)[3]? = some (.int .i64 e.r.ins.op) := rfl
attribute [go_sem] evC_wro evCq_wro evC_rdd evCq_rdd evC_addr evCq_addr evCq_op2
theorem Byte_ok (e : Ev) (hb : Bd e.r) (at_ : Int) (ha : -100000 ≤ at_ ∧ at_ ≤ 100000) : evI pg .val n_cand_Byte [.agg (evC e), .int .i64 at_] [] = some (.tup [.int .u8 (bytE e at_ : Nat), .bool (bh e at_)], []) := by
  have hh := has_ok e hb at_ ha
  have had := adE_le hb.ad.1
  have hfl := eq_true (evC_flat e)
  unfold bytE bh
  rw [s_fn fn_cand_Byte]
  cases s : sto e.r.ins.op with
  | false => simp [ir_cand_Byte, go_sem, s, V.cells, V.exp]
  | true =>
    cases q : hasB e at_ with
    | false =>
      rw [q] at hh
      simp [ir_cand_Byte, go_sem, s, hh, V.cells, V.exp]
    | true =>
      rw [q] at hh
      obtain ⟨h0, d, hd, rfl⟩ := hasB_pos q
      obtain ⟨wn, hwn⟩ : ∃ wn : Nat, e.r.wro = (wn : Int) := ⟨e.r.wro.toNat, (Int.toNat_of_nonneg hb.wr.1).symm⟩
      have e1 : IntKind.i64.wrap (adE e.r + (d : Int) - adE e.r) = (d : Int) := by rw [show adE e.r + (d : Int) - adE e.r = (d : Int) by omega]; exact wrap_i64 (by omega) (by omega)
      have e2 : IntKind.i64.wrap (8 * (d : Int)) = ((8 * d : Nat) : Int) := by rw [wrap_i64 (by omega) (by omega)]; rfl
      have e3 : (adE e.r + (d : Int) - adE e.r).toNat = d := by omega
      have e4 : ¬ ((8 * d : Nat) : Int) < 0 := by omega
      have e5 : Nat.min (8 * d) 64 = 8 * d := Nat.min_eq_left (by omega)
      have e5' : min (8 * d) 64 = 8 * d := Nat.min_eq_left (by omega)
      have e6 := shr_nat wn (8 * d)
      have e7 : IntKind.u8.wrap ((wn / 2 ^ (8 * d) : Nat) : Int) = ((wn / 2 ^ (8 * d) % 256 : Nat) : Int) := by
        generalize wn / 2 ^ (8 * d) = x
        rw [wrap_u8]
      have e8 : IntKind.u64.bits = 64 := rfl
      rw [e3, hwn, Int.toNat_natCast]
      simp [ir_cand_Byte, go_sem, s, hh, hwn, e1, e2, e4, e5, e5', e6, e7, e8, V.cells, V.exp, -Int.natCast_mul, -Int.natCast_ediv, -Int.natCast_emod, -Int.natCast_pow]
/-! ### places -/
def whr (op addr : Int) (len : Nat) : Nat := if szO op = 0 then 0 else if addr.toNat % szO op ≠ 0 then 4 else if len < szO op ∨ len - szO op < addr.toNat then 3 else 0
theorem Where_ok (op addr : Int) (ha : 0 ≤ addr ∧ addr < 18446744073709551616) (len : Nat) (hl : len ≤ 100000) : evI pg .val n_alu_Where [.int .i64 op, .int .u64 addr, .int .i64 (len : Int)] [] = some (.int .i64 (whr op addr len : Nat), []) := by
  have hZ := SizeO op
  have h8 := szO_le op
  unfold whr
  rw [s_fn fn_alu_Where]
  generalize szO op = z at *
  obtain ⟨a, rfl⟩ : ∃ a : Nat, addr = (a : Int) := ⟨addr.toNat, (Int.toNat_of_nonneg ha.1).symm⟩
  have w1 : IntKind.u64.wrap (z : Int) = (z : Int) := wrap_u64' (by omega)
  have w2 : IntKind.i64.wrap (z : Int) = (z : Int) := wrap_i64 (by omega) (by omega)
  rw [Int.toNat_natCast]
  by_cases c : z = 0
  · subst c
    have z0 : IntKind.u64.wrap 0 = 0 := rfl
    simp [ir_alu_Where, go_sem, hZ, z0]
  · have c' : ¬ (z : Int) = 0 := by omega
    have t1 : ((a : Int)).tmod (z : Int) = ((a % z : Nat) : Int) := by rw [Int.tmod_eq_emod_of_nonneg (by omega)]; rfl
    have w3 : IntKind.u64.wrap ((a % z : Nat) : Int) = ((a % z : Nat) : Int) := wrap_u64' (by have := Nat.mod_lt a (show 0 < z by omega); omega)
    by_cases d : a % z = 0
    · by_cases f : len < z
      · have f' : (len : Int) < (z : Int) := by omega
        simp [ir_alu_Where, go_sem, hZ, w1, w2, w3, c, c', t1, d, f, f', -Int.natCast_emod]
      · have f' : ¬ (len : Int) < (z : Int) := by omega
        have w4 : IntKind.u64.wrap (len : Int) = (len : Int) := wrap_u64' (by omega)
        have w5 : IntKind.u64.wrap ((len : Int) - (z : Int)) = ((len - z : Nat) : Int) := by
          rw [show (len : Int) - (z : Int) = ((len - z : Nat) : Int) by omega]
          exact wrap_u64' (by omega)
        by_cases g : len - z < a
        · have g' : ((len - z : Nat) : Int) < (a : Int) := by omega
          simp [ir_alu_Where, go_sem, hZ, w1, w2, w3, w4, w5, c, c', t1, d, f, f', g, g', -Int.natCast_emod]
        · have g' : ¬ ((len - z : Nat) : Int) < (a : Int) := by omega
          have g2 : (a : Int) ≤ ((len - z : Nat) : Int) := by omega
          simp [ir_alu_Where, go_sem, hZ, w1, w2, w3, w4, w5, c, c', t1, d, f, f', g, g', g2, -Int.natCast_emod]
    · have d' : ¬ ((a % z : Nat) : Int) = 0 := by omega
      simp [ir_alu_Where, go_sem, hZ, w1, w2, w3, c, c', t1, d, d', -Int.natCast_emod]
end Go.Proofs.Ytlkcfhpklibnaaa
