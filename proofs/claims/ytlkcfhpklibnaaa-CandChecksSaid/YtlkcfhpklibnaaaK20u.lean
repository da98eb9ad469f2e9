/- Layer 20: what the law CandTurned needs of cells and lists (no claim; lemmas). -/
import Derived.Test.YtlkcfhpklibnaaaK20t
set_option linter.unusedSimpArgs false
set_option linter.unusedVariables false
set_option maxRecDepth 20000
namespace Go.Proofs.Ytlkcfhpklibnaaa
open Go Go.Vm

def rRd (r : Rt) (x : Int) : Rt := { r with rdd := x }
def rTg (r : Rt) (k : Nat) (x : Int) : Rt := { r with tg := fun j => if j = k then x else r.tg j }
def rId (r : Rt) : Rt := { r with id := -1 }
theorem rC_rd (r : Rt) (x : Int) : (rC r).take 13 ++ .int .u64 x :: (rC r).drop 14 = rC (rRd r x) := rfl
theorem rC_idm (r : Rt) : (rC r).take 16 ++ .int .i64 (-1) :: (rC r).drop 17 = rC (rId r) := rfl
theorem rC_tg (r : Rt) {k : Nat} (hk : k < 8) (x : Int) : (rC r).take (18 + k) ++ .int .i64 x :: (rC r).drop (18 + k + 1) = rC (rTg r k x) := by
  match k, hk with
  | 0, _ => rfl
  | 1, _ => rfl
  | 2, _ => rfl
  | 3, _ => rfl
  | 4, _ => rfl
  | 5, _ => rfl
  | 6, _ => rfl
  | 7, _ => rfl
theorem rC_rddq (r : Rt) : (rC r)[13]? = some (.int .u64 r.rdd) := rfl
theorem rC_rdd (r : Rt) (h : 13 < (rC r).length) : (rC r)[13] = .int .u64 r.rdd := rfl
theorem rC_d27 (r : Rt) : (rC r).drop 27 = [] := rfl
theorem rC_t27 (r : Rt) : (rC r).take 27 = rC r := rfl
attribute [go_sem] rC_rddq rC_rdd
theorem rwR_set (l : List Rt) (i : Nat) (r : Rt) : (rwR l).set i (rC r) = rwR (l.set i r) := by simp [rwR, List.map_set]
theorem rwR_get {l : List Rt} {i : Nat} {r : Rt} (h : l[i]? = some r) : (rwR l)[i]? = some (rC r) := by
  unfold rwR
  rw [List.getElem?_map, h]; rfl
theorem rwR_imm7 (l : List Rt) (m : Mem) (t : Bool) (d : Nat) : omap2 (toImm m t (d + 1)) (rwR l) = some (rwR l) := omap2_same fun q hq x hx => by
  obtain ⟨r, _, rfl⟩ := List.mem_map.1 hq
  exact rC_all r (fun v => toImm m t (d + 1) v = some v) (fun _ _ => rfl) (fun _ => rfl) (fun _ => rfl) x hx
theorem rwR_flat' (l : List Rt) : flatAll (rwR l) = true := by
  simp only [flatAll, rwR, List.all_eq_true, List.mem_map]
  rintro _ ⟨r, _, rfl⟩
  exact rC_all r (fun v => v.flat = true) (fun _ _ => rfl) (fun _ => rfl) (fun _ => rfl)
theorem rwR_szA7 (l : List Rt) : szAll 27 (rwR l) = true := by
  simp only [szAll, List.all_eq_true]
  intro e he
  rw [rwR_sz l e he]
  rfl
theorem app_copy {l : List Rt} {v : V} (hv : Sl v (rwR l)) (h0 : l.length ≠ 0) (hl : l.length ≤ 1000) (vs : List (List V)) (tk : List Nat) : appV 0 27 208 ⟨vs, tk, []⟩ .nils v = some (.rsl 0 0 l.length, ⟨vs, tk, [.arr (rwR l)]⟩) := by
  have hs := S_src (m := ⟨vs, tk, []⟩) hv.is
  have hne : (rwR l).isEmpty = false := by
    cases hq : l with
    | nil => rw [hq] at h0; simp at h0
    | cons a l => rfl
  have hf : fits 208 l.length = true := fits_of (by omega) (by omega)
  unfold appV
  rw [hs, hv.rows]
  simp only [hne, rwR_len, hf, rwR_szA7, rwR_flat', Bool.false_eq_true, if_false, Bool.and_self, Bool.not_true, if_true, List.length_nil, List.nil_append]
/-! ### the bit -/
theorem xor_bit (a n : Nat) (hn : n < 8) (ha : a < 18446744073709551616) : ∃ y : Nat, xorI .u64 (a : Int) ((2 ^ (8 * n) : Nat) : Int) = (y : Int) ∧ y / 256 ^ n % 256 ≠ a / 256 ^ n % 256 := by
  have hp : 2 ^ (8 * n) < 18446744073709551616 := by
    have := Nat.pow_lt_pow_right (a := 2) (by omega) (show 8 * n < 64 by omega)
    omega
  refine ⟨a ^^^ 2 ^ (8 * n), ?_, ?_⟩
  · unfold xorI
    have e1 : (BitVec.ofInt IntKind.u64.bits (a : Int)).toNat = a := by
      show (BitVec.ofInt 64 (a : Int)).toNat = a
      rw [BitVec.toNat_ofInt]
      omega
    have e2 : (BitVec.ofInt IntKind.u64.bits ((2 ^ (8 * n) : Nat) : Int)).toNat = 2 ^ (8 * n) := by
      show (BitVec.ofInt 64 ((2 ^ (8 * n) : Nat) : Int)).toNat = 2 ^ (8 * n)
      rw [BitVec.toNat_ofInt]
      generalize 2 ^ (8 * n) = q at *
      omega
    rw [BitVec.toNat_xor, e1, e2]
    exact wrap_u64' (by
      have h64 : (18446744073709551616 : Nat) = 2 ^ 64 := by decide
      rw [h64] at ha hp ⊢
      exact Nat.xor_lt_two_pow ha hp)
  · intro h
    have e : ∀ x : Nat, (x / 256 ^ n % 256).testBit 0 = x.testBit (8 * n) := fun x => by
      have h256 : (256 : Nat) ^ n = 2 ^ (8 * n) := by rw [Nat.pow_mul]
      rw [h256, show (256 : Nat) = 2 ^ 8 from rfl, Nat.testBit_mod_two_pow, Nat.testBit_div_two_pow]
      simp
    have h1 := congrArg (fun x => Nat.testBit x 0) h
    simp only [e, Nat.testBit_xor, Nat.testBit_two_pow_self] at h1
    cases a.testBit (8 * n) <;> simp at h1
/-! ### whose number -/
theorem fid_none {E : List Ev} {x : Int} (h : fid E x = none) : (E.map Ev.r).find? (fun r => decide (r.id = x)) = none := by
  unfold fid fdx at h
  rw [List.drop_zero, Option.map_eq_none_iff, List.findIdx?_eq_none_iff] at h
  rw [List.find?_eq_none]
  intro r hr
  obtain ⟨e, he, rfl⟩ := List.mem_map.1 hr
  simpa using h e he
theorem fid_some {E : List Ev} {x : Int} {j : Nat} (h : fid E x = some j) : ∃ hj : j < E.length, (E[j]).r.id = x := by
  unfold fid fdx at h
  rw [List.drop_zero, Option.map_eq_some_iff] at h
  obtain ⟨i, hi, rfl⟩ := h
  obtain ⟨h1, h2, _⟩ := List.findIdx?_eq_some_iff_getElem.1 hi
  exact ⟨h1, by simpa using h2⟩
theorem no_store {R : Nat → List Rt} (hn : ((allR R).map Rt.id).Nodup) {x : Int} (h : ∀ j, fid (evs R) x = some j → ∀ e, (evs R)[j]? = some e → sto e.r.ins.op = false) : ∀ a, wrBr ((allR R).filter isE) x a = false := by
  intro a
  have hn' : (((evs R).map Ev.r).map Rt.id).Nodup := by
    rw [evs_r]
    exact hn.sublist ((List.filter_sublist).map _)
  rw [← evs_r]
  unfold wrBr
  cases q : fid (evs R) x with
  | none => rw [fid_none q]
  | some j =>
    obtain ⟨hj, hid⟩ := fid_some q
    have hs := h j q _ (List.getElem?_eq_getElem hj)
    rw [(find_iff hn').2 ⟨List.mem_map_of_mem (List.getElem_mem hj), hid⟩]
    show bh (e0 ((evs R)[j]).r) a = false
    unfold bh e0
    simp only [hs, Bool.false_and]
theorem Cn.lk {v x0 : V} {lv : Nat → V} {x4 : V} {R : Nat → List Rt} {img : List Nat} {cv : List V} {co : List (List Int)} (c : Cn v x0 lv x4 R img cv co) (h : (∀ h, h < 3 → (R h).length ≤ 60) ∧ img.length ≤ 200 ∧ cv.length ≤ 300 ∧ ∀ l ∈ co, l.length ≤ 100) :
    Lk x0 lv x4 (ils (evR (evs R))) R img cv co := by
  obtain ⟨h1, h2, h3, h4⟩ := h
  refine ⟨c.im, ⟨c.ib.1, by omega⟩, fun h hh => ⟨(c.li h hh).1, (c.li h hh).2.1, ?_⟩, c.co4, c.cs, by omega, fun l hl => ?_, .ils _⟩
  · have := h1 h hh; omega
  · have := h4 l hl; omega
theorem lk_put {x0 : V} {lv : Nat → V} {x4 u : V} {R : Nat → List Rt} {img : List Nat} {cv : List V} {co : List (List Int)} (w : Lk x0 lv x4 u R img cv co) {n i : Nat} (hn : n < 3) (r' : Rt) (hb : Bd r') :
    Lk x0 (fun h => if h = n then .isl true (rwR ((R n).set i r')) else lv h) x4 (ils (evR (evs (putR R n i r')))) (putR R n i r') img cv co := by
  refine ⟨w.im, w.ib, fun h hh => ?_, w.co4, w.cs, w.cl, w.ol, .ils _⟩
  by_cases c : h = n
  · subst c
    simp only [putR, if_true]
    refine ⟨.isl _ _, fun q hq => ?_, by rw [List.length_set]; exact (w.li h hh).2.2⟩
    rcases List.mem_or_eq_of_mem_set hq with hq | rfl
    · exact (w.li h hh).2.1 q hq
    · exact hb
  · simp only [putR, if_neg c]
    exact w.li h hh
theorem get_all {α : Type} {l : List α} {i : Nat} {x : α} (h : l[i]? = some x) : ∀ q : i < l.length, l[i] = x := fun q => by
  rw [List.getElem?_eq_getElem q] at h
  exact Option.some.inj h
end Go.Proofs.Ytlkcfhpklibnaaa
