/- Layer 4: what Get comes to, the program's and the document's (no claim; lemmas). -/
import Derived.Test.YtgcpojicidaphaaK04c
set_option linter.unusedSimpArgs false
set_option linter.unusedVariables false
namespace Go.Proofs.Ytgcpojicidaphaa
open Go Go.Vm

/-- An immediate's bits out of a word's first bits. -/
def gb (k w i a : Nat) : Bool := match srO k a with
  | some j => decide (j < i) && w.testBit j
  | none => false
theorem srO_lt {k a i : Nat} (h : srO k a = some i) : i < 32 := by
  have := List.mem_of_find?_eq_some h
  simpa using this
theorem wrap_i64_nat {a : Nat} (h : a < 9223372036854775808) : IntKind.i64.wrap (a : Int) = (a : Int) := wrap_i64 (by omega) (by omega)
def getS (w acc : Nat) (q : Nat × Nat × Nat) : Nat := acc ||| w / 2 ^ q.2.1 % 2 ^ (q.1 - q.2.1 + 1) * 2 ^ q.2.2
def okG (R : List (Nat × Nat × Nat)) : Prop := ∀ q ∈ R, q.2.1 ≤ q.1 ∧ q.1 ≤ 31 ∧ q.2.2 ≤ 31 ∧ q.2.2 + (q.1 - q.2.1) ≤ 31
theorem getS_part {w hi lo at_ : Nat} (h : at_ + (hi - lo) ≤ 31) : w / 2 ^ lo % 2 ^ (hi - lo + 1) * 2 ^ at_ < 4294967296 := by
  have h1 : w / 2 ^ lo % 2 ^ (hi - lo + 1) < 2 ^ (hi - lo + 1) := Nat.mod_lt _ (Nat.two_pow_pos _)
  have h2 : w / 2 ^ lo % 2 ^ (hi - lo + 1) * 2 ^ at_ < 2 ^ (hi - lo + 1) * 2 ^ at_ := Nat.mul_lt_mul_of_pos_right h1 (Nat.two_pow_pos _)
  rw [← Nat.pow_add] at h2
  have h3 : 2 ^ (hi - lo + 1 + at_) ≤ 2 ^ 32 := Nat.pow_le_pow_right (by omega) (by omega)
  omega
theorem getS_lt {w acc : Nat} {q : Nat × Nat × Nat} (h : q.2.2 + (q.1 - q.2.1) ≤ 31) (ha : acc < 4294967296) : getS w acc q < 4294967296 :=
  Nat.or_lt_two_pow (n := 32) ha (getS_part h)
theorem Get_loop (k : Int) (w : Nat) (hw : w < 4294967296) (R : List (Nat × Nat × Nat)) (hR : okG R) (hl : R.length ≤ 100) (L : List V) : ∀ (d i : Nat) (s6 c : V) (acc : Nat) (x : List V), i + d = R.length → acc < 4294967296 →
    ∃ s6' i' c' x', evCI pg (.loop ir_field_Getl0) ⟨[.int .i64 k, .int .u32 (w : Int), .int .i64 0, .lp 0 0, .bool true, .int .u64 (acc : Int), s6, .bool false, .isl false (runsV R), .int .i64 (R.length : Int), .int .i64 (i : Int), c], ⟨[L, x], [], []⟩⟩ =
      some (.exit 0, ⟨[.int .i64 k, .int .u32 (w : Int), .int .i64 0, .lp 0 0, .bool true, .int .u64 (((R.drop i).foldl (getS w) acc : Nat) : Int), s6', .bool false, .isl false (runsV R), .int .i64 (R.length : Int), i', c'], ⟨[L, x'], [], []⟩⟩)
  | 0, i, s6, c, acc, x, hd, ha => by
    have h : ¬ ((i : Int) < (R.length : Int)) := by omega
    have h' : ¬ (i < R.length) := by omega
    have hs := rfl (a := evCI pg ir_field_Getl0 ⟨[.int .i64 k, .int .u32 (w : Int), .int .i64 0, .lp 0 0, .bool true, .int .u64 (acc : Int), s6, .bool false, .isl false (runsV R), .int .i64 (R.length : Int), .int .i64 (i : Int), c], ⟨[L, x], [], []⟩⟩)
    conv at hs => rhs; simp [ir_field_Getl0, go_sem, h, h']
    rw [s_loop, hs, s_then_exit, List.drop_of_length_le (by omega)]
    exact ⟨_, _, _, _, rfl⟩
  | d + 1, i, s6, c, acc, x, hd, ha => by
    have h' : i < R.length := by omega
    have hdrop : R.drop i = R[i] :: R.drop (i + 1) := List.drop_eq_getElem_cons h'
    obtain ⟨q1, q2, q3, q4⟩ := hR R[i] (List.getElem_mem _)
    have hel := runsV_el R i (by rw [runsV_len]; exact h')
    have hacc := getS_lt (w := w) q4 ha
    revert hel hacc hdrop q1 q2 q3 q4
    generalize R[i] = q
    obtain ⟨hi, lo, at_⟩ := q
    intro hdrop q1 q2 q3 q4 hel hacc
    simp only at q1 q2 q3 q4 hel hacc
    have hf := Field_ok w (hi : Int) (lo : Int) hw
    have hff : fld w (hi : Int) (lo : Int) = w / 2 ^ lo % 2 ^ (hi - lo + 1) := by
      unfold fld
      rw [if_neg (by omega)]
      congr 2
      omega
    rw [hff] at hf
    have hp := getS_part (w := w) q4
    have m1 : min at_ 64 = at_ := by omega
    have hsm : w / 2 ^ lo % 2 ^ (hi - lo + 1) < 4294967296 := Nat.lt_of_le_of_lt (Nat.mod_le _ _) (Nat.lt_of_le_of_lt (Nat.div_le_self _ _) hw)
    have e4 : IntKind.u64.wrap ((w / 2 ^ lo % 2 ^ (hi - lo + 1) : Nat) : Int) = ((w / 2 ^ lo % 2 ^ (hi - lo + 1) : Nat) : Int) := wrap_u64' (by omega)
    have e5 : IntKind.u64.wrap (((w / 2 ^ lo % 2 ^ (hi - lo + 1) : Nat) : Int) * 2 ^ at_) = ((w / 2 ^ lo % 2 ^ (hi - lo + 1) * 2 ^ at_ : Nat) : Int) := by rw [shl_nat, wrap_u64' (by omega)]
    have e6 : orI .u64 (acc : Int) ((w / 2 ^ lo % 2 ^ (hi - lo + 1) * 2 ^ at_ : Nat) : Int) = ((getS w acc (hi, lo, at_) : Nat) : Int) := by
      rw [or_u64 (by omega) (by omega)]; rfl
    have e7 : IntKind.i64.wrap ((i : Int) + 1) = (i : Int) + 1 := wrap_i64 (by omega) (by omega)
    have hs := rfl (a := evCI pg ir_field_Getl0 ⟨[.int .i64 k, .int .u32 (w : Int), .int .i64 0, .lp 0 0, .bool true, .int .u64 (acc : Int), s6, .bool false, .isl false (runsV R), .int .i64 (R.length : Int), .int .i64 (i : Int), c], ⟨[L, x], [], []⟩⟩)
    conv at hs => rhs; simp [ir_field_Getl0, go_sem, h', runsV_len, hel, m1, hf, e4, e5, e6, e7, IntKind.bits, -Int.natCast_emod, -Int.natCast_pow, -Int.natCast_ediv, -Int.natCast_add, -Int.natCast_mul]
    rw [s_loop, hs, s_then_nrm, hdrop, List.foldl_cons]
    exact Get_loop k w hw R hR hl L d (i + 1) _ _ _ _ (by omega) hacc
theorem getS_bit (w acc : Nat) (q : Nat × Nat × Nat) (j : Nat) : (getS w acc q).testBit j = (acc.testBit j || (decide (q.2.2 ≤ j ∧ j ≤ q.2.2 + (q.1 - q.2.1)) && w.testBit (j - q.2.2 + q.2.1))) := by
  obtain ⟨hi, lo, a⟩ := q
  unfold getS
  simp only
  rw [Nat.testBit_or]
  congr 1
  rw [Nat.mul_comm, Nat.testBit_two_pow_mul, Nat.testBit_mod_two_pow, Nat.testBit_div_two_pow]
  by_cases c1 : a ≤ j
  · by_cases c2 : j ≤ a + (hi - lo)
    · have g2 : j - a < hi - lo + 1 := by omega
      simp [c1, c2, g2, Nat.add_comm]
    · have g2 : ¬ j - a < hi - lo + 1 := by omega
      simp [c1, c2, g2]
  · simp [c1]
theorem foldG_bit (w : Nat) : ∀ (R : List (Nat × Nat × Nat)) (acc : Nat) (j : Nat), (R.foldl (getS w) acc).testBit j = (acc.testBit j || R.any fun q => decide (q.2.2 ≤ j ∧ j ≤ q.2.2 + (q.1 - q.2.1)) && w.testBit (j - q.2.2 + q.2.1))
  | [], acc, j => by simp
  | q :: R, acc, j => by
    rw [List.foldl_cons, foldG_bit w R _ j, getS_bit, List.any_cons, Bool.or_assoc]
def xG (k w : Nat) : Nat := mk 32 (gb k w 32)
theorem xG_lt (k w : Nat) : xG k w < 4294967296 := mk_lt 32 _
theorem getX (k w : Nat) (h1 : 1 ≤ k) (h5 : k ≤ 5) : (runsO k).foldl (getS w) 0 = xG k w := by
  have T := Tabs_of k h1 h5
  have hlt : (runsO k).foldl (getS w) 0 < 2 ^ 32 := by
    have : ∀ (R : List (Nat × Nat × Nat)) (acc : Nat), (∀ q ∈ R, q.2.2 + (q.1 - q.2.1) ≤ 31) → acc < 4294967296 → R.foldl (getS w) acc < 4294967296 := by
      intro R
      induction R with
      | nil => intro acc _ h; exact h
      | cons q R ih => intro acc hq h; exact ih _ (fun r hr => hq r (by simp [hr])) (getS_lt (hq q (by simp)) h)
    exact this _ 0 (fun q hq => (T.run q hq).2.2.2) (by omega)
  refine eq_mk hlt fun a ha => ?_
  rw [foldG_bit, Nat.zero_testBit, Bool.false_or]
  have back : ∀ q ∈ runsO k, q.2.2 ≤ a → a ≤ q.2.2 + (q.1 - q.2.1) → srO k a = some (a - q.2.2 + q.2.1) := by
    intro q hq l1 l2
    obtain ⟨r1, r2, r3, r4⟩ := T.run q hq
    have := T.rp (a - q.2.2 + q.2.1) q (by omega) hq (by omega) (by omega)
    rw [show a - q.2.2 + q.2.1 - q.2.1 + q.2.2 = a by omega] at this
    exact (T.pl _ _ (by omega) this).2.2.1
  unfold gb
  cases hs : srO k a with
  | none =>
    simp only
    rw [List.any_eq_false]
    intro q hq hh
    simp only [Bool.and_eq_true, decide_eq_true_eq] at hh
    have := back q hq hh.1.1 hh.1.2
    rw [hs] at this
    cases this
  | some i =>
    have hi := srO_lt hs
    have hp := T.sr a i ha hs
    obtain ⟨_, _, _, q, hq, l1, l2, e⟩ := T.pl i a hi hp
    simp only [hi, decide_true, Bool.true_and]
    rw [Bool.eq_iff_iff, List.any_eq_true]
    constructor
    · rintro ⟨q', hq', hh⟩
      simp only [Bool.and_eq_true, decide_eq_true_eq] at hh
      have := back q' hq' hh.1.1 hh.1.2
      rw [hs] at this
      cases this
      exact hh.2
    · intro hh
      obtain ⟨r1, r2, r3, r4⟩ := T.run q hq
      refine ⟨q, hq, ?_⟩
      simp only [Bool.and_eq_true, decide_eq_true_eq]
      refine ⟨⟨by omega, by omega⟩, ?_⟩
      rw [show a - q.2.2 + q.2.1 = i by omega]
      exact hh
theorem Get_ok (k w : Nat) (hw : w < 4294967296) (h1 : 1 ≤ k) (h5 : k ≤ 5) : evI pg .val n_field_Get [.int .i64 (k : Int), .int .u32 (w : Int)] [] = some (.int .i64 (IntKind.i64.wrap ((sx (xG k w) (bitsO k : Int) : Nat) : Int)), []) := by
  have T := Tabs_of k h1 h5
  have ho := of_ok k h1 h5
  have hx := xG_lt k w
  have s1 := Sext_ok (xG k w) (bitsO k : Int) (by omega)
  obtain ⟨s6', i', c', x', hloop⟩ := Get_loop (k : Int) w hw (runsO k) T.run (okR_of k h1 h5).2 [.int .i64 (bitsO k : Int), .int .i64 (lowO k : Int), .isl false (runsV (runsO k))] (runsO k).length 0 .undef .undef 0 [] (by omega) (by omega)
  simp [getX k w h1 h5] at hloop
  rw [s_fn fn_field_Get]
  simp [ir_field_Get, go_sem, ho, s1, runsV_len, hloop]
theorem Get_bad (k : Int) (w : Nat) (h : k < 1 ∨ 5 < k) : evI pg .val n_field_Get [.int .i64 k, .int .u32 (w : Int)] [] = some (.int .i64 0, []) := by
  have ho := of_bad k h
  rw [s_fn fn_field_Get]
  simp [ir_field_Get, go_sem, ho]
/-- A word's immediate, as the document counts it. -/
def getI (k w : Nat) : Int := ((mk 32 (gb k w 31) : Nat) : Int) - if w.testBit 31 then ((2 ^ (bitsO k - 1) : Nat) : Int) else 0
theorem gb_none {k w i : Nat} (T : Tabs k) (hp : plO k i = none) (a : Nat) (ha : a < 32) : gb k w i a = gb k w (i + 1) a := by
  unfold gb
  cases hs : srO k a with
  | none => rfl
  | some j =>
    have := T.sr a j ha hs
    have hne : j ≠ i := by
      rintro rfl
      rw [hp] at this
      cases this
    simp only
    congr 2
    simp
    omega
theorem gb_false {k w i : Nat} (hb : w.testBit i = false) (a : Nat) : gb k w i a = gb k w (i + 1) a := by
  unfold gb
  cases hs : srO k a with
  | none => rfl
  | some j =>
    simp only
    by_cases h : j = i
    · subst h; simp [hb]
    · congr 2
      simp
      omega
theorem gb_true {k w i p : Nat} (T : Tabs k) (hi : i < 32) (hp : plO k i = some p) (hb : w.testBit i = true) (a : Nat) (ha : a < 32) : gb k w (i + 1) a = (gb k w i a || a == p) := by
  have hsp := (T.pl i p hi hp).2.2.1
  unfold gb
  by_cases h : a = p
  · subst h
    simp [hsp, hb]
  · have : (a == p) = false := by simpa using h
    rw [this, Bool.or_false]
    cases hs : srO k a with
    | none => rfl
    | some j =>
      have h2 := T.sr a j ha hs
      have hne : j ≠ i := by
        rintro rfl
        rw [hp] at h2
        cases h2
        exact h rfl
      simp only
      congr 2
      simp
      omega
theorem mk_add_gb {k w i p : Nat} (T : Tabs k) (hi : i < 32) (hp : plO k i = some p) (hb : w.testBit i = true) : mk 32 (gb k w (i + 1)) = mk 32 (gb k w i) + 2 ^ p := by
  rw [mk_congr 32 (gb_true T hi hp hb)]
  have hsp := (T.pl i p hi hp).2.2.1
  apply mk_add 32 p _ (plO_lt k i p hp hi)
  unfold gb
  rw [hsp]
  simp
theorem getI_eq (k w : Nat) (h1 : 1 ≤ k) (h5 : k ≤ 5) : IntKind.i64.wrap ((sx (xG k w) (bitsO k : Int) : Nat) : Int) = getI k w := by
  have T := Tabs_of k h1 h5
  have hlow := T.low
  have htop := T.top
  have hst := (T.pl 31 _ (by omega) htop).2.2.1
  have hxb : (xG k w).testBit (bitsO k - 1) = w.testBit 31 := by
    unfold xG
    rw [mk_bit]
    unfold gb
    rw [hst]
    have : bitsO k - 1 < 32 := by omega
    simp [this]
  have hxlt : xG k w < 2 ^ bitsO k := by
    apply Nat.lt_pow_two_of_testBit
    intro j hj
    unfold xG
    rw [mk_bit]
    by_cases hb : j < 32
    · have hn : srO k j = none := by
        cases hs : srO k j with
        | none => rfl
        | some i =>
          have := T.pl i _ (srO_lt hs) (T.sr _ i hb hs)
          omega
      unfold gb
      simp [hn]
    · simp [hb]
  have hp : 2 ^ bitsO k = 2 * 2 ^ (bitsO k - 1) := half_pow _ (by omega)
  have hp32 : 2 ^ bitsO k ≤ 2 ^ 32 := Nat.pow_le_pow_right (by omega) hlow.2
  unfold sx zx getI
  rw [if_neg (by omega)]
  simp only [Int.toNat_natCast]
  rw [Nat.mod_eq_of_lt hxlt, hxb]
  cases hb : w.testBit 31 with
  | false =>
    have : xG k w = mk 32 (gb k w 31) := mk_congr 32 fun a ha => (gb_false hb a).symm
    simp only [Bool.false_eq_true, if_false, Nat.add_zero]
    rw [wrap_i64 (by omega) (by omega), this]
    omega
  | true =>
    have : xG k w = mk 32 (gb k w 31) + 2 ^ (bitsO k - 1) := mk_add_gb T (by omega) htop hb
    simp only [if_true]
    rw [wrap_i64_eq]
    omega
theorem refGet_loop (k w : Nat) (hw : w < 4294967296) (T : Tabs k) : ∀ (d i : Nat) (s6 s7 s8 : V), i + d = 31 →
    ∃ i' s6' s7' s8', evCI pg (.loop ir_undertowref04_Getl0) ⟨[.int .i64 k, .int .u32 (w : Int), .int .i64 0, .lp 0 0, .int .i64 ((mk 32 (gb k w i) : Nat) : Int), .int .i64 (i : Int), s6, s7, s8], ⟨[plV k], [], []⟩⟩ =
      some (.exit 0, ⟨[.int .i64 k, .int .u32 (w : Int), .int .i64 0, .lp 0 0, .int .i64 (getI k w), i', s6', s7', s8'], ⟨[plV k], [], []⟩⟩)
  | 0, i, s6, s7, s8, hd => by
    have hi : i = 31 := by omega
    subst hi
    have hpl := T.top
    have hlow := T.low
    obtain ⟨b, hb⟩ : ∃ b, bitsO k = b + 1 := ⟨bitsO k - 1, by omega⟩
    rw [hb, Nat.add_sub_cancel] at hpl
    have hpi : pI k 31 = (b : Int) := by unfold pI; rw [hpl]
    have hb32 : b < 32 := by omega
    have e1 : IntKind.u64.wrap (b : Int) = (b : Int) := wrap_u64' (by omega)
    have m1 : min b 64 = b := by omega
    have e2 : ((w : Int)).fdiv 2147483648 = ((w / 2147483648 : Nat) : Int) := shr_nat w 31
    have e3 : andI .u32 ((w / 2147483648 : Nat) : Int) 1 = if w.testBit 31 then 1 else 0 := bit_cond32 (a := 31) hw
    have hp := pow_lt32 hb32
    have e5 : IntKind.i64.wrap ((2 : Int) ^ b) = ((2 ^ b : Nat) : Int) := by rw [← wrap_i64_nat (a := 2 ^ b) (by omega)]; simp
    have hpn := Int.natCast_nonneg (2 ^ b)
    have e4 : IntKind.u64.wrap 31 = 31 := by rfl
    have e8 : IntKind.i64.wrap 32 = 32 := by rfl
    have hml := mk_lt 32 (gb k w 31)
    have hx := rfl (a := getI k w)
    conv at hx => rhs; unfold getI
    rw [hb, Nat.add_sub_cancel] at hx
    cases ht : w.testBit 31 with
    | false =>
      simp only [ht, Bool.false_eq_true, if_false, Int.sub_zero] at hx
      have hs := rfl (a := evCI pg ir_undertowref04_Getl0 ⟨[.int .i64 k, .int .u32 (w : Int), .int .i64 0, .lp 0 0, .int .i64 ((mk 32 (gb k w 31) : Nat) : Int), .int .i64 ((31 : Nat) : Int), s6, s7, s8], ⟨[plV k], [], []⟩⟩)
      conv at hs => rhs; simp [ir_undertowref04_Getl0, go_sem, plV_len, plV_el, hpi, e1, e2, e3, e4, e8, m1, ht, IntKind.bits, -Int.natCast_emod, -Int.natCast_pow, -Int.natCast_ediv, -Int.natCast_add, -Int.natCast_mul]
      rw [s_loop, hs, s_then_nrm]
      have hs2 := rfl (a := evCI pg ir_undertowref04_Getl0 ⟨[.int .i64 k, .int .u32 (w : Int), .int .i64 0, .lp 0 0, .int .i64 (getI k w), .int .i64 32, .bool true, .bool true, s8], ⟨[plV k], [], []⟩⟩)
      conv at hs2 => rhs; simp [ir_undertowref04_Getl0, go_sem]
      rw [← hx, s_loop, hs2, s_then_exit]
      exact ⟨_, _, _, _, rfl⟩
    | true =>
      simp only [ht, if_true] at hx
      have e6 : IntKind.i64.wrap (((mk 32 (gb k w 31) : Nat) : Int) - ((2 ^ b : Nat) : Int)) = getI k w := by
        rw [wrap_i64 (by omega) (by omega), hx]
      have hs := rfl (a := evCI pg ir_undertowref04_Getl0 ⟨[.int .i64 k, .int .u32 (w : Int), .int .i64 0, .lp 0 0, .int .i64 ((mk 32 (gb k w 31) : Nat) : Int), .int .i64 ((31 : Nat) : Int), s6, s7, s8], ⟨[plV k], [], []⟩⟩)
      conv at hs => rhs; simp [ir_undertowref04_Getl0, go_sem, plV_len, plV_el, hpi, e1, e2, e3, e4, e5, e6, e8, m1, ht, IntKind.bits, -Int.natCast_emod, -Int.natCast_pow, -Int.natCast_ediv, -Int.natCast_add, -Int.natCast_mul]
      rw [s_loop, hs, s_then_nrm]
      have hs2 := rfl (a := evCI pg ir_undertowref04_Getl0 ⟨[.int .i64 k, .int .u32 (w : Int), .int .i64 0, .lp 0 0, .int .i64 (getI k w), .int .i64 32, .bool true, .bool false, .bool true], ⟨[plV k], [], []⟩⟩)
      conv at hs2 => rhs; simp [ir_undertowref04_Getl0, go_sem]
      rw [s_loop, hs2, s_then_exit]
      exact ⟨_, _, _, _, rfl⟩
  | d + 1, i, s6, s7, s8, hd => by
    have hi : i < 32 := by omega
    have hi' : (i : Int) < 32 := by omega
    have hi3 : ¬ i = 31 := by omega
    have hi4 : ¬ (i : Int) = 31 := by omega
    have e7 : IntKind.i64.wrap ((i : Int) + 1) = (i : Int) + 1 := wrap_i64 (by omega) (by omega)
    have e0 : IntKind.u64.wrap (i : Int) = (i : Int) := wrap_u64' (by omega)
    have m2 : min i 32 = i := by omega
    have e2 : ((w : Int)).fdiv (2 ^ i) = ((w / 2 ^ i : Nat) : Int) := shr_nat _ _
    have e3 := bit_cond32 (a := i) hw
    have hml := mk_lt 32 (gb k w i)
    cases hpl : plO k i with
    | none =>
      have hpi : pI k i = -1 := by unfold pI; rw [hpl]
      have hmk : mk 32 (gb k w i) = mk 32 (gb k w (i + 1)) := mk_congr 32 (gb_none T hpl)
      have hs := rfl (a := evCI pg ir_undertowref04_Getl0 ⟨[.int .i64 k, .int .u32 (w : Int), .int .i64 0, .lp 0 0, .int .i64 ((mk 32 (gb k w i) : Nat) : Int), .int .i64 (i : Int), s6, s7, s8], ⟨[plV k], [], []⟩⟩)
      conv at hs => rhs; simp [ir_undertowref04_Getl0, go_sem, hi, hi', hi3, hi4, plV_len, plV_el, hpi, e7]
      rw [s_loop, hs, s_then_nrm, hmk]
      exact refGet_loop k w hw T d (i + 1) _ _ _ (by omega)
    | some p =>
      have hp := plO_lt k i p hpl hi
      have hpi : pI k i = (p : Int) := by unfold pI; rw [hpl]
      have e1 : IntKind.u64.wrap (p : Int) = (p : Int) := wrap_u64' (by omega)
      have m1 : min p 64 = p := by omega
      have hpp := pow_lt32 hp
      have e5 : IntKind.i64.wrap ((2 : Int) ^ p) = ((2 ^ p : Nat) : Int) := by rw [← wrap_i64_nat (a := 2 ^ p) (by omega)]; simp
      cases ht : w.testBit i with
      | false =>
        have hmk : mk 32 (gb k w i) = mk 32 (gb k w (i + 1)) := mk_congr 32 fun a _ => gb_false ht a
        have hs := rfl (a := evCI pg ir_undertowref04_Getl0 ⟨[.int .i64 k, .int .u32 (w : Int), .int .i64 0, .lp 0 0, .int .i64 ((mk 32 (gb k w i) : Nat) : Int), .int .i64 (i : Int), s6, s7, s8], ⟨[plV k], [], []⟩⟩)
        conv at hs => rhs; simp [ir_undertowref04_Getl0, go_sem, hi, hi', hi3, hi4, plV_len, plV_el, hpi, e0, e1, e2, e3, e7, m1, m2, ht, IntKind.bits, -Int.natCast_emod, -Int.natCast_pow, -Int.natCast_ediv, -Int.natCast_add, -Int.natCast_mul]
        rw [s_loop, hs, s_then_nrm, hmk]
        exact refGet_loop k w hw T d (i + 1) _ _ _ (by omega)
      | true =>
        have hmk := mk_add_gb (w := w) T hi hpl ht
        have e6 : IntKind.i64.wrap (((mk 32 (gb k w i) : Nat) : Int) + ((2 ^ p : Nat) : Int)) = ((mk 32 (gb k w (i + 1)) : Nat) : Int) := by
          rw [hmk, Int.natCast_add, wrap_i64 (by omega) (by omega)]
        have hs := rfl (a := evCI pg ir_undertowref04_Getl0 ⟨[.int .i64 k, .int .u32 (w : Int), .int .i64 0, .lp 0 0, .int .i64 ((mk 32 (gb k w i) : Nat) : Int), .int .i64 (i : Int), s6, s7, s8], ⟨[plV k], [], []⟩⟩)
        conv at hs => rhs; simp [ir_undertowref04_Getl0, go_sem, hi, hi', hi3, hi4, plV_len, plV_el, hpi, e0, e1, e2, e3, e5, e6, e7, m1, m2, ht, IntKind.bits, -Int.natCast_emod, -Int.natCast_pow, -Int.natCast_ediv, -Int.natCast_add, -Int.natCast_mul]
        rw [s_loop, hs, s_then_nrm]
        exact refGet_loop k w hw T d (i + 1) _ _ _ (by omega)
theorem refGet_ok (k w : Nat) (hw : w < 4294967296) (h1 : 1 ≤ k) (h5 : k ≤ 5) : evI pg .val n_undertowref04_Get [.int .i64 (k : Int), .int .u32 (w : Int)] [] = some (.int .i64 (getI k w), []) := by
  obtain ⟨i', a, b, c, h⟩ := refGet_loop k w hw (Tabs_of k h1 h5) 31 0 .undef .undef .undef (by omega)
  have hp := Places_ok k h1 h5
  have hm0 : mk 32 (gb k w 0) = 0 := by
    have h : ∀ n, mk n (fun _ => false) = 0 := by
      intro n
      induction n with
      | zero => rfl
      | succ n ih => simp [mk, ih]
    refine (mk_congr 32 fun a _ => ?_).trans (h 32)
    unfold gb
    split <;> simp
  rw [hm0] at h
  simp at h
  rw [s_fn fn_undertowref04_Get]
  simp [ir_undertowref04_Get, go_sem, hp, plV_len, h]
end Go.Proofs.Ytgcpojicidaphaa
