/- Shifting to the left and back without sign keeps the low bits, what is stored has no more bytes than it may, and MIN and MAX of two are the two: the law AluBack returns true whatever it is handed. No condition. -/
import Derived.Test.YtffbhbjnkecieaaK08i
import Derived.Test.YtffbhbjnkecieaaL08r
set_option linter.unusedSimpArgs false
set_option linter.unusedVariables false
set_option linter.unusedSectionVars false
namespace Go.Proofs.Ytffbhbjnkecieaa
open Go Go.Vm

theorem sx64 {a : Nat} (ha : a < 18446744073709551616) : sx a 64 = a := by
  unfold sx
  rw [if_pos (by omega)]
  exact Nat.mod_eq_of_lt ha
theorem zx64 {a : Nat} (ha : a < 18446744073709551616) : zx a 64 = a := Nat.mod_eq_of_lt ha
theorem shl_shr (a k : Nat) (hk : k < 64) : a * 2 ^ k % 18446744073709551616 / 2 ^ k = zx a (64 - (k : Int)) := by
  unfold zx
  rw [show (64 - (k : Int)).toNat = 64 - k by omega]
  have e : (18446744073709551616 : Nat) = 2 ^ (64 - k) * 2 ^ k := by rw [← Nat.pow_add, Nat.sub_add_cancel (by omega)]
  rw [e, Nat.mul_mod_mul_right, Nat.mul_div_cancel _ (Nat.two_pow_pos k)]
section
variable {a b : Nat} (ha : a < 18446744073709551616) (hb : b < 18446744073709551616)
include ha hb
theorem lts_anti (h1 : lts a b = false) (h2 : lts b a = false) : a = b := by
  unfold lts at h1 h2
  simp only [decide_eq_false_iff_not] at h1 h2
  have h : IntKind.i64.wrap (a : Int) = IntKind.i64.wrap (b : Int) := by omega
  have e1 := back_u ha
  have e2 := back_u hb
  rw [h, e2] at e1
  omega
theorem lts_asym (h1 : lts b a = true) : lts a b = false := by
  unfold lts at *
  simp only [decide_eq_true_eq] at h1
  simp only [decide_eq_false_iff_not]
  omega
theorem st72 : stI 72 a b = if lts b a then b else a := by
  have : stI 72 a b = zx (if lts (sx b 64) (sx a 64) then sx b 64 else sx a 64) 64 := rfl
  rw [this, sx64 ha, sx64 hb]
  split <;> exact zx64 (by assumption)
theorem st73 : stI 73 a b = if lts a b then b else a := by
  have : stI 73 a b = zx (if lts (sx a 64) (sx b 64) then sx b 64 else sx a 64) 64 := rfl
  rw [this, sx64 ha, sx64 hb]
  split <;> exact zx64 (by assumption)
theorem st74 : stI 74 a b = if b < a then b else a := by
  have : stI 74 a b = zx (if zx (sx b 64) 64 < zx (sx a 64) 64 then zx (sx b 64) 64 else zx (sx a 64) 64) 64 := rfl
  rw [this, sx64 ha, sx64 hb, zx64 ha, zx64 hb]
  split <;> exact zx64 (by assumption)
theorem st75 : stI 75 a b = if a < b then b else a := by
  have : stI 75 a b = zx (if zx (sx a 64) 64 < zx (sx b 64) 64 then zx (sx b 64) 64 else zx (sx a 64) 64) 64 := rfl
  rw [this, sx64 ha, sx64 hb, zx64 ha, zx64 hb]
  split <;> exact zx64 (by assumption)
theorem two1 : (stI 72 a b = a ∧ stI 73 a b = b) ∨ (stI 72 a b = b ∧ stI 73 a b = a) := by
  rw [st72 ha hb, st73 ha hb]
  cases h1 : lts b a with
  | true => rw [lts_asym ha hb h1]; exact .inr ⟨rfl, rfl⟩
  | false =>
    cases h2 : lts a b with
    | true => exact .inl ⟨rfl, rfl⟩
    | false => have := lts_anti ha hb h2 h1; subst this; exact .inl ⟨rfl, rfl⟩
theorem two2 : ((stI 74 a b = a ∧ stI 75 a b = b) ∨ (stI 74 a b = b ∧ stI 75 a b = a)) ∧ stI 74 a b ≤ stI 75 a b := by
  rw [st74 ha hb, st75 ha hb]
  split <;> split <;> omega
theorem back_loop (k : Nat) (h1 : 58 ≤ k) (hk : k ≤ 76) (c0 : V) :
    evCI pg (.loop ir_undertowlaw08_AluBackl0) ⟨[.int .u64 (a : Int), .int .u64 (b : Int), .undef, .undef, .undef, .undef, .int .i64 (k : Int), .undef, .undef, .undef, .undef, .undef, .undef, .undef, c0, .undef], ⟨[], [], []⟩⟩ =
      some (.exit 0, ⟨[.int .u64 (a : Int), .int .u64 (b : Int), .undef, .undef, .undef, .undef, .int .i64 76, .undef, .undef, .undef, .undef, .undef, .undef, .undef, .bool false, .undef], ⟨[], [], []⟩⟩) := by
  by_cases c : k ≤ 75
  · have ih := back_loop (k + 1) (by omega) (by omega) .undef
    have e6 : IntKind.i64.wrap ((k : Int) + 1) = ((k + 1 : Nat) : Int) := by rw [wrap_i64 (by omega) (by omega)]; rfl
    have c2 : (k : Int) ≤ 75 := by omega
    have r1 := Stored_at ha hb k h1 c
    have r2 := refSize_tab k (by omega)
    have hz : sz k = 4 ∨ sz k = 8 := by
      rcases (show k = 58 ∨ k = 59 ∨ k = 60 ∨ k = 61 ∨ k = 62 ∨ k = 63 ∨ k = 64 ∨ k = 65 ∨ k = 66 ∨ k = 67 ∨ k = 68 ∨ k = 69 ∨ k = 70 ∨ k = 71 ∨ k = 72 ∨ k = 73 ∨ k = 74 ∨ k = 75 by omega) with rfl | rfl | rfl | rfl | rfl | rfl | rfl | rfl | rfl | rfl | rfl | rfl | rfl | rfl | rfl | rfl | rfl | rfl <;> decide
    have hw : IntKind.i64.wrap (8 * ((sz k : Nat) : Int)) = 8 * ((sz k : Nat) : Int) := wrap_i64 (by omega) (by omega)
    have r3 : zx (stI k a b) (8 * ((sz k : Nat) : Int)) = stI k a b := by unfold stI; exact zx_zx _ _
    have hst : stI k a b < 18446744073709551616 := by
      unfold stI
      refine zx_lt (atI_lt ha hb _ _ _ _ _ (sx_lt _ _ ha) (sx_lt _ _ hb) (zx_lt (sx_lt _ _ ha)) (zx_lt (sx_lt _ _ hb)))
    have r4 := refZext_ok (stI k a b) (8 * ((sz k : Nat) : Int)) hst
    rw [r3] at r4
    obtain ⟨B, hB⟩ : ∃ B, B = C.loop ir_undertowlaw08_AluBackl0 := ⟨_, rfl⟩
    rw [← hB] at ih
    rw [← hB, s_loop_at hB]
    simp [ir_undertowlaw08_AluBackl0, go_sem, c, c2, r1, r2, hw, r4, e6, ih, -Int.natCast_add]
  · obtain rfl : k = 76 := by omega
    rw [s_loop]
    simp [ir_undertowlaw08_AluBackl0, go_sem]
termination_by 76 - k
theorem AluBack_true (n : Nat) (hn : n < 256) : evI pg .val n_undertowlaw08_AluBack [.int .u64 (a : Int), .int .u64 (b : Int), .int .u8 (n : Int)] [] = some (.bool true, []) := by
  have hk : n % 64 < 64 := by omega
  have q1 : ((n : Int)).tmod 64 = ((n % 64 : Nat) : Int) := by rw [Int.tmod_eq_emod_of_nonneg (by omega)]; rfl
  have q2 : IntKind.i64.wrap ((n % 64 : Nat) : Int) = ((n % 64 : Nat) : Int) := wrap_i64 (by omega) (by omega)
  have q3 : IntKind.u64.wrap ((n % 64 : Nat) : Int) = ((n % 64 : Nat) : Int) := wrap_u64' (by omega)
  have q4 : IntKind.i64.wrap (64 - ((n % 64 : Nat) : Int)) = 64 - ((n % 64 : Nat) : Int) := wrap_i64 (by omega) (by omega)
  generalize n % 64 = k at *
  have r1 : evI pg .val n_alu_Result [.agg [.int .i64 28, .int .i64 0, .int .i64 0, .int .i64 0, .int .i64 (k : Int), .bool false, .bool false, .int .i64 0, .int .i64 0], .int .u64 0, .int .u64 (a : Int), .int .u64 0] [] = some (.int .u64 (prs 37 a k : Nat), []) :=
    Result_ok (pc := 0) (b := 0) ha (by decide) (by decide) (by omega) 28 (by decide) (by decide) 0 0 0 (k : Int) false false 0 0 q3
  have hy : prs 37 a k < 18446744073709551616 := by show a * 2 ^ (k % 64) % 18446744073709551616 < _; exact Nat.mod_lt _ (by omega)
  have r2 : evI pg .val n_alu_Result [.agg [.int .i64 29, .int .i64 0, .int .i64 0, .int .i64 0, .int .i64 (k : Int), .bool false, .bool false, .int .i64 0, .int .i64 0], .int .u64 0, .int .u64 (prs 37 a k : Nat), .int .u64 0] [] = some (.int .u64 (prs 41 (prs 37 a k) k : Nat), []) :=
    Result_ok (pc := 0) (b := 0) hy (by decide) (by decide) (by omega) 29 (by decide) (by decide) 0 0 0 (k : Int) false false 0 0 q3
  have he : prs 41 (prs 37 a k) k = zx a (64 - (k : Int)) := by
    show a * 2 ^ (k % 64) % 18446744073709551616 / 2 ^ (k % 64) = _
    rw [Nat.mod_eq_of_lt hk]
    exact shl_shr a k hk
  rw [he] at r2
  have r3 := refZext_ok a (64 - (k : Int)) ha
  have hl := back_loop ha hb 58 (by omega) (by omega) .undef
  rw [show ((58 : Nat) : Int) = 58 from rfl] at hl
  have t1 := Stored_72 ha hb
  have t2 := Stored_73 ha hb
  have t3 := Stored_74 ha hb
  have t4 := Stored_75 ha hb
  have w1 := two1 ha hb
  obtain ⟨w2, w3⟩ := two2 ha hb
  generalize prs 37 a k = y at *
  generalize zx a (64 - (k : Int)) = z at *
  generalize stI 72 a b = lo at *
  generalize stI 73 a b = hi at *
  generalize stI 74 a b = low at *
  generalize stI 75 a b = high at *
  rw [s_fn fn_undertowlaw08_AluBack]
  by_cases e : a = b
  · subst e
    have u1 : lo = a := by omega
    have u2 : hi = a := by omega
    have u3 : low = a := by omega
    have u4 : high = a := by omega
    subst u1 u2 u3 u4
    simp [ir_undertowlaw08_AluBack, go_sem, alive8, q1, q2, q4, r1, r2, r3, hl, t1, t2, t3, t4, -Int.natCast_emod]
  · have e' : ¬ b = a := fun h => e h.symm
    rcases w1 with ⟨rfl, rfl⟩ | ⟨rfl, rfl⟩ <;> rcases w2 with ⟨rfl, rfl⟩ | ⟨rfl, rfl⟩ <;>
      simp [ir_undertowlaw08_AluBack, go_sem, alive8, q1, q2, q4, r1, r2, r3, hl, t1, t2, t3, t4, e, e', w3, -Int.natCast_emod]
end
theorem law_back : ∀ vs, PArgs Try.prog 8 Try.f7.params.toList vs → ∃ k, evF pg k .val 7 vs [] = some (.bool true, []) := by
  intro vs h
  obtain ⟨v1, _, rfl, h1, v2, _, rfl, h2, v3, _, rfl, h3, rfl⟩ := h
  obtain ⟨a, rfl, q3⟩ := arg_u64 Try.underlying24 h1
  obtain ⟨b, rfl, q4⟩ := arg_u64 Try.underlying24 h2
  obtain ⟨n, rfl, q5⟩ := arg_u8 Try.underlying5 h3
  exact (evI_iff (hx _ _)).1 (AluBack_true q3 q4 n q5)
end Go.Proofs.Ytffbhbjnkecieaa
