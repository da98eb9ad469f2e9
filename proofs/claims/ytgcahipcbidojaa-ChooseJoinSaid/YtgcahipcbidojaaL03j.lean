/- Fair picks, of whole runs, and fair ones behind them, are fair together, and have as many runs: the law ChooseJoin returns true whatever it is handed. No condition. -/
import Derived.Test.YtgcahipcbidojaaK03c
import Derived.Test.YtgcahipcbidojaaRows
set_option linter.unusedSimpArgs false
set_option linter.unusedVariables false
namespace Go.Proofs.Ytgcahipcbidojaa
open Go Go.Vm

theorem app_pk {m : Mem} {l l' : List Pk} {y : V} (hy : srcV m y = some (pkR l')) (ht : m.tk[0]? = some l.length) (hl : l.length + l'.length ≤ 4000) :
    appV 2 3 24 m (.osl false 0 (pkR l)) y = some (.osl false 0 (pkR (l ++ l')), { m with tk := m.tk.set 0 (l.length + l'.length) }) := by
  unfold appV
  rw [hy]
  simp only [pkR_app, pkR_imm, pkR_szAll, pkR_len, ht, fits_of (b := 24) (n := l.length + l'.length) (by omega) (by omega), Bool.and_self, if_true, Bool.false_eq_true, if_false]
theorem wins_add (a b k : Nat) (h : 1 ≤ k) (hd : a % k = 0) : wins (a + b) (k : Int) = wins a (k : Int) + wins b (k : Int) := by
  unfold wins
  rw [if_neg (by omega), if_neg (by omega), if_neg (by omega), Int.toNat_natCast]
  obtain ⟨q, rfl⟩ := Nat.dvd_of_mod_eq_zero hd
  rw [Nat.mul_add_div (by omega), Nat.mul_div_cancel_left _ (by omega)]
theorem fair_join (l m : List Pk) (k : Nat) (h : 1 ≤ k) (h1 : fair l (k : Int) = true) (h2 : fair m (k : Int) = true) (hd : l.length % k = 0) : fair (l ++ m) (k : Int) = true := by
  unfold fair at *
  rw [Bool.and_eq_true] at *
  refine ⟨h1.1, ?_⟩
  have h1 := h1.2
  have h2 := h2.2
  rw [Int.toNat_natCast] at *
  unfold frs at *
  rw [uAll_iff] at *
  rw [List.length_append, wins_add _ _ _ h hd]
  intro j _ hj
  have wl : wins l.length (k : Int) = l.length / k := by unfold wins; rw [if_neg (by omega)]; rfl
  have e : l.length / k * k = l.length := Nat.div_mul_cancel (Nat.dvd_of_mod_eq_zero hd)
  by_cases c : j < wins l.length (k : Int)
  · have := h1 j (by omega) c
    have hle : (j + 1) * k ≤ l.length := by rw [← e]; exact Nat.mul_le_mul_right _ (by omega)
    rw [Nat.succ_mul] at hle
    rw [List.drop_append_of_le_length (by omega), List.take_append_of_le_length (by simp; omega)]
    exact this
  · have := h2 (j - wins l.length (k : Int)) (by omega) (by omega)
    have hle : l.length ≤ j * k := by
      conv => lhs; rw [← e]
      exact Nat.mul_le_mul_right _ (by omega)
    have e2 : j * k - l.length = (j - wins l.length (k : Int)) * k := by rw [Nat.sub_mul, wl, e]
    rw [List.drop_append, List.drop_of_length_le hle, List.nil_append, e2]
    exact this
theorem ChooseJoin_true (v u : V) (l m : List Pk) (hv : Sl v (pkR l)) (hu : Sl u (pkR m)) (hok : okP l) (hok2 : okP m) (w : Int) (hw : w ≤ 9223372036854775807) (hw' : -9223372036854775808 ≤ w) :
    evI pg .val n_undertowlaw03_ChooseJoin [v, u, .int .i64 w] [] = some (.bool true, []) := by
  rw [s_fn fn_undertowlaw03_ChooseJoin]
  by_cases hL : l.length ≤ 2000
  rotate_left
  · have hgt : (2000 : Int) < (l.length : Int) := by omega
    simp [ir_undertowlaw03_ChooseJoin, go_sem, alive03, hv.is, hu.is, hv.rows, hu.rows, pkR_len, hgt, unV]
  have hgt : ¬ (2000 : Int) < (l.length : Int) := by omega
  by_cases hM : m.length ≤ 2000
  rotate_left
  · have hgt2 : (2000 : Int) < (m.length : Int) := by omega
    simp [ir_undertowlaw03_ChooseJoin, go_sem, alive03, hv.is, hu.is, hv.rows, hu.rows, pkR_len, hgt, hgt2, unV]
  have hgt2 : ¬ (2000 : Int) < (m.length : Int) := by omega
  have f1 := Fair_ok v l hv hok (by omega) w hw hw'
  have f2 := Fair_ok u m hu hok2 (by omega) w hw hw'
  by_cases q1 : fair l w = true
  rotate_left
  · have q1' : fair l w = false := by simpa using q1
    rw [q1'] at f1
    simp [ir_undertowlaw03_ChooseJoin, go_sem, alive03, hv.is, hu.is, hv.rows, hu.rows, pkR_len, hgt, hgt2, f1, unV]
  rw [q1] at f1
  by_cases q2 : fair m w = true
  rotate_left
  · have q2' : fair m w = false := by simpa using q2
    rw [q2'] at f2
    simp [ir_undertowlaw03_ChooseJoin, go_sem, alive03, hv.is, hu.is, hv.rows, hu.rows, pkR_len, hgt, hgt2, f1, f2, unV]
  rw [q2] at f2
  have hw1 : 1 ≤ w := by
    unfold fair at q1
    rw [Bool.and_eq_true] at q1
    simpa using q1.1
  obtain ⟨k, rfl⟩ : ∃ k : Nat, w = k := ⟨w.toNat, by omega⟩
  have h0 : ¬ k = 0 := by omega
  have hm : (l.length : Int).tmod (k : Int) = ((l.length % k : Nat) : Int) := rfl
  by_cases q3 : l.length % k = 0
  rotate_left
  · have hm0 : ¬ ((l.length % k : Nat) : Int) = 0 := by omega
    simp [ir_undertowlaw03_ChooseJoin, go_sem, alive03, hv.is, hu.is, hv.rows, hu.rows, pkR_len, hgt, hgt2, f1, f2, h0, hm, q3, unV, -Int.natCast_emod]
  rw [q3] at hm
  have hj := fair_join l m k (by omega) q1 q2 q3
  have okj : okP (l ++ m) := fun p hp => by rcases List.mem_append.1 hp with h | h; exact hok p h; exact hok2 p h
  have f3 := Fair_ok (ils (pkR (l ++ m))) (l ++ m) (.ils _) okj (by simp; omega) (k : Int) hw hw'
  rw [hj] at f3
  have w1 := Windows_ok v l hv (by omega) (k : Int) hw
  have w2 := Windows_ok u m hu (by omega) (k : Int) hw
  have w3 := Windows_ok (ils (pkR (l ++ m))) (l ++ m) (.ils _) (by simp; omega) (k : Int) hw
  have wa := wins_add l.length m.length k (by omega) q3
  rw [List.length_append, wa] at w3
  have b1 := (wins_le l.length (k : Int)).1
  have b2 := (wins_le m.length (k : Int)).1
  have ea : IntKind.i64.wrap (((wins l.length (k : Int) : Nat) : Int) + ((wins m.length (k : Int) : Nat) : Int)) = ((wins l.length (k : Int) + wins m.length (k : Int) : Nat) : Int) := by rw [wrap_i64 (by omega) (by omega)]; rfl
  have a1 := app_pk (m := ⟨[], [0], []⟩) (l := []) (l' := l) (y := v) (hv.src _) rfl (by simp; omega)
  have a2 := app_pk (m := ⟨[], [l.length], []⟩) (l := l) (l' := m) (y := u) (hu.src _) rfl (by omega)
  have n0 : pkR [] = [] := rfl
  simp only [n0, List.nil_append, List.length_nil, Nat.zero_add, List.set_cons_zero] at a1 a2
  simp [ir_undertowlaw03_ChooseJoin, go_sem, alive03, hv.is, hu.is, hv.rows, hu.rows, pkR_len, hgt, hgt2, f1, f2, f3, h0, hm, a1, a2, w1, w2, w3, ea, unV, -Int.natCast_add]
theorem law_join : ∀ vs, PArgs Try.prog 8 Try.f7.params.toList vs → ∃ k, evF pg k .val 7 vs [] = some (.bool true, []) := by
  intro vs h
  obtain ⟨v1, _, rfl, h1, v2, _, rfl, h2, v3, _, rfl, h3, rfl⟩ := h
  obtain ⟨l, hl, hok⟩ := arg_pks (n := 5) h1
  obtain ⟨m, hm, hok2⟩ := arg_pks (n := 5) h2
  obtain ⟨w, rfl, hw1, hw2⟩ := arg_i64 Try.underlying3 h3
  exact (evI_iff (hx _ _)).1 (ChooseJoin_true v1 v2 l m hl hm hok hok2 w hw2 hw1)
end Go.Proofs.Ytgcahipcbidojaa
