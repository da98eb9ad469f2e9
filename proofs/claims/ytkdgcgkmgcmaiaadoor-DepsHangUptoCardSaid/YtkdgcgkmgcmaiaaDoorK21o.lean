/- Layer 21: the document's roots of all registers (no claim; lemmas). -/
import Derived.Test.YtkdgcgkmgcmaiaaDoorK21n
set_option linter.unusedSimpArgs false
set_option linter.unusedVariables false
namespace Go.Proofs.YtkdgcgkmgcmaiaaDoor
open Go Go.Vm

/-- All registers' roots, as lists. -/
def xv (W : Nat) : V := ils (iI (rt 512 W))
def xc (S : Nat → Nat) : List V := (List.range 32).map fun r => xv (S r)
theorem xc_len (S : Nat → Nat) : (xc S).length = 32 := by simp [xc]
theorem xc_get (S : Nat → Nat) {r : Nat} (h : r < 32) : (xc S)[r]? = some (xv (S r)) := by simp [xc, h]
theorem xc_set (S : Nat → Nat) (r W : Nat) (h : r < 32) : (xc S).set r (xv W) = xc (up S r W) := by
  apply List.ext_getElem
  · simp [xc]
  · intro j h1 h2
    rw [List.getElem_set]
    simp only [xc, List.getElem_map, List.getElem_range, up]
    by_cases c : r = j
    · subst c; simp
    · rw [if_neg c, if_neg (fun e => c e.symm)]
theorem xv_sl (W : Nat) : Sl (xv W) (iI (rt 512 W)) := .ils _
theorem xv_is (W : Nat) : isS (xv W) = true := (xv_sl W).is
theorem sb_zero (n : Nat) : sb n (Nat.testBit 0) = [] := sb_none fun j _ => Nat.zero_testBit j
theorem rt_zero (n : Nat) : rt n 0 = [] := by rw [rt_nL, sb_zero]; rfl
theorem xv_zero : xv 0 = .nils := by unfold xv; rw [rt_zero]; rfl
theorem rt_one {n b : Nat} (hb : b < n) : rt n (2 ^ b) = [(b : Int)] := by
  rw [rt_nL, rt_split hb]
  have h1 : (2 ^ b).testBit b = true := by rw [Nat.testBit_two_pow]; simp
  have h2 : sb b (2 ^ b).testBit = [] := sb_none fun j hj => by rw [Nat.testBit_two_pow]; simp; omega
  have h3 : (List.range' (b + 1) (n - (b + 1))).filter (2 ^ b).testBit = [] := by
    rw [List.filter_eq_nil_iff]
    intro j hj
    have := List.mem_range'_1.1 hj
    rw [Nat.testBit_two_pow]; simp; omega
  rw [h1, h2, h3]; rfl
theorem xv_one {b : Nat} (hb : b < 512) : xv (2 ^ b) = .isl false [[.int .i64 (b : Int)]] := by unfold xv; rw [rt_one hb]; rfl
theorem rep32 : List.replicate 32 V.nils = [.nils, .nils, .nils, .nils, .nils, .nils, .nils, .nils, .nils, .nils, .nils, .nils, .nils, .nils, .nils, .nils, .nils, .nils, .nils, .nils, .nils, .nils, .nils, .nils, .nils, .nils, .nils, .nils, .nils, .nils, .nils, .nils] := rfl
theorem xc_zero : List.replicate 32 V.nils = xc (fun _ => 0) := by
  apply List.ext_getElem
  · simp [xc]
  · intro i h1 h2
    have h3 := xc_get (fun _ => 0) (r := i) (by rw [xc_len] at h2; exact h2)
    rw [List.getElem?_eq_getElem h2] at h3
    rw [List.getElem_replicate, Option.some.inj h3, xv_zero]
/-- Places put in one after the other. -/
def orL (W : Nat) (q : List Nat) : Nat := q.foldl (fun W b => W ||| 2 ^ b) W
theorem orL_bit (a : Nat) : ∀ (q : List Nat) (W : Nat), (orL W q).testBit a = (W.testBit a || decide (a ∈ q))
  | [], W => by simp [orL]
  | b :: q, W => by
    have e : orL W (b :: q) = orL (W ||| 2 ^ b) q := rfl
    rw [e, orL_bit a q, Nat.testBit_or, Nat.testBit_two_pow, Bool.or_assoc]
    congr 1
    by_cases h : b = a
    · subst h; simp
    · have : ¬ a = b := fun e => h e.symm
      simp [h, this]
theorem orL_sb {n U : Nat} (h : U < 2 ^ n) (W : Nat) : orL W (sb n U.testBit) = W ||| U := by
  apply Nat.eq_of_testBit_eq
  intro a
  rw [orL_bit, Nat.testBit_or]
  congr 1
  by_cases ha : a < n
  · cases hu : U.testBit a <;> simp [mem_sb, ha, hu]
  · have : U.testBit a = false := bit_ge h (by omega)
    simp [mem_sb, ha, this]
section
variable {lv : V} (k i : Nat) (to : Int) (S : Nat → Nat)
theorem rR_l0 (fv : V) (q : List Int) (hf : Sl fv (iI q)) (j0 : Nat) (hj0 : j0 < q.length) (hql : q.length ≤ 1000) (r : Nat) (hr : q[j0] = (r : Int)) (hr32 : r < 32) (p : List Nat) (hp : rt 512 (S r) = nL p) (hpl : ∀ b ∈ p, b < 512) (hpn : p.length ≤ 512) (j : Nat) (hj : j ≤ p.length) (W : Nat) :
    evCI pg (.loop ir_undertowref21_Rootsl0) ⟨[lv, .int .i64 (k : Int), .lp 0 0, .lp 1 0, .int .i64 (i : Int), .undef, .int .i64 to, xv W, fv, .int .i64 (j0 : Int), .int .i64 (j : Int), .undef, .undef, .undef, .undef, .undef, .undef], ⟨[xc (fun _ => 0), xc S], [], []⟩⟩ =
      some (.exit 4, ⟨[lv, .int .i64 (k : Int), .lp 0 0, .lp 1 0, .int .i64 (i : Int), .undef, .int .i64 to, xv (orL W (p.drop j)), fv, .int .i64 (j0 : Int), .int .i64 (p.length : Int), .undef, .undef, .undef, .undef, .undef, .bool false], ⟨[xc (fun _ => 0), xc S], [], []⟩⟩) := by
  obtain ⟨B, hB⟩ : ∃ B, B = C.loop ir_undertowref21_Rootsl0 := ⟨_, rfl⟩
  have f1 := fun m => hf.ia (sz := 1) m .i64 (i := j0) (by rw [iI_len]; exact hj0) (by simp [iI])
  simp only [iI_el, hr] at f1
  have hx := asIx_nat (k := .i64) hr32
  have hr32' : (r : Int) < 32 := by omega
  have hxg := xc_get S hr32
  have hxs := xv_sl (S r)
  rw [hp] at hxs
  have hfi := hf.is
  have hfr := hf.rows
  have hpl' : (iI (nL p)).length = p.length := by rw [iI_len, nL_len]
  have hW := xv_is
  by_cases c : j < p.length
  · have e1 := fun m => hxs.ia (sz := 1) m .i64 (i := j) (by rw [hpl']; exact c) (by simp [iI])
    simp only [iI_el] at e1
    have e1' : (nL p)[j]'(by rw [nL_len]; exact c) = ((p[j] : Nat) : Int) := by simp [nL]
    simp only [e1'] at e1
    have e3 := succ_i64 c (by omega)
    have hI := Into_rt (n := 512) (W := W) (by omega) (hpl p[j] (List.getElem_mem c)) (xv_sl W)
    have hI' : evI pg .val n_undertowref21_Into [xv W, .int .i64 ((p[j] : Nat) : Int)] [] = some (xv (W ||| 2 ^ p[j]), []) := hI
    have ih := rR_l0 fv q hf j0 hj0 hql r hr hr32 p hp hpl hpn (j + 1) (by omega) (W ||| 2 ^ p[j])
    have ed : orL W (p.drop j) = orL (W ||| 2 ^ p[j]) (p.drop (j + 1)) := by rw [List.drop_eq_getElem_cons c]; rfl
    rw [ed, ← ih, ← hB]
    conv => lhs; rw [s_loop_at hB]
    have w1 := hW W
    have w2 := hW (W ||| 2 ^ p[j])
    have w3 := hW (S r)
    generalize W ||| 2 ^ p[j] = W2 at *
    generalize xv W2 = x2 at *
    generalize xv W = x1 at *
    have hxr := hxs.rows
    generalize xv (S r) = xr at *
    generalize xc S = xcs at *
    generalize xc (fun _ => 0) = xc0 at *
    simp [ir_undertowref21_Rootsl0, go_sem, f1, hfi, hfr, iI_len, hx, hr32', hxg, hxr, e1, e3, hI', c, hpl', w1, w2, w3, loadAt, -Int.natCast_add]
  · obtain rfl : j = p.length := by omega
    rw [← hB, s_loop_at hB, List.drop_length]
    have w1 := hW W
    have w3 := hW (S r)
    have e : orL W [] = W := rfl
    rw [e]
    generalize xv W = x1 at *
    have hxr := hxs.rows
    generalize xv (S r) = xr at *
    generalize xc S = xcs at *
    generalize xc (fun _ => 0) = xc0 at *
    simp [ir_undertowref21_Rootsl0, go_sem, f1, hfi, hfr, iI_len, hx, hr32', hxg, hxr, hpl', w1, w3, loadAt, -Int.natCast_add]
termination_by p.length - j
variable (n5 : Nat) (h5 : n5 = 512) (hS : ∀ r, r < 32 → S r < 2 ^ n5)
include h5 hS
theorem rR_l1 (fv : V) (q : List Int) (hf : Sl fv (iI q)) (hql : q.length ≤ 1000) (hq : ∀ a ∈ q, 0 < a ∧ a < 32) (j : Nat) (hj : j ≤ q.length) (W : Nat) :
    evCI pg (.loop ir_undertowref21_Rootsl1) ⟨[lv, .int .i64 (k : Int), .lp 0 0, .lp 1 0, .int .i64 (i : Int), .undef, .int .i64 to, xv W, fv, .int .i64 (j : Int), .undef, .undef, .undef, .undef, .undef, .undef, .undef], ⟨[xc (fun _ => 0), xc S], [], []⟩⟩ =
      some (.exit 2, ⟨[lv, .int .i64 (k : Int), .lp 0 0, .lp 1 0, .int .i64 (i : Int), .undef, .int .i64 to, xv (ofF S (q.drop j) W), fv, .int .i64 (q.length : Int), .undef, .undef, .undef, .undef, .undef, .bool false, .undef], ⟨[xc (fun _ => 0), xc S], [], []⟩⟩) := by
  obtain ⟨B, hB⟩ : ∃ B, B = C.loop ir_undertowref21_Rootsl1 := ⟨_, rfl⟩
  have hfi := hf.is
  have hfr := hf.rows
  by_cases c : j < q.length
  · have h0 := hq q[j] (List.getElem_mem c)
    obtain ⟨r, hr⟩ : ∃ r : Nat, q[j] = (r : Int) := ⟨q[j].toNat, by omega⟩
    have hr32 : r < 32 := by omega
    have e3 := succ_i64 c (by omega)
    have hL := rR_l0 (lv := lv) k i to S fv q hf j c hql r hr hr32 (sb 512 (S r).testBit) (rt_nL 512 (S r)) (fun b hb => (mem_sb.1 hb).1) (sb_len _ _) 0 (by omega) W
    rw [List.drop_zero, Int.natCast_zero] at hL
    have ho : orL W (sb 512 (S r).testBit) = W ||| S r := by
      have := orL_sb (hS r hr32) W
      rwa [h5] at this
    rw [ho] at hL
    have ef : ofF S (q.drop j) W = ofF S (q.drop (j + 1)) (W ||| S r) := by
      rw [List.drop_eq_getElem_cons c]; unfold ofF; rw [List.foldl_cons, if_pos h0, hr]; rfl
    have ih := rR_l1 fv q hf hql hq (j + 1) (by omega) (W ||| S r)
    rw [ef, ← ih, ← hB]
    conv => lhs; rw [s_loop_at hB]
    have w1 := xv_is W
    have w2 := xv_is (W ||| S r)
    generalize xv W = x1 at *
    generalize xv (W ||| S r) = x2 at *
    generalize xc S = xcs at *
    generalize xc (fun _ => 0) = xc0 at *
    simp [ir_undertowref21_Rootsl1, go_sem, c, e3, hfi, hfr, iI_len, hL, w1, w2, -Int.natCast_add]
  · obtain rfl : j = q.length := by omega
    rw [← hB, s_loop_at hB, List.drop_length]
    have e : ofF S [] W = W := rfl
    rw [e]
    have w1 := xv_is W
    generalize xv W = x1 at *
    generalize xc S = xcs at *
    generalize xc (fun _ => 0) = xc0 at *
    simp [ir_undertowref21_Rootsl1, go_sem, hfi, hfr, iI_len, w1, -Int.natCast_add]
termination_by q.length - j
end
theorem srcs_rg (y : In) : ∀ a ∈ srcs y, 0 < a ∧ a < 32 := by
  intro a ha
  unfold srcs src0 at ha
  rw [List.mem_filter] at ha
  have h1 := rg_le y.rs1
  have h2 := rg_le y.rs2
  obtain ⟨h3, h4⟩ := ha
  simp only [decide_eq_true_eq] at h4
  rcases List.mem_append.1 h3 with h3 | h3
  · split at h3
    · simp at h3; omega
    · simp at h3
  · split at h3
    · simp at h3; omega
    · simp at h3
end Go.Proofs.YtkdgcgkmgcmaiaaDoor
