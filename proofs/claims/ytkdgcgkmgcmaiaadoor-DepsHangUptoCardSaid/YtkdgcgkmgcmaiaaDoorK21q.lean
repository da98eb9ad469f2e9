/- Layer 21: the document's tables, by the address and by the data (no claim; lemmas). -/
import Derived.Test.YtkdgcgkmgcmaiaaDoorK21p
set_option linter.unusedSimpArgs false
set_option linter.unusedVariables false
namespace Go.Proofs.YtkdgcgkmgcmaiaaDoor
open Go Go.Vm

/-- A table, with one column turned in some rows. -/
def setB (i : Nat) (p : List Nat) (f : Nat → Nat → Bool) : Nat → Nat → Bool := fun a b => if b = i ∧ a ∈ p then true else f a b
theorem setB_cons (i x : Nat) (q : List Nat) (f : Nat → Nat → Bool) : setB i (x :: q) f = setB i q (fun a b => if a = x then (if b = i then true else f x b) else f a b) := by
  funext a b
  unfold setB
  by_cases c1 : b = i
  · subst c1
    by_cases c2 : a = x
    · simp [c2]
    · simp [c2]
  · by_cases c2 : a = x
    · simp [c1, c2]
    · simp [c1, c2]
theorem tab_facts {H : List Vm.Obj} {n T : Nat} {I : Nat → Nat} {f : Nat → Nat → Bool} (h : TabAt H (.rsl T 0 n) n T I f) {a b : Nat} (ha : a < n) (hb : b < n) :
    H[T]? = some (.arr ((List.range n).map fun a => [.rsl (I a) 0 n])) ∧ T < H.length ∧ H[I a]? = some (.arr (bR n (f a))) ∧ (bR n (f a))[b]? = some [.bool (f a b)] ∧
    I a < H.length ∧ ((List.range n).map fun a => [V.rsl (I a) 0 n])[a]? = some [.rsl (I a) 0 n] ∧
    TabAt (H.set (I a) (.arr ((bR n (f a)).set b [.bool true]))) (.rsl T 0 n) n T I (fun c d => if c = a then (if d = b then true else f a d) else f c d) := by
  have hrow := MatAt.row h a ha
  have hrl := get_lt hrow
  obtain ⟨_, ht2⟩ := MatAt.pos h (by omega)
  refine ⟨ht2, get_lt ht2, hrow, bR_get (f a) hb, hrl, by simp [ha], ?_⟩
  have s2 := MatAt.set h ha ((bR n (f a)).set b [.bool true]) (by rw [List.length_set, bR_len])
  refine MatAt.congr s2 fun c hc => ?_
  by_cases e : c = a
  · subst e
    simp only [if_true]
    rw [bR_set]
  · simp only [e, if_false]
section
variable {lv : V} (kd : Int) (so : V) (i n T : Nat) (hin : i < n) (I : Nat → Nat) (S : Nat → Nat) (z : List V) (r : Nat) (hr32 : r < 32) (p : List Nat) (hp : rt 512 (S r) = nL p) (hpn : ∀ a ∈ p, a < n) (hpl : p.length ≤ 512) (w8 w9 : V)
include hin hr32 hp hpn hpl
theorem H_l0 (j : Nat) (hj : j ≤ p.length) (f : Nat → Nat → Bool) (H : List Vm.Obj) (h : TabAt H (.rsl T 0 n) n T I f) :
    ∃ H', evCI pg (.loop ir_undertowref21_Hangl0) ⟨[lv, .int .i64 kd, .undef, .rsl T 0 n, .int .i64 (i : Int), .lp 0 0, .lp 1 0, so, .int .i64 (r : Int), w9, .int .i64 (j : Int), .undef, .undef, .undef, .undef, .undef, .undef, .undef, .undef, .undef, .undef, .undef, .undef, .undef, .undef], ⟨[xc S, z], [], H⟩⟩ =
        some (.exit 2, ⟨[lv, .int .i64 kd, .undef, .rsl T 0 n, .int .i64 (i : Int), .lp 0 0, .lp 1 0, so, .int .i64 (r : Int), w9, .int .i64 (p.length : Int), .undef, .undef, .undef, .undef, .undef, .undef, .undef, .bool false, .undef, .undef, .undef, .undef, .undef, .undef], ⟨[xc S, z], [], H'⟩⟩) ∧ TabAt H' (.rsl T 0 n) n T I (setB i (p.drop j) f) := by
  obtain ⟨B, hB⟩ : ∃ B, B = C.loop ir_undertowref21_Hangl0 := ⟨_, rfl⟩
  have hx := asIx_nat (k := .i64) hr32
  have hr32' : (r : Int) < 32 := by omega
  have hxg := xc_get S hr32
  have hxs := xv_sl (S r)
  rw [hp] at hxs
  have hpl' : (iI (nL p)).length = p.length := by rw [iI_len, nL_len]
  by_cases c : j < p.length
  · have e1 := fun m => hxs.ia (sz := 1) m .i64 (i := j) (by rw [hpl']; exact c) (by simp [iI])
    simp only [iI_el] at e1
    have e1' : (nL p)[j]'(by rw [nL_len]; exact c) = ((p[j] : Nat) : Int) := by simp [nL]
    simp only [e1'] at e1
    have e3 := succ_i64 c (by omega)
    have ha := hpn p[j] (List.getElem_mem c)
    obtain ⟨t1, t2, t3, t5, t6, t7, t8⟩ := tab_facts h ha hin
    obtain ⟨H', q1, q2⟩ := H_l0 (j + 1) (by omega) _ _ t8
    refine ⟨H', ?_, ?_⟩
    · rw [← q1, ← hB]
      conv => lhs; rw [s_loop_at hB]
      have w3 := xv_is (S r)
      have hxr := hxs.rows
      generalize xv (S r) = xr at *
      generalize xc S = xcs at *
      generalize p[j] = a at *
      have hai : (a : Int) < (n : Int) := by omega
      have hii : (i : Int) < (n : Int) := by omega
      obtain ⟨br, hbr⟩ : ∃ br, br = bR n (f a) := ⟨_, rfl⟩
      rw [← hbr] at t3 t5 q1 ⊢
      have t4 := get_el t3 t6
      have t9 := get_el t1 t2
      generalize (List.range n).map (fun a => [V.rsl (I a) 0 n]) = tr at *
      have t5l : i < br.length := by rw [hbr, bR_len]; exact hin
      have t6l : br.length = n := by rw [hbr, bR_len]
      have t7e : br[i] = [.bool (f a i)] := by
        have := t5
        rw [List.getElem?_eq_getElem t5l] at this; exact Option.some.inj this
      simp [ir_undertowref21_Hangl0, go_sem, hx, hr32', hxg, hxr, e1, e3, c, hpl', w3, loadAt, t1, t2, t9, t3, t4, t5, t6, t7, t5l, t6l, t7e, ha, hin, hai, hii, evStore, V.cells, splice, -Int.natCast_add]
    · have hd : setB i (p.drop j) f = setB i (p.drop (j + 1)) (fun a b => if a = p[j] then (if b = i then true else f p[j] b) else f a b) := by
        rw [List.drop_eq_getElem_cons c, setB_cons]
      rw [hd]; exact q2
  · obtain rfl : j = p.length := by omega
    refine ⟨H, ?_, ?_⟩
    · rw [← hB, s_loop_at hB]
      have w3 := xv_is (S r)
      have hxr := hxs.rows
      generalize xv (S r) = xr at *
      generalize xc S = xcs at *
      simp [ir_undertowref21_Hangl0, go_sem, hx, hr32', hxg, hxr, hpl', w3, loadAt, -Int.natCast_add]
    · have hd : setB i (p.drop p.length) f = f := by
        funext a b
        rw [List.drop_length]
        unfold setB; simp
      rw [hd]; exact h
termination_by p.length - j
theorem H_l1 (j : Nat) (hj : j ≤ p.length) (f : Nat → Nat → Bool) (H : List Vm.Obj) (h : TabAt H (.rsl T 0 n) n T I f) :
    ∃ H', evCI pg (.loop ir_undertowref21_Hangl1) ⟨[lv, .int .i64 kd, .undef, .rsl T 0 n, .int .i64 (i : Int), .lp 0 0, .lp 1 0, so, .undef, .int .i64 (r : Int), .undef, .int .i64 (j : Int), .undef, .undef, .undef, .undef, .undef, .undef, .undef, .undef, .undef, .undef, .undef, .undef, .undef], ⟨[xc S, z], [], H⟩⟩ =
        some (.exit 4, ⟨[lv, .int .i64 kd, .undef, .rsl T 0 n, .int .i64 (i : Int), .lp 0 0, .lp 1 0, so, .undef, .int .i64 (r : Int), .undef, .int .i64 (p.length : Int), .undef, .undef, .undef, .undef, .undef, .undef, .undef, .undef, .bool false, .undef, .undef, .undef, .undef], ⟨[xc S, z], [], H'⟩⟩) ∧ TabAt H' (.rsl T 0 n) n T I (setB i (p.drop j) f) := by
  obtain ⟨B, hB⟩ : ∃ B, B = C.loop ir_undertowref21_Hangl1 := ⟨_, rfl⟩
  have hx := asIx_nat (k := .i64) hr32
  have hr32' : (r : Int) < 32 := by omega
  have hxg := xc_get S hr32
  have hxs := xv_sl (S r)
  rw [hp] at hxs
  have hpl' : (iI (nL p)).length = p.length := by rw [iI_len, nL_len]
  by_cases c : j < p.length
  · have e1 := fun m => hxs.ia (sz := 1) m .i64 (i := j) (by rw [hpl']; exact c) (by simp [iI])
    simp only [iI_el] at e1
    have e1' : (nL p)[j]'(by rw [nL_len]; exact c) = ((p[j] : Nat) : Int) := by simp [nL]
    simp only [e1'] at e1
    have e3 := succ_i64 c (by omega)
    have ha := hpn p[j] (List.getElem_mem c)
    obtain ⟨t1, t2, t3, t5, t6, t7, t8⟩ := tab_facts h ha hin
    obtain ⟨H', q1, q2⟩ := H_l1 (j + 1) (by omega) _ _ t8
    refine ⟨H', ?_, ?_⟩
    · rw [← q1, ← hB]
      conv => lhs; rw [s_loop_at hB]
      have w3 := xv_is (S r)
      have hxr := hxs.rows
      generalize xv (S r) = xr at *
      generalize xc S = xcs at *
      generalize p[j] = a at *
      have hai : (a : Int) < (n : Int) := by omega
      have hii : (i : Int) < (n : Int) := by omega
      obtain ⟨br, hbr⟩ : ∃ br, br = bR n (f a) := ⟨_, rfl⟩
      rw [← hbr] at t3 t5 q1 ⊢
      have t4 := get_el t3 t6
      have t9 := get_el t1 t2
      generalize (List.range n).map (fun a => [V.rsl (I a) 0 n]) = tr at *
      have t5l : i < br.length := by rw [hbr, bR_len]; exact hin
      have t6l : br.length = n := by rw [hbr, bR_len]
      have t7e : br[i] = [.bool (f a i)] := by
        have := t5
        rw [List.getElem?_eq_getElem t5l] at this; exact Option.some.inj this
      simp [ir_undertowref21_Hangl1, go_sem, hx, hr32', hxg, hxr, e1, e3, c, hpl', w3, loadAt, t1, t2, t9, t3, t4, t5, t6, t7, t5l, t6l, t7e, ha, hin, hai, hii, evStore, V.cells, splice, -Int.natCast_add]
    · have hd : setB i (p.drop j) f = setB i (p.drop (j + 1)) (fun a b => if a = p[j] then (if b = i then true else f p[j] b) else f a b) := by
        rw [List.drop_eq_getElem_cons c, setB_cons]
      rw [hd]; exact q2
  · obtain rfl : j = p.length := by omega
    refine ⟨H, ?_, ?_⟩
    · rw [← hB, s_loop_at hB]
      have w3 := xv_is (S r)
      have hxr := hxs.rows
      generalize xv (S r) = xr at *
      generalize xc S = xcs at *
      simp [ir_undertowref21_Hangl1, go_sem, hx, hr32', hxg, hxr, hpl', w3, loadAt, -Int.natCast_add]
    · have hd : setB i (p.drop p.length) f = f := by
        funext a b
        rw [List.drop_length]
        unfold setB; simp
      rw [hd]; exact h
termination_by p.length - j
end
end Go.Proofs.YtkdgcgkmgcmaiaaDoor
