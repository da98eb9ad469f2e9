/- Layer 19: the program's order (no claim; lemmas). -/
import Derived.Test.YtkjfedgjjgobaaaDoorK19n
set_option linter.unusedSimpArgs false
set_option linter.unusedVariables false
namespace Go.Proofs.YtkjfedgjjgobaaaDoor
open Go Go.Vm

/-! ### plain -/
/-- May a thing be next? -/
def may (R : Nat → Nat → Bool) (n : Nat) (gone : Nat → Bool) (a : Nat) : Bool := !gone a && (List.range n).all fun b => gone b || !R b a
/-- The least that may be next, always. -/
def kah (R : Nat → Nat → Bool) (n : Nat) : Nat → (Nat → Bool) → List Int → Option (List Int)
  | 0, _, out => some out
  | k + 1, gone, out => match (List.range n).find? (may R n gone) with
    | none => none
    | some a => kah R n k (fun x => gone x || decide (x = a)) (out ++ [(a : Int)])
/-- How many stand ahead. -/
def cntG (R : Nat → Nat → Bool) (n : Nat) (gone : Nat → Bool) (b : Nat) : Nat := (List.range n).countP fun x => R x b && !gone x
theorem cnt_zero (R : Nat → Nat → Bool) (n : Nat) (gone : Nat → Bool) (b : Nat) : (cntG R n gone b = 0) ↔ ((List.range n).all fun x => gone x || !R x b) = true := by
  unfold cntG
  rw [List.countP_eq_zero, List.all_eq_true]
  constructor
  · intro h x hx
    have := h x hx
    cases h1 : R x b <;> cases h2 : gone x <;> simp_all
  · intro h x hx
    have := h x hx
    cases h1 : R x b <;> cases h2 : gone x <;> simp_all
theorem may_cnt (R : Nat → Nat → Bool) (n : Nat) (gone : Nat → Bool) (a : Nat) : may R n gone a = (!gone a && decide ((cntG R n gone a : Int) ≤ 0)) := by
  unfold may
  congr 1
  rw [Bool.eq_iff_iff, ← cnt_zero, decide_eq_true_eq]
  omega
theorem sb_succ (n : Nat) (p : Nat → Bool) : sb (n + 1) p = sb n p ++ (if p n = true then [n] else []) := by
  unfold sb
  rw [List.range_succ, List.filter_append]
  congr 1
  cases hp : p n <;> simp [List.filter_cons, hp]
theorem sb_count (p : Nat → Bool) (b : Nat) : ∀ n, (sb n p).countP (fun j => decide (j = b)) = if b < n ∧ p b = true then 1 else 0
  | 0 => by simp [sb]
  | n + 1 => by
    rw [sb_succ, List.countP_append, sb_count p b n]
    by_cases hb : b = n
    · subst hb
      cases hp : p b <;> simp
    · have h1 : ¬ n = b := fun e => hb e.symm
      have h2 : (b < n + 1) ↔ (b < n) := by omega
      cases hp : p n <;> simp [h1, h2]
theorem cnt_pick (R : Nat → Nat → Bool) (n : Nat) (gone : Nat → Bool) (a b : Nat) (ha : a < n) (hg : gone a = false) : cntG R n gone b = cntG R n (fun x => gone x || decide (x = a)) b + if R a b = true then 1 else 0 := by
  have key : ∀ m, (List.range m).countP (fun x => R x b && !gone x) = (List.range m).countP (fun x => R x b && !(gone x || decide (x = a))) + if a < m ∧ R a b = true then 1 else 0 := by
    intro m
    induction m with
    | zero => simp
    | succ m ih =>
      rw [List.range_succ, List.countP_append, List.countP_append, ih]
      by_cases e : a = m
      · subst e
        cases hR : R a b <;> simp [hg, hR]
      · have h1 : ¬ m = a := fun h => e h.symm
        have h2 : (a < m + 1) ↔ (a < m) := by omega
        simp only [List.countP_singleton, h1, decide_false, Bool.or_false, h2]
        omega
  have := key n
  unfold cntG
  rw [this]
  simp [ha]
theorem cnt_le (R : Nat → Nat → Bool) (n : Nat) (gone : Nat → Bool) (b : Nat) : cntG R n gone b ≤ n := by
  have := List.countP_le_length (p := fun x => R x b && !gone x) (l := List.range n)
  simpa [cntG] using this
/-- Pairs to a thing. -/
theorem prs_count (n : Nat) (W : Nat → Nat) (b : Nat) (hb : b < n) : (prs n W 0).countP (fun q => decide (q.2 = (b : Int))) = cntG (bitW W) n (fun _ => false) b := by
  have key : ∀ d i, i + d = n → (prs n W i).countP (fun q => decide (q.2 = (b : Int))) = (List.range' i (n - i)).countP fun x => (W x).testBit b := by
    intro d
    induction d with
    | zero =>
      intro i hi
      obtain rfl : i = n := by omega
      rw [prs_end, Nat.sub_self]
      rfl
    | succ d ih =>
      intro i hi
      rw [prs_step W (by omega), List.countP_append, ih (i + 1) (by omega), show n - i = (n - (i + 1)) + 1 by omega, List.range'_succ, List.countP_cons, List.countP_map]
      have h1 : (rt n (W i)).countP ((fun q : Int × Int => decide (q.2 = (b : Int))) ∘ fun c => ((i : Int), c)) = if (W i).testBit b = true then 1 else 0 := by
        unfold rt
        rw [List.countP_map]
        have := sb_count (W i).testBit b n
        rw [show (((fun q : Int × Int => decide (q.2 = (b : Int))) ∘ fun c => ((i : Int), c)) ∘ fun b : Nat => (b : Int)) = fun j : Nat => decide (j = b) from by
          funext j; simp [nat_eq_int], this]
        simp [hb]
      rw [h1]
      omega
  rw [key n 0 (by omega)]
  unfold cntG bitW
  rw [Nat.sub_zero, ← List.range_eq_range']
  congr 1
  funext x
  simp

/-! ### numbers in a row on the heap -/
def nR (n : Nat) (g : Nat → Int) : List (List V) := (List.range n).map fun b => [.int .i64 (g b)]
theorem nR_len (n : Nat) (g : Nat → Int) : (nR n g).length = n := by simp [nR]
theorem nR_el (n : Nat) (g : Nat → Int) (i : Nat) (h : i < (nR n g).length) : (nR n g)[i] = [.int .i64 (g i)] := by simp [nR]
theorem nR_get {n : Nat} (g : Nat → Int) {i : Nat} (h : i < n) : (nR n g)[i]? = some [.int .i64 (g i)] := by
  rw [List.getElem?_eq_getElem (by rw [nR_len]; exact h), nR_el]
theorem nR_set (n : Nat) (g : Nat → Int) (i : Nat) (x : Int) : (nR n g).set i [.int .i64 x] = nR n (fun j => if j = i then x else g j) := by
  apply List.ext_getElem
  · simp [nR]
  · intro j h1 h2
    rw [List.getElem_set, nR_el, nR_el]
    by_cases c : i = j
    · subst c; simp
    · have : ¬ j = i := fun e => c e.symm
      simp [c, this]
theorem nR_congr {n : Nat} {f g : Nat → Int} (h : ∀ j, j < n → f j = g j) : nR n f = nR n g := by
  unfold nR
  apply List.map_congr_left
  intro j hj
  rw [h j (List.mem_range.1 hj)]
theorem nR_rep (n : Nat) : nR n (fun _ => 0) = List.replicate n [.int .i64 0] := by simp [nR, List.map_const']

theorem Order_l0 (t : Bool) (rv u : V) (n : Nat) (hn : n ≤ 512) (l : List (Int × Int)) (hl : l.length ≤ 300000) (hu : Sl u (pR l)) (hb : ∀ q ∈ l, 0 ≤ q.2 ∧ q.2 < n) (vs : List V) (t0 : Nat) (j : Nat) (hj : j ≤ l.length) (g : Nat → Int) (hg : ∀ b, 0 ≤ g b ∧ g b ≤ j) :
    ∃ vs', evCI pg (.loop ir_rel_Rel_Orderl0) ⟨[.ip t [rv] 0, .undef, .undef, .rsl 0 0 n, .undef, .undef, .undef, .undef, .undef, u, .int .i64 (l.length : Int), .int .i64 (j : Int), .undef, .undef, .undef, .undef, .undef, .undef, .undef, .undef, .undef, .undef], ⟨[vs], [t0], [.arr (nR n g)]⟩⟩ =
      some (.exit 0, ⟨[.ip t [rv] 0, .undef, .undef, .rsl 0 0 n, .undef, .undef, .undef, .undef, .undef, u, .int .i64 (l.length : Int), .int .i64 (l.length : Int), .bool false, .undef, .undef, .undef, .undef, .undef, .undef, .undef, .undef, .undef], ⟨[vs'], [t0], [.arr (nR n fun b => g b + ((l.drop j).countP (fun q => decide (q.2 = (b : Int))) : Nat))]⟩⟩) := by
  obtain ⟨B, hB⟩ : ∃ B, B = Vm.C.loop ir_rel_Rel_Orderl0 := ⟨_, rfl⟩
  have hpl := pR_len l
  by_cases c : j < l.length
  · have e3 := succ_i64 c (by omega)
    have e1 := fun m => hu.ia (sz := 2) m .i64 (i := j) (by omega) (by simp [pR])
    simp only [pR_el] at e1
    have hbj := hb l[j] (List.getElem_mem _)
    have hdr := List.drop_eq_getElem_cons c
    generalize l[j] = q at *
    obtain ⟨x, y⟩ := q
    obtain ⟨y, rfl⟩ : ∃ k : Nat, y = k := ⟨y.toNat, by simp only at hbj; omega⟩
    have hy : y < n := by simp only at hbj; omega
    simp only at e1 hbj
    have hgy := hg y
    obtain ⟨vs', ih⟩ := Order_l0 t rv u n hn l hl hu hb [] t0 (j + 1) (by omega) (fun b => if b = y then g y + 1 else g b) (fun b => by
      have := hg b
      split
      · omega
      · omega)
    refine ⟨vs', ?_⟩
    have hfe : nR n (fun b => g b + ((l.drop j).countP (fun q => decide (q.2 = (b : Int))) : Nat)) = nR n (fun b => (if b = y then g y + 1 else g b) + ((l.drop (j + 1)).countP (fun q => decide (q.2 = (b : Int))) : Nat)) := by
      apply nR_congr
      intro b hb
      rw [hdr, List.countP_cons]
      by_cases e : b = y
      · subst e
        simp
        omega
      · have h1 : ¬ (y : Int) = (b : Int) := by omega
        simp [e, h1]
    rw [hfe, ← ih, ← hB]
    conv => lhs; rw [s_loop_at hB]
    have e4 : IntKind.i64.wrap (g y + 1) = g y + 1 := wrap_i64 (by omega) (by omega)
    have hgl := nR_len n g
    have hgg := nR_get g hy
    rw [← nR_set n g y (g y + 1)]
    generalize nR n g = ar at *
    have hal : y < ar.length := by omega
    have hae : ar[y] = [.int .i64 (g y)] := by
      rw [List.getElem?_eq_getElem hal] at hgg; exact Option.some.inj hgg
    simp [ir_rel_Rel_Orderl0, go_sem, hu.is, c, e1, e3, e4, hgl, hgg, hal, hae, hy, asIx_nat, -Int.natCast_add]
  · obtain rfl : j = l.length := by omega
    refine ⟨vs, ?_⟩
    rw [← hB, s_loop_at hB, List.drop_length]
    simp [ir_rel_Rel_Orderl0, go_sem, hu.is]
termination_by l.length - j
end Go.Proofs.YtkjfedgjjgobaaaDoor
