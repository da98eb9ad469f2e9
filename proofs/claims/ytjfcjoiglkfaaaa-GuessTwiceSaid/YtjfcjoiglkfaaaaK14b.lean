/- Layer 14: a guess's cells (no claim; lemmas). -/
import Derived.Test.YtjfcjoiglkfaaaaK14a
set_option linter.unusedSimpArgs false
set_option linter.unusedVariables false
namespace Go.Proofs.Ytjfcjoiglkfaaaa
open Go Go.Vm

def jC (j : List (Nat × Bool)) : List V := j.flatMap fun p => [V.int .u64 (p.1 : Int), V.bool p.2]
def cC (c : List Nat) : List V := c.map fun (n : Nat) => V.int .i64 (n : Int)
def gC (j : List (Nat × Bool)) (c : List Nat) : List V := jC j ++ cC c
theorem jC_len (j : List (Nat × Bool)) : (jC j).length = 2 * j.length := by
  induction j with
  | nil => rfl
  | cons p j ih => simp [jC] at ih ⊢; omega
theorem gC_len {j : List (Nat × Bool)} {c : List Nat} (hj : j.length = 16) (hc : c.length = 16) : (gC j c).length = 48 := by
  simp [gC, jC_len, cC, hj, hc]
theorem gC_ctr {j : List (Nat × Bool)} {c : List Nat} (hj : j.length = 16) (p : Nat) (h : p < c.length) : (gC j c)[32 + p]? = some (.int .i64 ((c[p] : Nat) : Int)) := by
  unfold gC
  rw [List.getElem?_append_right (by rw [jC_len]; omega), jC_len, hj]
  simp [cC, show 32 + p - 32 = p by omega, h]
attribute [go_sem] eqnV isNil
theorem jC_el (j : List (Nat × Bool)) (p : Nat) (h : p < j.length) : (jC j).drop (p * 2) = V.int .u64 (j[p].1 : Int) :: V.bool j[p].2 :: jC (j.drop (p + 1)) := by
  induction j generalizing p with
  | nil => simp at h
  | cons q j ih =>
    cases p with
    | zero => simp [jC]
    | succ p =>
      have := ih p (by simpa using h)
      simp only [jC, List.flatMap_cons, List.cons_append, List.nil_append] at this ⊢
      rw [show (p + 1) * 2 = p * 2 + 2 by omega]
      simpa using this
theorem gC_jump {j : List (Nat × Bool)} {c : List Nat} (p : Nat) (h : p < j.length) : ((gC j c).drop (p * 2)).take 2 = [V.int .u64 (j[p].1 : Int), V.bool j[p].2] := by
  unfold gC
  rw [List.drop_append_of_le_length (by rw [jC_len]; omega), jC_el j p h]
  simp
theorem gC_setc {j : List (Nat × Bool)} {c : List Nat} (hj : j.length = 16) (p n : Nat) (h : p < c.length) : (gC j c).take (32 + p) ++ V.int .i64 (n : Int) :: (gC j c).drop (32 + p + 1) = gC j (c.set p n) := by
  unfold gC
  have hl : (jC j).length = 32 := by rw [jC_len, hj]
  rw [List.take_append, List.drop_append, List.take_of_length_le (by omega), List.drop_of_length_le (by omega), hl]
  rw [show 32 + p - 32 = p by omega, show 32 + p + 1 - 32 = p + 1 by omega]
  simp only [List.append_assoc, List.nil_append, List.append_cancel_left_eq, cC]
  rw [List.map_set, List.set_eq_take_append_cons_drop, if_pos (by simpa using h)]
theorem jC_set (j : List (Nat × Bool)) (p x : Nat) (b : Bool) (h : p < j.length) : (jC j).take (p * 2) ++ V.int .u64 (x : Int) :: V.bool b :: (jC j).drop (p * 2 + 2) = jC (j.set p (x, b)) := by
  induction j generalizing p with
  | nil => simp at h
  | cons q j ih =>
    cases p with
    | zero => simp [jC]
    | succ p =>
      have := ih p (by simpa using h)
      simp only [jC, List.flatMap_cons, List.cons_append, List.nil_append, List.set_cons_succ] at this ⊢
      rw [← this, show (p + 1) * 2 = p * 2 + 2 by omega]
      simp
theorem gC_setj {j : List (Nat × Bool)} {c : List Nat} (p x : Nat) (b : Bool) (h : p < j.length) : (gC j c).take (p * 2) ++ V.int .u64 (x : Int) :: V.bool b :: (gC j c).drop (p * 2 + 2) = gC (j.set p (x, b)) c := by
  unfold gC
  have hl := jC_len j
  rw [List.take_append_of_le_length (by omega), List.drop_append_of_le_length (by omega), ← jC_set j p x b h]
  simp

structure Ins where
  (op a b c imm : Int) (d e : Bool) (f g : Int)
structure Wt where
  (i : Ins) (pc nx : Nat)
def uo (n : Int) : Nat := (n % 18446744073709551616).toNat
theorem uo_lt (n : Int) : uo n < 18446744073709551616 := by unfold uo; omega
theorem wrap_uo (n : Int) : IntKind.u64.wrap n = (uo n : Int) := by
  have : IntKind.u64.wrap n = n % 18446744073709551616 := by simp only [IntKind.wrap, IntKind.bits, IntKind.signed]; simp
  rw [this]
  unfold uo
  omega
def tgt (i : Ins) (pc : Nat) : Nat := (pc + uo i.imm) % 18446744073709551616
def ctrS (p acc : Nat) (w : Wt) : Nat := if pla w.pc ≠ p ∨ sortO w.i.op ≠ 3 ∨ w.i.imm = 4 then acc else if w.nx = tgt w.i w.pc then min (acc + 1) 3 else acc - 1
def ctr (l : List Wt) (p : Nat) : Nat := l.foldl (ctrS p) 1
def jmpS (p : Nat) (acc : Nat × Bool) (w : Wt) : Nat × Bool := if w.i.op = 4 ∧ pla w.pc = p then (w.nx, true) else acc
def jmp (l : List Wt) (p : Nat) : Nat × Bool := l.foldl (jmpS p) (0, false)
def nxt (l : List Wt) (i : Ins) (pc : Nat) : Nat := if i.op = 3 ∨ (sortO i.op = 3 ∧ 1 < ctr l (pla pc)) then tgt i pc else if i.op = 4 ∧ (jmp l (pla pc)).2 = true then (jmp l (pla pc)).1 else (pc + 4) % 18446744073709551616
theorem ctrS_le (p acc : Nat) (w : Wt) (h : acc ≤ 3) : ctrS p acc w ≤ 3 := by
  unfold ctrS
  split
  · exact h
  · split <;> omega
theorem ctr_le (l : List Wt) (p : Nat) : ctr l p ≤ 3 := by
  unfold ctr
  have : ∀ (l : List Wt) (a : Nat), a ≤ 3 → l.foldl (ctrS p) a ≤ 3 := by
    intro l
    induction l with
    | nil => intro a h; exact h
    | cons w l ih => intro a h; exact ih _ (ctrS_le p a w h)
  exact this l 1 (by omega)
theorem jmp_app (l : List Wt) (w : Wt) (p : Nat) : jmp (l ++ [w]) p = jmpS p (jmp l p) w := by unfold jmp; rw [List.foldl_append]; rfl
theorem ctr_app (l : List Wt) (w : Wt) (p : Nat) : ctr (l ++ [w]) p = ctrS p (ctr l p) w := by unfold ctr; rw [List.foldl_append]; rfl
def jL (l : List Wt) : List (Nat × Bool) := (List.range 16).map (jmp l)
def cL (l : List Wt) : List Nat := (List.range 16).map (ctr l)
theorem jL_len (l : List Wt) : (jL l).length = 16 := by simp [jL]
theorem cL_len (l : List Wt) : (cL l).length = 16 := by simp [cL]
theorem jL_el (l : List Wt) (p : Nat) (h : p < (jL l).length) : (jL l)[p] = jmp l p := by simp [jL]
theorem cL_el (l : List Wt) (p : Nat) (h : p < (cL l).length) : (cL l)[p] = ctr l p := by simp [cL]
def gS (l : List Wt) : List V := gC (jL l) (cL l)
theorem gS_len (l : List Wt) : (gS l).length = 48 := gC_len (jL_len l) (cL_len l)
theorem gS_ctr (l : List Wt) (a : Nat) : (gS l)[32 + pla a]? = some (.int .i64 (ctr l (pla a) : Int)) := by
  have := pla_lt a
  unfold gS
  rw [gC_ctr (jL_len l) _ (by rw [cL_len]; omega), cL_el]
theorem gS_jump (l : List Wt) (a : Nat) : ((gS l).drop (pla a * 2)).take 2 = [V.int .u64 ((jmp l (pla a)).1 : Int), V.bool (jmp l (pla a)).2] := by
  have := pla_lt a
  unfold gS
  rw [gC_jump _ (by rw [jL_len]; omega), jL_el]
theorem omap_gS (f : V → Option V) (h1 : ∀ n : Nat, f (.int .u64 (n : Int)) = some (.int .u64 (n : Int))) (h2 : ∀ b, f (.bool b) = some (.bool b)) (h3 : ∀ n : Nat, f (.int .i64 (n : Int)) = some (.int .i64 (n : Int))) (l : List Wt) : omap f (gS l) = some (gS l) := by
  have key : ∀ vs : List V, (∀ v ∈ vs, f v = some v) → omap f vs = some vs := by
    intro vs
    induction vs with
    | nil => intro _; rfl
    | cons v vs ih =>
      intro h
      simp [omap, h v (by simp), ih fun x hx => h x (by simp [hx])]
  apply key
  intro v hv
  unfold gS gC at hv
  rw [List.mem_append] at hv
  rcases hv with hv | hv
  · unfold jC at hv
    rw [List.mem_flatMap] at hv
    obtain ⟨q, _, hq⟩ := hv
    simp at hq
    rcases hq with rfl | rfl
    · exact h1 _
    · exact h2 _
  · unfold cC at hv
    rw [List.mem_map] at hv
    obtain ⟨q, _, rfl⟩ := hv
    exact h3 _
theorem gS_j (l : List Wt) (w : Wt) (h : w.i.op = 4) : (gS l).take (pla w.pc * 2) ++ V.int .u64 (w.nx : Int) :: V.bool true :: (gS l).drop (pla w.pc * 2 + 2) = gS (l ++ [w]) := by
  have hp := pla_lt w.pc
  unfold gS
  rw [gC_setj _ _ _ (by rw [jL_len]; omega)]
  have e1 : cL l = cL (l ++ [w]) := by
    unfold cL
    apply List.map_congr_left
    intro p _
    rw [ctr_app]
    have : sortO 4 ≠ 3 := by decide
    unfold ctrS
    rw [h, if_pos (Or.inr (Or.inl this))]
  rw [← e1]
  congr 1
  apply List.ext_getElem
  · simp [jL_len]
  · intro p h1 h2
    rw [jL_el, List.getElem_set]
    rw [jmp_app]
    by_cases c : pla w.pc = p
    · rw [if_pos c]
      unfold jmpS
      rw [if_pos ⟨h, c⟩]
    · rw [if_neg c, jL_el]
      unfold jmpS
      rw [if_neg (fun hh => c hh.2)]
theorem gS_c (l : List Wt) (w : Wt) (n : Nat) (h : w.i.op ≠ 4) (hn : n = ctrS (pla w.pc) (ctr l (pla w.pc)) w) : (gS l).take (32 + pla w.pc) ++ V.int .i64 (n : Int) :: (gS l).drop (32 + pla w.pc + 1) = gS (l ++ [w]) := by
  have hp := pla_lt w.pc
  unfold gS
  rw [gC_setc (jL_len l) _ _ (by rw [cL_len]; omega)]
  have e1 : jL l = jL (l ++ [w]) := by
    unfold jL
    apply List.map_congr_left
    intro p _
    rw [jmp_app]
    unfold jmpS
    rw [if_neg (fun hh => h hh.1)]
  rw [← e1]
  congr 1
  apply List.ext_getElem
  · simp [cL_len]
  · intro p h1 h2
    rw [cL_el, List.getElem_set]
    rw [ctr_app]
    by_cases c : pla w.pc = p
    · rw [if_pos c, hn]
      subst c
      rfl
    · rw [if_neg c, cL_el]
      unfold ctrS
      rw [if_pos (Or.inl c)]
theorem gS_n (l : List Wt) (w : Wt) (h : w.i.op ≠ 4) (hn : sortO w.i.op ≠ 3 ∨ w.i.imm = 4) : gS l = gS (l ++ [w]) := by
  unfold gS jL cL
  congr 1
  · apply List.map_congr_left
    intro p _
    rw [jmp_app]
    unfold jmpS
    rw [if_neg (fun hh => h hh.1)]
  · apply List.map_congr_left
    intro p _
    rw [ctr_app]
    unfold ctrS
    rw [if_pos (Or.inr hn)]
end Go.Proofs.Ytjfcjoiglkfaaaa
