/- Layer 20: maps of numbers as rows (no claim; lemmas). -/
import Derived.Test.YtlkcfhpklibnaaaK20c
set_option linter.unusedSimpArgs false
set_option linter.unusedVariables false
namespace Go.Proofs.Ytlkcfhpklibnaaa
open Go Go.Vm

def kvR (l : List (Int × V)) : List (List V) := l.map fun q => [.int .i64 q.1, q.2]
def kix : List (Int × V) → Int → Option Nat
  | [], _ => none
  | q :: l, n => if q.1 = n then some 0 else (kix l n).map (· + 1)
def kget : List (Int × V) → Int → Option V
  | [], _ => none
  | q :: l, n => if q.1 = n then some q.2 else kget l n
def kput : List (Int × V) → Int → V → List (Int × V)
  | [], n, v => [(n, v)]
  | q :: l, n, v => if q.1 = n then (n, v) :: l else q :: kput l n v
def kdel : List (Int × V) → Int → List (Int × V)
  | [], _ => []
  | q :: l, n => if q.1 = n then l else q :: kdel l n
theorem keyAt_kv (n : Int) : ∀ (l : List (Int × V)) (i : Nat), keyAt (.int .i64 n) (kvR l) i = some ((kix l n).map (· + i))
  | [], i => rfl
  | q :: l, i => by
    have ih := keyAt_kv n l (i + 1)
    show (match keyEq (.int .i64 n) (.int .i64 q.1) with
      | some true => some (some i)
      | some false => keyAt (.int .i64 n) (kvR l) (i + 1)
      | none => none) = _
    unfold kix
    by_cases c : q.1 = n
    · have e : keyEq (.int .i64 n) (.int .i64 q.1) = some true := by simp [keyEq, c]
      rw [e, if_pos c]
      simp
    · have e : keyEq (.int .i64 n) (.int .i64 q.1) = some false := by simp [keyEq]; exact fun h => c h.symm
      rw [e, if_neg c]
      simp only
      rw [ih]
      cases kix l n with
      | none => rfl
      | some j => simp; omega
theorem keyAt0 (n : Int) (l : List (Int × V)) : keyAt (.int .i64 n) (kvR l) 0 = some (kix l n) := by
  rw [keyAt_kv]
  cases kix l n <;> rfl
theorem kix_none {n : Int} : ∀ {l : List (Int × V)}, kix l n = none → kget l n = none ∧ (∀ v, kput l n v = l ++ [(n, v)]) ∧ kdel l n = l
  | [], _ => ⟨rfl, fun _ => rfl, rfl⟩
  | q :: l, h => by
    unfold kix at h
    by_cases c : q.1 = n
    · rw [if_pos c] at h; cases h
    · rw [if_neg c] at h
      obtain ⟨h1, h2, h3⟩ := kix_none (l := l) (by cases q' : kix l n with | none => rfl | some j => rw [q'] at h; cases h)
      exact ⟨by unfold kget; rw [if_neg c, h1], fun v => by unfold kput; rw [if_neg c, h2]; rfl, by unfold kdel; rw [if_neg c, h3]⟩
theorem kix_some {n : Int} : ∀ {l : List (Int × V)} {i : Nat}, kix l n = some i → (∃ v, l[i]? = some (n, v) ∧ kget l n = some v) ∧ (∀ v, kput l n v = l.set i (n, v)) ∧ kdel l n = l.eraseIdx i
  | [], i, h => by cases h
  | q :: l, i, h => by
    unfold kix at h
    by_cases c : q.1 = n
    · rw [if_pos c] at h
      cases h
      refine ⟨⟨q.2, by rw [← c]; rfl, by unfold kget; rw [if_pos c]⟩, fun v => by unfold kput; rw [if_pos c]; rfl, by unfold kdel; rw [if_pos c]; rfl⟩
    · rw [if_neg c] at h
      obtain ⟨j, hj, rfl⟩ := Option.map_eq_some_iff.1 h
      obtain ⟨⟨v, h1, h2⟩, h3, h4⟩ := kix_some hj
      refine ⟨⟨v, by simpa using h1, by unfold kget; rw [if_neg c, h2]⟩, fun v => by unfold kput; rw [if_neg c, h3]; rfl, by unfold kdel; rw [if_neg c, h4]; rfl⟩
theorem kvR_el {l : List (Int × V)} {i : Nat} {n : Int} {v : V} (h : l[i]? = some (n, v)) : (kvR l)[i]? = some [.int .i64 n, v] := by
  unfold kvR
  rw [List.getElem?_map, h]; rfl
theorem kvR_set (l : List (Int × V)) (i : Nat) (n : Int) (v : V) : (kvR l).set i [.int .i64 n, v] = kvR (l.set i (n, v)) := by simp [kvR, List.map_set]
theorem kvR_app (l : List (Int × V)) (n : Int) (v : V) : kvR l ++ [[.int .i64 n, v]] = kvR (l ++ [(n, v)]) := by simp [kvR]
theorem kvR_erase (l : List (Int × V)) (i : Nat) : (kvR l).eraseIdx i = kvR (l.eraseIdx i) := by
  induction l generalizing i with
  | nil => rfl
  | cons q l ih =>
    cases i with
    | zero => rfl
    | succ i =>
      have := ih i
      simp only [kvR, List.map_cons, List.eraseIdx_cons_succ] at this ⊢
      rw [this]
theorem kvR_len (l : List (Int × V)) : (kvR l).length = l.length := by simp [kvR]
/-! ### what the operations come to -/
def lookM (m : Mem) (ok ag : Bool) (z : List V) (mp k : V) : Option (V × Mem) := match mapEs m mp with
  | none => none
  | some es => if k.isInt = true then val m (lookV ok ag z es k) else none
def mputM (m : Mem) (mp k v : V) : Option (V × Mem) := match mp with
  | .map id => match m.H[id]? with
    | some (.mp es) => if k.isInt = true ∧ v.isScV = true then match keyAt k es 0 with
      | some (some i) => some (.undef, { m with H := m.H.set id (.mp (es.set i [k, v])) })
      | some none => some (.undef, { m with H := m.H.set id (.mp (es ++ [[k, v]])) })
      | none => none
      else none
    | _ => none
  | _ => none
def mdelM (m : Mem) (mp k : V) : Option (V × Mem) := match mp with
  | .map id => match m.H[id]? with
    | some (.mp es) => if k.isInt = true then match keyAt k es 0 with
      | some (some i) => some (.tup [], { m with H := m.H.set id (.mp (es.eraseIdx i)) })
      | some none => some (.tup [], m)
      | none => none
      else none
    | _ => none
  | _ => none
section
variable (call : CallT) (ρ : X → V) (m : Mem)
theorem e_look (ok ag : Bool) (z : List V) (mp k : X) : evO call ρ m (.look ok ag z mp k) = lookM m ok ag z (ρ mp) (ρ k) := rfl
theorem e_mput (mp k v : X) : evO call ρ m (.mput mp k v) = mputM m (ρ mp) (ρ k) (ρ v) := rfl
theorem e_mdel (mp k : X) : evO call ρ m (.mdel mp k) = mdelM m (ρ mp) (ρ k) := rfl
end
attribute [go_sem ↓] e_look e_mput e_mdel
section
variable {H : List Vm.Obj} {id : Nat} {l : List (Int × V)} (h : H[id]? = some (.mp (kvR l))) (vs : List (List V)) (tk : List Nat)
include h
theorem look_kv (ok : Bool) (z : V) (n : Int) : lookM ⟨vs, tk, H⟩ ok false [z] (.map id) (.int .i64 n) = some (if ok then .tup [(kget l n).getD z, .bool (kget l n).isSome] else (kget l n).getD z, ⟨vs, tk, H⟩) := by
  unfold lookM
  simp only [mapEs, h, V.isInt, if_true, lookV, keyAt0]
  cases q : kix l n with
  | none =>
    rw [(kix_none q).1]
    cases ok <;> simp [loadAt, val]
  | some i =>
    obtain ⟨⟨v, h1, h2⟩, _⟩ := kix_some q
    rw [h2]
    cases ok <;> simp [loadAt, val, kvR_el h1]
theorem mput_kv (n : Int) (v : V) (hv : v.isScV = true) : mputM ⟨vs, tk, H⟩ (.map id) (.int .i64 n) v = some (.undef, ⟨vs, tk, H.set id (.mp (kvR (kput l n v)))⟩) := by
  unfold mputM
  simp only [h, V.isInt, hv, and_self, if_true, keyAt0]
  cases q : kix l n with
  | none => rw [(kix_none q).2.1]; simp only [kvR_app]
  | some i => rw [(kix_some q).2.1]; simp only [kvR_set]
theorem mdel_kv (n : Int) : mdelM ⟨vs, tk, H⟩ (.map id) (.int .i64 n) = some (.tup [], ⟨vs, tk, H.set id (.mp (kvR (kdel l n)))⟩) := by
  unfold mdelM
  simp only [h, V.isInt, if_true, keyAt0]
  cases q : kix l n with
  | none =>
    rw [(kix_none q).2.2]
    have : H.set id (.mp (kvR l)) = H := by
      apply List.ext_getElem?
      intro i'
      rw [List.getElem?_set]
      by_cases e : id = i'
      · subst e
        have hlt := (List.getElem?_eq_some_iff.1 h).1
        rw [if_pos rfl, if_pos hlt, h]
      · rw [if_neg e]
    rw [this]
  | some i => rw [(kix_some q).2.2]; simp only [kvR_erase]
end
theorem kget_put (l : List (Int × V)) (n m : Int) (v : V) : kget (kput l n v) m = if m = n then some v else kget l m := by
  induction l with
  | nil =>
    show (if n = m then some v else none) = if m = n then some v else none
    by_cases c : n = m
    · rw [if_pos c, if_pos c.symm]
    · rw [if_neg c, if_neg (Ne.symm c)]
  | cons q l ih =>
    unfold kput
    by_cases c : q.1 = n
    · rw [if_pos c]
      unfold kget
      by_cases d : n = m
      · rw [if_pos d, if_pos d.symm]
      · rw [if_neg d, if_neg (Ne.symm d), if_neg (by rw [c]; exact d)]
    · rw [if_neg c]
      unfold kget
      by_cases d : q.1 = m
      · rw [if_pos d, if_pos d, if_neg (by rw [← d]; exact c)]
      · rw [if_neg d, if_neg d, ih]
/-! ### sets of numbers -/
def tl (s : List Int) : List (Int × V) := s.map fun n => (n, .bool true)
theorem tl_len (s : List Int) : (tl s).length = s.length := by simp [tl]
theorem kget_tl (s : List Int) (n : Int) : (kget (tl s) n).getD (.bool false) = .bool (decide (n ∈ s)) := by
  induction s with
  | nil => rfl
  | cons q s ih =>
    show (if q = n then some (V.bool true) else kget (tl s) n).getD (.bool false) = _
    by_cases c : q = n
    · rw [if_pos c]; subst c; simp
    · rw [if_neg c, ih]
      simp [Ne.symm c]
theorem kput_tl (s : List Int) (n : Int) : kput (tl s) n (.bool true) = tl (if n ∈ s then s else s ++ [n]) := by
  induction s with
  | nil => rfl
  | cons q s ih =>
    show (if q = n then (n, V.bool true) :: tl s else (q, V.bool true) :: kput (tl s) n (.bool true)) = _
    by_cases c : q = n
    · rw [if_pos c]; subst c; simp [tl]
    · rw [if_neg c, ih]
      by_cases d : n ∈ s
      · rw [if_pos d, if_pos (List.mem_cons_of_mem _ d)]; rfl
      · rw [if_neg d, if_neg (by simp [d, Ne.symm c])]; rfl
theorem kdel_tl (s : List Int) (n : Int) : kdel (tl s) n = tl (s.erase n) := by
  induction s with
  | nil => rfl
  | cons q s ih =>
    show (if q = n then tl s else (q, V.bool true) :: kdel (tl s) n) = _
    by_cases c : q = n
    · rw [if_pos c]; subst c; simp [tl]
    · rw [if_neg c, ih, List.erase_cons_tail (by simpa using c)]; rfl
end Go.Proofs.Ytlkcfhpklibnaaa
