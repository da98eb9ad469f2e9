/- Layer 20: one turned number, tag, or bit (no claim; plain lemmas). -/
import Derived.Test.YtlkcfhpklibnaaaK20p
set_option linter.unusedSimpArgs false
set_option linter.unusedVariables false
namespace Go.Proofs.Ytlkcfhpklibnaaa
open Go Go.Vm

def putR (R : Nat → List Rt) (n i : Nat) (r : Rt) (h : Nat) : List Rt := if h = n then (R n).set i r else R h
theorem set_mid {α : Type} : ∀ {l : List α} {i : Nat} {r : α}, l[i]? = some r → ∀ r', l.set i r' = l.take i ++ r' :: l.drop (i + 1)
  | [], i, r, h, r' => by simp at h
  | a :: l, 0, r, h, r' => by simp
  | a :: l, i + 1, r, h, r' => by
    have := set_mid (l := l) (i := i) (r := r) (by simpa using h) r'
    simp [this]
theorem self_mid {α : Type} {l : List α} {i : Nat} {r : α} (h : l[i]? = some r) : l = l.take i ++ r :: l.drop (i + 1) := by
  rw [← set_mid h r]
  obtain ⟨hi, rfl⟩ := List.getElem?_eq_some_iff.1 h
  rw [List.set_getElem_self]
theorem put_mid {R : Nat → List Rt} {n i : Nat} {r : Rt} (hn : n < 3) (h : (R n)[i]? = some r) : ∃ P Q, allR R = P ++ r :: Q ∧ ∀ r', allR (putR R n i r') = P ++ r' :: Q := by
  obtain ⟨A, B, hs, ht⟩ : ∃ A B, R n = A ++ r :: B ∧ ∀ r', (R n).set i r' = A ++ r' :: B := ⟨_, _, self_mid h, set_mid h⟩
  unfold allR putR
  rcases (show n = 0 ∨ n = 1 ∨ n = 2 by omega) with rfl | rfl | rfl
  · exact ⟨A, B ++ (R 1 ++ R 2), by rw [hs]; simp, fun r' => by simp [ht]⟩
  · exact ⟨R 0 ++ A, B ++ R 2, by rw [hs]; simp, fun r' => by simp [ht]⟩
  · exact ⟨R 0 ++ (R 1 ++ A), B, by rw [hs]; simp, fun r' => by simp [ht]⟩
theorem find_mid {P Q : List Rt} {r : Rt} (hn : ((P ++ r :: Q).map Rt.id).Nodup) (n : Int) : (P ++ r :: Q).find? (fun q => decide (q.id = n)) = if r.id = n then some r else (P ++ Q).find? (fun q => decide (q.id = n)) := by
  by_cases c : r.id = n
  · rw [if_pos c]
    exact (find_iff hn).2 ⟨by simp, c⟩
  · rw [if_neg c, List.find?_append, List.find?_append, List.find?_cons]
    simp [c]
/-! ### all flags -/
theorem chk_zero {R : Nat → List Rt} {img : List Nat} {n : Nat} {co : List (List Int)} (h : chk R img n co = 0) : imgB img n = false ∧ manB R = false ∧ idsB R = false ∧ plcB R img.length = false ∧ tagB R = false ∧ bytB R img = false := by
  unfold chk at h
  cases a1 : imgB img n <;> rw [a1] at h <;> simp only [Bool.false_eq_true, if_false, if_true, reduceCtorEq, Nat.succ_ne_zero] at h
  all_goals (try (simp at h; done))
  cases a2 : manB R <;> rw [a2] at h <;> simp only [Bool.false_eq_true, if_false, if_true] at h
  all_goals (try (simp at h; done))
  cases a3 : idsB R <;> rw [a3] at h <;> simp only [Bool.false_eq_true, if_false, if_true] at h
  all_goals (try (simp at h; done))
  cases a4 : plcB R img.length <;> rw [a4] at h <;> simp only [Bool.false_eq_true, if_false, if_true] at h
  all_goals (try (simp at h; done))
  cases a5 : tagB R <;> rw [a5] at h <;> simp only [Bool.false_eq_true, if_false, if_true] at h
  all_goals (try (simp at h; done))
  cases a6 : bytB R img <;> rw [a6] at h <;> simp only [Bool.false_eq_true, if_false, if_true] at h
  all_goals (try (simp at h; done))
  exact ⟨rfl, rfl, rfl, rfl, rfl, rfl⟩
theorem plcB_r (R : Nat → List Rt) (n : Nat) : plcB R n = ((allR R).filter isE).any fun r => plcP n (e0 r) := by
  unfold plcB
  have e : ∀ E : List Ev, E.any (plcP n) = (E.map Ev.r).any fun r => plcP n (e0 r) := fun E => any_r fun e => rfl
  rw [e, evs_r]
theorem tagB_r {R : Nat → List Rt} (hn : ((allR R).map Rt.id).Nodup) : tagB R = ((allR R).any tagsR || ((allR R).filter isE).any (tgEr ((allR R).filter isE))) := by
  have hn' : (((evs R).map Ev.r).map Rt.id).Nodup := by
    rw [evs_r]
    exact hn.sublist ((List.filter_sublist).map _)
  unfold tagB
  rw [any_r (tgE_r hn'), evs_r]
  rfl
theorem bytB_r {R : Nat → List Rt} (hn : ((allR R).map Rt.id).Nodup) (img : List Nat) : bytB R img = ((allR R).filter isE).any (bytEr img ((allR R).filter isE)) := by
  have hn' : (((evs R).map Ev.r).map Rt.id).Nodup := by
    rw [evs_r]
    exact hn.sublist ((List.filter_sublist).map _)
  unfold bytB
  rw [any_r (bytE_r hn'), evs_r]
section
variable {R : Nat → List Rt} {n i : Nat} {r : Rt} (hn : n < 3) (hi : (R n)[i]? = some r) {img : List Nat} {m : Nat} {co : List (List Int)} (h0 : chk R img m co = 0)
include hn hi h0
omit h0 in
theorem man_put (r' : Rt) : manB (putR R n i r') = manB R := by
  obtain ⟨P, Q, h1, h2⟩ := put_mid hn hi
  have e1 := congrArg List.length h1
  have e2 := congrArg List.length (h2 r')
  unfold allR at e1 e2
  simp only [List.length_append, List.length_cons] at e1 e2
  unfold manB
  rw [Nat.add_assoc, Nat.add_assoc, e1, e2]
/-- A number that none may have. -/
theorem chk_id (r' : Rt) (hr : r'.id = -1) : chk (putR R n i r') img m co = 3 := by
  obtain ⟨a1, a2, a3, a4, a5, a6⟩ := chk_zero h0
  obtain ⟨P, Q, h1, h2⟩ := put_mid hn hi
  have hids : idsB (putR R n i r') = true := by
    cases q : idsB (putR R n i r') with
    | true => rfl
    | false =>
      have := ((idsB_iff _).1 q).1 r' (by rw [h2]; simp)
      omega
  unfold chk
  rw [a1, man_put hn hi, a2, hids]
  rfl
/-- What lasts where neither number, nor operation, nor place, nor what is written, nor whether it came to pass is turned. -/
theorem chk_same (r' : Rt) (hid : r'.id = r.id) (hin : r'.ins = r.ins) (had : r'.addr = r.addr) (hca : r'.cause = r.cause) (hfa : r'.fail = r.fail) (hwr : r'.wro = r.wro) (hE : isE r = true) :
    imgB img m = false ∧ manB (putR R n i r') = false ∧ idsB (putR R n i r') = false ∧ plcB (putR R n i r') img.length = false ∧ ∃ P Q P1 Q1, allR R = P ++ r :: Q ∧ allR (putR R n i r') = P ++ r' :: Q ∧ (allR R).filter isE = P1 ++ r :: Q1 ∧ (allR (putR R n i r')).filter isE = P1 ++ r' :: Q1 ∧
      ((allR R).map Rt.id).Nodup ∧ ((allR (putR R n i r')).map Rt.id).Nodup ∧
      (∀ x a, wrBr (P1 ++ r' :: Q1) x a = wrBr (P1 ++ r :: Q1) x a) ∧ ∀ x a, wrVr (P1 ++ r' :: Q1) x a = wrVr (P1 ++ r :: Q1) x a := by
  obtain ⟨a1, a2, a3, a4, a5, a6⟩ := chk_zero h0
  obtain ⟨P, Q, h1, h2⟩ := put_mid hn hi
  have hE' : isE r' = true := by
    rw [← hE]
    unfold isE
    rw [hin, hca, hfa]
  have hm : (allR (putR R n i r')).map Rt.id = (allR R).map Rt.id := by rw [h1, h2]; simp [hid]
  have hd := (idsB_iff R).1 a3
  have hd2 : ((allR (putR R n i r')).map Rt.id).Nodup := by rw [hm]; exact hd.2
  have f1 : (allR R).filter isE = P.filter isE ++ r :: Q.filter isE := by rw [h1, List.filter_append, List.filter_cons, if_pos hE]
  have f2 : (allR (putR R n i r')).filter isE = P.filter isE ++ r' :: Q.filter isE := by rw [h2, List.filter_append, List.filter_cons, if_pos hE']
  have n1 : ((P.filter isE ++ r :: Q.filter isE).map Rt.id).Nodup := by rw [← f1]; exact hd.2.sublist ((List.filter_sublist).map _)
  have n2 : ((P.filter isE ++ r' :: Q.filter isE).map Rt.id).Nodup := by rw [← f2]; exact hd2.sublist ((List.filter_sublist).map _)
  have hbh : ∀ a, bh (e0 r') a = bh (e0 r) a := fun a => by
    unfold bh hasB adE e0
    simp only [hin, had]
  have hby : ∀ a, bytE (e0 r') a = bytE (e0 r) a := fun a => by
    have := hbh a
    unfold bytE
    rw [this]
    unfold adE e0
    simp only [had, hwr]
  refine ⟨a1, by rw [man_put hn hi]; exact a2, (idsB_iff _).2 ⟨fun q hq => ?_, hd2⟩, ?_, P, Q, _, _, h1, h2 r', f1, f2, hd.2, hd2, fun x a => ?_, fun x a => ?_⟩
  · have : q.id ∈ (allR R).map Rt.id := by rw [← hm]; exact List.mem_map_of_mem hq
    obtain ⟨q', hq', e⟩ := List.mem_map.1 this
    rw [← e]
    exact hd.1 q' hq'
  · rw [plcB_r] at a4 ⊢
    rw [f1] at a4
    rw [f2]
    have : plcP img.length (e0 r') = plcP img.length (e0 r) := by
      unfold plcP e0
      simp only [hin, had]
    simp only [List.any_append, List.any_cons, this] at a4 ⊢
    exact a4
  · unfold wrBr
    rw [find_mid n2, find_mid n1, hid]
    by_cases c : r.id = x
    · rw [if_pos c, if_pos c]
      exact hbh a
    · rw [if_neg c, if_neg c]
  · unfold wrVr
    rw [find_mid n2, find_mid n1, hid]
    by_cases c : r.id = x
    · rw [if_pos c, if_pos c]
      exact hby a
    · rw [if_neg c, if_neg c]
/-- A tag to what is no store. -/
theorem chk_tag (hE : isE r = true) (hl : lod r.ins.op = true) (k : Nat) (hk : k < szO r.ins.op) (x : Int) (hx : x ≠ -1) (hw : ∀ a, wrBr ((allR R).filter isE) x a = false) (r' : Rt) (hr : r' = { r with tg := fun j => if j = k then x else r.tg j }) :
    chk (putR R n i r') img m co = 5 := by
  obtain ⟨a1, a2, a3, a4, P, Q, P1, Q1, h1, h2, f1, f2, d1, d2, b1, b2⟩ := chk_same hn hi h0 r' (by rw [hr]) (by rw [hr]) (by rw [hr]) (by rw [hr]) (by rw [hr]) (by rw [hr]) hE
  have htag : tagB (putR R n i r') = true := by
    rw [tagB_r d2, f2, Bool.or_eq_true]
    right
    rw [List.any_eq_true]
    refine ⟨r', by simp, ?_⟩
    unfold tgEr
    rw [List.any_eq_true]
    refine ⟨k, by rw [List.mem_range']; exact ⟨k, by rw [hr]; omega, by omega⟩, ?_⟩
    have ht : r'.tg k = x := by rw [hr]; simp
    have hl' : lod r'.ins.op = true := by rw [hr]; exact hl
    have := hw (adE r' + k)
    rw [f1] at this
    rw [ht, b1, this, hl', decide_eq_true hx]
    rfl
  unfold chk
  rw [a1, a2, a3, a4, htag]
  rfl
/-- A bit of what was read. -/
theorem chk_bit (hE : isE r = true) (hl : lod r.ins.op = true) (k : Nat) (hk : k < szO r.ins.op) (x : Int) (hx : x.toNat / 256 ^ k % 256 ≠ r.rdd.toNat / 256 ^ k % 256) (r' : Rt) (hr : r' = { r with rdd := x }) :
    chk (putR R n i r') img m co = 6 := by
  obtain ⟨_, _, _, _, o5, o6⟩ := chk_zero h0
  obtain ⟨a1, a2, a3, a4, P, Q, P1, Q1, h1, h2, f1, f2, d1, d2, b1, b2⟩ := chk_same hn hi h0 r' (by rw [hr]) (by rw [hr]) (by rw [hr]) (by rw [hr]) (by rw [hr]) (by rw [hr]) hE
  have htag : tagB (putR R n i r') = false := by
    rw [tagB_r d1] at o5
    rw [tagB_r d2, ← o5, h1, h2, ← h1, f1, ← h2, f2]
    have e1 : tagsR r' = tagsR r := by rw [hr]; rfl
    have e2 : tgEr (P1 ++ r' :: Q1) = tgEr (P1 ++ r :: Q1) := by
      funext q
      unfold tgEr
      simp only [b1]
    have e3 : tgEr (P1 ++ r :: Q1) r' = tgEr (P1 ++ r :: Q1) r := by rw [hr]; rfl
    rw [e2]
    simp only [h1, h2, List.any_append, List.any_cons, e1, e3]
  have hbyt : bytB (putR R n i r') img = true := by
    rw [bytB_r d1, f1] at o6
    rw [List.any_eq_false] at o6
    have o7 := o6 r (by simp)
    rw [bytB_r d2, f2, List.any_eq_true]
    refine ⟨r', by simp, ?_⟩
    have o8 : bytEr img (P1 ++ r :: Q1) r = false := by simpa using o7
    unfold bytEr at o8 ⊢
    rw [hl, Bool.true_and, Bool.or_eq_false_iff] at o8
    have hl' : lod r'.ins.op = true := by rw [hr]; exact hl
    have hsz : r'.ins = r.ins := by rw [hr]
    rw [hl', Bool.true_and, Bool.or_eq_true]
    right
    rw [List.any_eq_true]
    refine ⟨k, by rw [List.mem_range', hsz]; exact ⟨k, by omega, by omega⟩, ?_⟩
    have o9 := o8.2
    rw [List.any_eq_false] at o9
    have o10 := o9 k (by rw [List.mem_range']; exact ⟨k, by omega, by omega⟩)
    simp only [decide_eq_true_eq, ne_eq, Decidable.not_not] at o10
    have hwt : wantr img (P1 ++ r' :: Q1) r' k = wantr img (P1 ++ r :: Q1) r k := by
      unfold wantr
      rw [b2]
      rw [hr]
      rfl
    have hb1 : ∀ y, (byl y (szO r.ins.op)).getD k 0 = y / 256 ^ k % 256 := fun y => by
      rw [List.getD_eq_getElem?_getD, List.getElem?_eq_getElem (by rw [byl_len]; exact hk)]
      simp [byl]
    rw [decide_eq_true_eq, hwt, ← o10, hsz, hb1, hb1]
    have : r'.rdd = x := by rw [hr]
    rw [this]
    exact hx
  unfold chk
  rw [a1, a2, a3, a4, htag, hbyt]
  rfl
end
end Go.Proofs.Ytlkcfhpklibnaaa
