/- Layer 20: the program's check and the document's are the same (no claim; plain lemmas). -/
import Derived.Test.YtlkcfhpklibnaaaK20zb
set_option linter.unusedSimpArgs false
set_option linter.unusedVariables false
namespace Go.Proofs.Ytlkcfhpklibnaaa
open Go Go.Vm

/-! ### numbers -/
theorem ids_same (R : Nat → List Rt) : (List.range' 0 (allR R).length).any (idsI (allR R)) = idsB R := by
  have h := idsB_iff R
  generalize allR R = A at *
  have key : (List.range' 0 A.length).any (idsI A) = false ↔ (∀ r ∈ A, 0 ≤ r.id) ∧ (A.map Rt.id).Nodup := by
    rw [List.any_eq_false]
    constructor
    · intro q
      have q2 : ∀ i (hi : i < A.length), 0 ≤ (A[i]).id ∧ ∀ k, k < i → (A[k]?).map Rt.id ≠ some (A[i]).id := by
        intro i hi
        have q3 := q i (by rw [List.mem_range']; exact ⟨i, hi, by omega⟩)
        unfold idsI at q3
        rw [List.getElem?_eq_getElem hi] at q3
        simp only [Bool.or_eq_true, not_or, Bool.not_eq_true, List.any_eq_false, decide_eq_true_eq, decide_eq_false_iff_not] at q3
        refine ⟨by have := q3.2; omega, fun k hk => q3.1 k (by rw [List.mem_range']; exact ⟨k, hk, by omega⟩)⟩
      refine ⟨fun r hr => ?_, ?_⟩
      · obtain ⟨i, hi, rfl⟩ := List.getElem_of_mem hr
        exact (q2 i hi).1
      · unfold List.Nodup
        rw [List.pairwise_iff_getElem]
        intro i j hi hj hij he
        rw [List.length_map] at hi hj
        have := (q2 j hj).2 i hij
        rw [List.getElem?_eq_getElem hi, Option.map_some] at this
        rw [List.getElem_map, List.getElem_map] at he
        exact this (by rw [he])
    · rintro ⟨h1, h2⟩ i hi
      rw [List.mem_range'] at hi
      obtain ⟨i', hi', rfl⟩ := hi
      have hlt : 0 + 1 * i' < A.length := by omega
      generalize 0 + 1 * i' = i at *
      unfold idsI
      rw [List.getElem?_eq_getElem hlt]
      simp only [Bool.or_eq_true, not_or, Bool.not_eq_true, List.any_eq_false, decide_eq_true_eq, decide_eq_false_iff_not]
      refine ⟨fun k hk he => ?_, by have := h1 _ (List.getElem_mem hlt); omega⟩
      rw [List.mem_range'] at hk
      obtain ⟨k', hk', rfl⟩ := hk
      unfold List.Nodup at h2
      rw [List.pairwise_iff_getElem] at h2
      have hkA : 0 + 1 * k' < A.length := by omega
      have := h2 (0 + 1 * k') i (by rw [List.length_map]; exact hkA) (by rw [List.length_map]; exact hlt) (by omega)
      rw [List.getElem_map, List.getElem_map] at this
      rw [List.getElem?_eq_getElem hkA, Option.map_some] at he
      exact this (Option.some.inj he)
  cases a : (List.range' 0 A.length).any (idsI A) <;> cases b : idsB R <;> simp_all
/-! ### tags -/
theorem tags_same (r : Rt) : tagsD r = tagsR r := by
  have h8 := ldE_le r
  rw [Bool.eq_iff_iff]
  unfold tagsD tagsR tgW
  rw [List.any_eq_true, List.any_eq_true]
  have hk : ∀ j, tgK r j = (!decide (j < ldE r) && decide (r.tg j ≠ -1)) := by
    intro j
    unfold tgK ldE
    cases isE r <;> cases lod r.ins.op <;> simp
  constructor
  · rintro ⟨j, hj, h⟩
    rw [List.mem_range'] at hj
    obtain ⟨j', hj', rfl⟩ := hj
    rw [hk] at h
    simp only [Bool.and_eq_true, Bool.not_eq_true', decide_eq_false_iff_not, decide_eq_true_eq] at h
    refine ⟨0 + 1 * j' - ldE r, by rw [List.mem_range']; exact ⟨0 + 1 * j' - ldE r, by omega, by omega⟩, ?_⟩
    rw [decide_eq_true_eq, show ldE r + (0 + 1 * j' - ldE r) = 0 + 1 * j' by omega]
    exact h.2
  · rintro ⟨k, hk2, h⟩
    rw [List.mem_range'] at hk2
    obtain ⟨k', hk', rfl⟩ := hk2
    rw [decide_eq_true_eq] at h
    refine ⟨ldE r + (0 + 1 * k'), by rw [List.mem_range']; exact ⟨ldE r + (0 + 1 * k'), by omega, by omega⟩, ?_⟩
    rw [hk, decide_eq_true h, decide_eq_false (by omega)]
    rfl
theorem fid_find {E : List Ev} (hn : ((E.map Ev.r).map Rt.id).Nodup) (n : Int) :
    (fid E n = none ∧ (E.map Ev.r).find? (fun r => decide (r.id = n)) = none) ∨
    ∃ i e, fid E n = some i ∧ E[i]? = some e ∧ (E.map Ev.r).find? (fun r => decide (r.id = n)) = some e.r := by
  cases q : fid E n with
  | none => exact .inl ⟨rfl, fid_none q⟩
  | some i =>
    right
    obtain ⟨hi, hid⟩ := fid_some q
    exact ⟨i, E[i], rfl, List.getElem?_eq_getElem hi, (find_iff hn).2 ⟨List.mem_map_of_mem (List.getElem_mem hi), hid⟩⟩
theorem fdB_r {E : List Ev} (hn : ((E.map Ev.r).map Rt.id).Nodup) (n at_ : Int) : fdB E n at_ = wrB E n at_ := by
  rw [wrB_r hn]
  unfold fdB wrBr
  rcases fid_find hn n with ⟨h1, h2⟩ | ⟨i, e, h1, h2, h3⟩
  · rw [h1, h2]
  · rw [h1, h3]
    simp only [h2]
    rfl
theorem fdV_r {E : List Ev} (hn : ((E.map Ev.r).map Rt.id).Nodup) (n at_ : Int) : fdV E n at_ = wrVl E n at_ := by
  rw [wrV_r hn]
  unfold fdV wrVr
  rcases fid_find hn n with ⟨h1, h2⟩ | ⟨i, e, h1, h2, h3⟩
  · rw [h1, h2]
  · rw [h1, h3]
    simp only [h2]
    rfl
theorem tagF_r {E : List Ev} (hn : ((E.map Ev.r).map Rt.id).Nodup) (e : Ev) : tagF E e = tgE E e := by
  unfold tagF tgE
  have h : ∀ k, tgB E e k = (lod e.r.ins.op && tgF E e k) := fun k => by
    unfold tgB tgF
    rw [fdB_r hn]
  rw [show tgB E e = fun k => (lod e.r.ins.op && tgF E e k) from funext h]
  cases lod e.r.ins.op with
  | true => simp
  | false => simp
/-! ### bytes -/
theorem zx_bytes {x s : Nat} (hx : x < 2 ^ 64) (hs : s ≤ 8) : x % 2 ^ (8 * s) = x ↔ ∀ j, s ≤ j → j < 8 → x / 2 ^ (8 * j) % 256 = 0 := by
  constructor
  · intro h j h1 h2
    have hp : 2 ^ (8 * s) ≤ 2 ^ (8 * j) := Nat.pow_le_pow_right (by omega) (by omega)
    have hlt : x < 2 ^ (8 * s) := by rw [← h]; exact Nat.mod_lt _ (Nat.two_pow_pos _)
    have : x / 2 ^ (8 * j) = 0 := Nat.div_eq_of_lt (by omega)
    rw [this]
  · intro h
    have step : ∀ d, d ≤ 8 - s → x < 2 ^ (8 * (8 - d)) := by
      intro d
      induction d with
      | zero => intro _; exact hx
      | succ d ih =>
        intro hd
        have i1 := ih (by omega)
        have i2 := h (8 - (d + 1)) (by omega) (by omega)
        have e : 8 * (8 - d) = 8 * (8 - (d + 1)) + 8 := by omega
        rw [e, Nat.pow_add] at i1
        have hp := Nat.two_pow_pos (8 * (8 - (d + 1)))
        generalize 2 ^ (8 * (8 - (d + 1))) = y at *
        have : x / y < 256 := (Nat.div_lt_iff_lt_mul hp).2 (by rw [Nat.mul_comm]; exact i1)
        rw [Nat.mod_eq_of_lt this] at i2
        rcases Nat.div_eq_zero_iff.1 i2 with q | q
        · omega
        · exact q
    have := step (8 - s) (Nat.le_refl _)
    rw [show 8 - (8 - s) = s by omega] at this
    exact Nat.mod_eq_of_lt this
theorem bytD_r {E : List Ev} (hn : ((E.map Ev.r).map Rt.id).Nodup) {img : List Nat} {e : Ev} (hb : Bd e.r) : bytD img E e = bytE' img E e := by
  have h8 := szO_le e.r.ins.op
  have hx : e.r.rdd.toNat < 2 ^ 64 := by
    have h1 := hb.rd
    have h2 : (2 : Nat) ^ 64 = 18446744073709551616 := by decide
    rw [h2]
    omega
  unfold bytD bytE'
  cases lod e.r.ins.op with
  | false => rfl
  | true =>
    rw [Bool.true_and, Bool.true_and]
    have hz := zx_bytes hx h8
    have hzx : zx e.r.rdd.toNat ((8 * szO e.r.ins.op : Nat) : Int) = e.r.rdd.toNat % 2 ^ (8 * szO e.r.ins.op) := by
      unfold zx
      rw [Int.toNat_natCast]
    rw [hzx]
    have hby : ∀ k, k < szO e.r.ins.op → (byl e.r.rdd.toNat (szO e.r.ins.op)).getD k 0 = e.r.rdd.toNat / 2 ^ (8 * k) % 256 := fun k hk => by
      rw [List.getD_eq_getElem?_getD, List.getElem?_eq_getElem (by rw [byl_len]; exact hk)]
      have h256 : (256 : Nat) ^ k = 2 ^ (8 * k) := by rw [Nat.pow_mul]
      simp [byl, h256]
    have hw : ∀ k, k < szO e.r.ins.op → wantD img E e k = wantB img E e k := fun k hk => by
      unfold wantD wantB
      rw [if_pos hk, fdV_r hn]
    have hw0 : ∀ k, ¬ k < szO e.r.ins.op → wantD img E e k = 0 := fun k hk => by
      unfold wantD
      rw [if_neg hk]
    have hJ : ∀ j, bytJ img E e j = decide (e.r.rdd.toNat / 2 ^ (8 * j) % 256 ≠ wantD img E e j) := fun j => rfl
    have hK : ∀ k, bytK img E e k = decide ((byl e.r.rdd.toNat (szO e.r.ins.op)).getD k 0 ≠ wantB img E e k) := fun k => rfl
    generalize e.r.rdd.toNat = x at *
    rw [Bool.eq_iff_iff, Bool.or_eq_true, List.any_eq_true, List.any_eq_true, decide_eq_true_eq]
    constructor
    · rintro ⟨j, hj, h⟩
      rw [List.mem_range'] at hj
      obtain ⟨j', hj', rfl⟩ := hj
      generalize hjj : 0 + 1 * j' = j at *
      rw [hJ, decide_eq_true_eq] at h
      by_cases c : j < szO e.r.ins.op
      · right
        refine ⟨j, by rw [List.mem_range']; exact ⟨j, by omega, by omega⟩, ?_⟩
        rw [hK, decide_eq_true_eq, hby j c, ← hw j c]
        exact h
      · left
        rw [hw0 j c] at h
        intro q
        exact h (hz.1 q j (by omega) (by omega))
    · rintro (q | ⟨k, hk, h⟩)
      · have : ¬ ∀ j, szO e.r.ins.op ≤ j → j < 8 → x / 2 ^ (8 * j) % 256 = 0 := fun h => q (hz.2 h)
        apply Classical.byContradiction
        intro hno
        refine this fun j h1 h2 => ?_
        apply Classical.byContradiction
        intro h3
        refine hno ⟨j, by rw [List.mem_range']; exact ⟨j, by omega, by omega⟩, ?_⟩
        rw [hJ, decide_eq_true_eq, hw0 j (by omega)]
        exact h3
      · rw [List.mem_range'] at hk
        obtain ⟨k', hk', rfl⟩ := hk
        generalize hjj : 0 + 1 * k' = j at *
        have c : j < szO e.r.ins.op := by omega
        rw [hK, decide_eq_true_eq, hby j c, ← hw j c] at h
        refine ⟨j, by rw [List.mem_range']; exact ⟨j, by omega, by omega⟩, ?_⟩
        rw [hJ, decide_eq_true_eq]
        exact h
/-! ### orders -/
theorem odw_perm' : ∀ (l s : List Int), odw l s = some [] ↔ l.Perm s
  | [], s => by
    unfold odw
    constructor
    · intro h
      rw [Option.some.inj h]
    · intro h
      rw [h.symm.eq_nil]
  | n :: l, s => by
    unfold odw
    rw [List.cons_perm_iff_perm_erase]
    by_cases c : n ∈ s
    · rw [if_pos c, odw_perm' l (s.erase n)]
      exact ⟨fun h => ⟨c, h⟩, fun h => h.2⟩
    · rw [if_neg c]
      constructor
      · intro h; cases h
      · intro h; exact absurd h.1 c
theorem cnt_perm : ∀ (s l : List Int), s.Nodup → (l.Perm s ↔ s.length = l.length ∧ ∀ n ∈ s, cntI n l = 1) := by
  have hc : ∀ n l, cntI n l = l.count n := fun n l => by
    unfold cntI List.count
    congr 1
  intro s
  induction s with
  | nil =>
    intro l _
    constructor
    · intro h
      rw [h.eq_nil]
      exact ⟨rfl, fun n hn => by cases hn⟩
    · rintro ⟨h, _⟩
      cases l with
      | nil => exact .refl _
      | cons a l => simp at h
  | cons m s ih =>
    intro l hn
    have hn2 := List.nodup_cons.1 hn
    constructor
    · intro h
      refine ⟨h.length_eq.symm, fun n hn3 => ?_⟩
      rw [hc, h.count_eq]
      have h3 := List.nodup_iff_count.1 hn n
      have h4 := List.count_pos_iff.2 hn3
      omega
    · rintro ⟨h1, h2⟩
      have hm := h2 m (by simp)
      rw [hc] at hm
      have hml : m ∈ l := List.count_pos_iff.1 (by omega)
      have hp := List.perm_cons_erase hml
      refine hp.trans (List.Perm.cons m ?_)
      refine (ih (l.erase m) hn2.2).2 ⟨?_, fun n hn3 => ?_⟩
      · have := hp.length_eq
        simp only [List.length_cons] at this h1
        omega
      · have hne : n ≠ m := fun e => hn2.1 (e ▸ hn3)
        rw [hc, List.count_erase_of_ne hne, ← hc]
        exact h2 n (by simp [hn3])
theorem lftD_r (a : Int) (E : List Ev) : lftD a E = lftr a (E.map Ev.r) := by
  unfold lftD lftr
  rw [List.filter_map, List.map_map]
  rfl
theorem ordD_r {E : List Ev} (hn : ((E.map Ev.r).map Rt.id).Nodup) (a : Nat) (l : List Int) : ordD E a l = ordK E a l := by
  rw [ordK_r hn]
  unfold ordD ordKr
  rw [← lftD_r]
  have hs : (lftD (a : Int) E).Nodup := by
    rw [lftD_r]
    unfold lftr
    exact hn.sublist ((List.filter_sublist).map _)
  generalize lftD (a : Int) E = s at *
  have h1 := odw_perm' l s
  have h2 := cnt_perm s l hs
  rw [Bool.eq_iff_iff, Bool.or_eq_true, decide_eq_true_eq, List.any_eq_true]
  have h3 : (s.length ≠ l.length ∨ ∃ n, n ∈ s ∧ decide (cntI n l ≠ 1) = true) ↔ ¬ odw l s = some [] := by
    rw [h1, h2]
    constructor
    · rintro (h | ⟨n, hn1, hn2⟩) ⟨h4, h5⟩
      · exact h h4
      · rw [decide_eq_true_eq] at hn2
        exact hn2 (h5 n hn1)
    · intro h
      by_cases c : s.length = l.length
      · right
        apply Classical.byContradiction
        intro hno
        refine h ⟨c, fun n hn1 => ?_⟩
        apply Classical.byContradiction
        intro h4
        exact hno ⟨n, hn1, decide_eq_true h4⟩
      · exact .inl c
  rw [h3]
  cases q : odw l s with
  | none => simp
  | some t => simp
theorem ordG_r {E : List Ev} (hn : ((E.map Ev.r).map Rt.id).Nodup) : ∀ (co : List (List Int)) (a : Nat), ordG E a co = ordF E a co
  | [], _ => rfl
  | l :: co, a => by
    unfold ordG ordF
    rw [ordD_r hn, ordG_r hn co]
/-! ### pairs -/
def lastL (l : List Rt) (i : Nat) : Option Nat := match bkw l i with
  | some j => match l[j]? with
    | some q => if srtO q.ins.op = 10 ∧ isE q = true then some j else none
    | none => none
  | none => none
theorem lastL_succ {l : List Rt} {i : Nat} (hi : i < l.length) : lastL l (i + 1) = prL l[i] i (lastL l i) := by
  have h : bkw l (i + 1) = if srtO (l[i]).ins.op = 10 ∨ srtO (l[i]).ins.op = 11 then some i else bkw l i := by
    show (match l[i]? with
      | some q => if srtO q.ins.op = 10 ∨ srtO q.ins.op = 11 then some i else bkw l i
      | none => none) = _
    rw [List.getElem?_eq_getElem hi]
  unfold prL
  by_cases c : srtO (l[i]).ins.op = 10
  · rw [if_pos (.inl c)] at h
    unfold lastL
    rw [h, if_pos c]
    simp only [List.getElem?_eq_getElem hi, c, true_and]
  · by_cases d : srtO (l[i]).ins.op = 11
    · rw [if_pos (.inr d)] at h
      unfold lastL
      rw [h, if_neg c, if_pos d]
      simp only [List.getElem?_eq_getElem hi, c, false_and, if_false]
    · rw [if_neg (fun q => q.elim c d)] at h
      rw [if_neg c, if_neg d]
      unfold lastL
      rw [h]
theorem prD_r (l : List Rt) (i : Nat) (r : Rt) : prD l i r = match prW l r (lastL l i) with
    | none => true
    | some n => decide (r.pair ≠ n) := by
  unfold prD prW lastL
  by_cases c : srtO r.ins.op = 11 ∧ isE r = true
  · rw [if_pos c, if_pos c]
    cases q : bkw l i with
    | none => rfl
    | some j =>
      cases q2 : l[j]? with
      | none =>
        simp only [q2]
      | some x =>
        simp only [q2]
        by_cases d : srtO x.ins.op = 10 ∧ isE x = true
        · rw [if_pos d]
          simp only [q2, d.1, d.2, ne_eq, not_true_eq_false, decide_false, Bool.false_or, Bool.not_true]
          by_cases e : x.addr = r.addr ∧ szO x.ins.op = szO r.ins.op
          · rw [if_pos e]
            simp only [e.1, e.2, not_true_eq_false, decide_false, Bool.or_false]
            by_cases f : x.id = r.pair
            · simp [f]
            · have f2 : ¬ r.pair = x.id := fun h => f h.symm
              simp [f, f2]
          · rw [if_neg e]
            simp only
            by_cases f : x.addr = r.addr
            · have : ¬ szO x.ins.op = szO r.ins.op := fun h => e ⟨f, h⟩
              rw [decide_eq_true (p := ¬ szO x.ins.op = szO r.ins.op) this, Bool.or_true, Bool.or_true]
            · rw [decide_eq_true (p := ¬ x.addr = r.addr) f, Bool.true_or, Bool.or_true]
        · rw [if_neg d]
          simp only
          by_cases e : srtO x.ins.op = 10
          · have : isE x = false := by
              cases f : isE x with
              | true => exact absurd ⟨e, f⟩ d
              | false => rfl
            rw [this, Bool.not_false, Bool.true_or, Bool.or_true]
          · rw [decide_eq_true e, Bool.true_or]
  · rw [if_neg c, if_neg c]
theorem prG_r (l : List Rt) : ∀ (n i : Nat), l.length - i = n → i ≤ l.length → prG l i (l.drop i) = prF l (l.drop i) i (lastL l i)
  | 0, i, h, h2 => by
    have : l.drop i = [] := List.drop_eq_nil_of_le (by omega)
    rw [this]
    rfl
  | n + 1, i, h, h2 => by
    have hi : i < l.length := by omega
    have hd : l.drop i = l[i] :: l.drop (i + 1) := List.drop_eq_getElem_cons hi
    have ih := prG_r l n (i + 1) (by omega) (by omega)
    rw [hd]
    unfold prG prF
    rw [ih, prD_r, lastL_succ hi]
    cases prW l l[i] (lastL l i) with
    | none => rfl
    | some n => rfl
theorem prs_same (R : Nat → List Rt) : (List.range' 0 3).any (fun k => prG (R k) 0 (R k)) = prB R := by
  have h : ∀ l, prG l 0 l = prR l := fun l => by
    have := prG_r l _ 0 rfl (Nat.zero_le _)
    rw [List.drop_zero] at this
    exact this
  simp [List.range'_succ, h, prB]
theorem any_ext {α : Type} {p q : α → Bool} : ∀ {l : List α}, (∀ x ∈ l, p x = q x) → l.any p = l.any q
  | [], _ => rfl
  | a :: l, h => by
    rw [List.any_cons, List.any_cons, h a (by simp), any_ext fun x hx => h x (by simp [hx])]
/-- The program's check and the document's are the same. -/
theorem rchk_same {R : Nat → List Rt} (hb : ∀ e ∈ evs R, Bd e.r) (h60 : ∀ h, h < 3 → (R h).length ≤ 60) (img : List Nat) (n : Nat) (co : List (List Int)) : rchk R img n co = chk R img n co := by
  have hm : manB R = false := by
    have h0 := h60 0 (by omega)
    have h1 := h60 1 (by omega)
    have h2 := h60 2 (by omega)
    unfold manB
    rw [decide_eq_false (by omega)]
  have hids := ids_same R
  unfold rchk chk
  rw [hids, prs_same, hm]
  cases q : idsB R with
  | true => simp
  | false =>
    have hnd := ((idsB_iff R).1 q).2
    have hn : (((evs R).map Ev.r).map Rt.id).Nodup := by
      rw [evs_r]
      exact hnd.sublist ((List.filter_sublist).map _)
    have t1 : tagB R = ((allR R).any tagsD || (evs R).any (tagF (evs R))) := by
      unfold tagB
      rw [any_ext fun e _ => tagF_r hn e, show tagsD = tagsR from funext tags_same]
      rfl
    have t2 : (evs R).any (bytD img (evs R)) = bytB R img := any_ext fun e he => bytD_r hn (hb e he)
    have t3 : ordG (evs R) 0 co = ordB R co := ordG_r hn co 0
    rw [t1, t2, t3]
    show (if imgB img n then 1 else _) = _
    unfold plcB
    cases (allR R).any tagsD <;> cases (evs R).any (tagF (evs R)) <;> simp
end Go.Proofs.Ytlkcfhpklibnaaa
