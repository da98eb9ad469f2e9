/- Layer 13: what is put and not drained is found (no claim; plain lemmas). -/
import Derived.Test.YtaedicechhbhdaaK13q
set_option linter.unusedSimpArgs false
set_option linter.unusedVariables false
namespace Go.Proofs.Ytaedicechhbhdaa
open Go Go.Vm

/-! ### the last store with a byte -/
def lastL (at_ : Int) (L : List SE) : Option SE := L.reverse.find? fun x => cov at_ x.1
theorem fndF_A (at_ : Int) : ∀ (es : List En) (r : Wr × Int), fndF at_ r es = r ∨ ∃ e ∈ es, lastC at_ e.st = some (fndF at_ r es).1 ∧ (fndF at_ r es).2 = e.ep
  | [], r => .inl rfl
  | e :: es, r => by
    unfold fndF
    by_cases c : e.ep < r.2
    · rw [if_pos c]
      rcases fndF_A at_ es r with h | ⟨x, hx, h⟩
      · exact .inl h
      · exact .inr ⟨x, List.mem_cons_of_mem _ hx, h⟩
    · rw [if_neg c]
      cases q : lastC at_ e.st with
      | none =>
        rcases fndF_A at_ es r with h | ⟨x, hx, h⟩
        · exact .inl h
        · exact .inr ⟨x, List.mem_cons_of_mem _ hx, h⟩
      | some w =>
        simp only
        rcases fndF_A at_ es (w, e.ep) with h | ⟨x, hx, h⟩
        · right
          refine ⟨e, by simp, ?_⟩
          rw [h, q]
          exact ⟨rfl, rfl⟩
        · exact .inr ⟨x, List.mem_cons_of_mem _ hx, h⟩
theorem fndF_B (at_ : Int) : ∀ (es : List En) (r : Wr × Int), r.2 ≤ (fndF at_ r es).2 ∧ ∀ e ∈ es, lastC at_ e.st ≠ none → e.ep ≤ (fndF at_ r es).2
  | [], r => by simp [fndF]
  | e :: es, r => by
    unfold fndF
    by_cases c : e.ep < r.2
    · rw [if_pos c]
      obtain ⟨h1, h2⟩ := fndF_B at_ es r
      refine ⟨h1, fun x hx hn => ?_⟩
      rcases List.mem_cons.1 hx with rfl | hx
      · omega
      · exact h2 x hx hn
    · rw [if_neg c]
      cases q : lastC at_ e.st with
      | none =>
        obtain ⟨h1, h2⟩ := fndF_B at_ es r
        refine ⟨h1, fun x hx hn => ?_⟩
        rcases List.mem_cons.1 hx with rfl | hx
        · exact absurd q hn
        · exact h2 x hx hn
      | some w =>
        simp only
        obtain ⟨h1, h2⟩ := fndF_B at_ es (w, e.ep)
        simp only at h1
        refine ⟨by omega, fun x hx hn => ?_⟩
        rcases List.mem_cons.1 hx with rfl | hx
        · exact h1
        · exact h2 x hx hn
theorem find_filter {α : Type} (p q : α → Bool) {x : α} : ∀ {l : List α}, l.find? q = some x → p x = true → (l.filter p).find? q = some x
  | [], h, _ => by simp at h
  | a :: l, h, hp => by
    rw [List.find?_cons] at h
    by_cases c : q a = true
    · rw [c] at h
      cases h
      rw [List.filter_cons_of_pos hp, List.find?_cons, c]
    · have c' : q a = false := by simpa using c
      rw [c'] at h
      by_cases d : p a = true
      · rw [List.filter_cons_of_pos d, List.find?_cons, c']
        exact find_filter p q h hp
      · rw [List.filter_cons_of_neg d]
        exact find_filter p q h hp
theorem lastC_map (at_ : Int) (L : List SE) : lastC at_ (L.map Prod.fst) = (lastL at_ L).map Prod.fst := by
  unfold lastC lastL
  rw [← List.map_reverse, List.find?_map]
  rfl
theorem lastL_filter (at_ : Int) (L : List SE) (p : SE → Bool) {x : SE} (h : lastL at_ L = some x) (hp : p x = true) : lastL at_ (L.filter p) = some x := by
  unfold lastL at *
  rw [← List.filter_reverse]
  exact find_filter p _ h hp
theorem mem_lastL {at_ : Int} {L : List SE} {x : SE} (h : lastL at_ L = some x) : x ∈ L ∧ cov at_ x.1 = true := by
  unfold lastL at h
  have h1 := List.mem_of_find?_eq_some h
  have h2 := List.find?_some h
  exact ⟨by simpa using h1, h2⟩
theorem lastL_max {L : List SE} (hm : L.Pairwise fun a b => a.2 ≤ b.2) {at_ : Int} {x : SE} (h : lastL at_ L = some x) : ∀ y ∈ L, cov at_ y.1 = true → y.2 ≤ x.2 := by
  induction L using snoc_ind with
  | h0 => simp [lastL] at h
  | hs l a ih =>
    unfold lastL at h
    rw [List.reverse_append, List.reverse_singleton, List.singleton_append, List.find?_cons] at h
    rw [List.pairwise_append] at hm
    intro y hy hc
    by_cases c : cov at_ a.1 = true
    · rw [c] at h
      have h := Option.some.inj h
      subst h
      rcases List.mem_append.1 hy with hy | hy
      · exact hm.2.2 y hy a (by simp)
      · simp at hy; subst hy; exact Int.le_refl _
    · have c' : cov at_ a.1 = false := by simpa using c
      rw [c'] at h
      rcases List.mem_append.1 hy with hy | hy
      · exact ih hm.1 h y hy hc
      · simp at hy; subst hy; exact absurd hc c
/-- What the buffer finds is the last store with the byte. -/
theorem fnd_last {L : List SE} {ep : Int} (h : Iv L ep) (at_ : Int) : fndF at_ (zW, -1) (grp L) = match lastL at_ L with
    | some x => x
    | none => (zW, -1) := by
  have hA := fndF_A at_ (grp L) (zW, -1)
  have hB := fndF_B at_ (grp L) (zW, -1)
  cases q : lastL at_ L with
  | none =>
    simp only
    rcases hA with hA | ⟨e, he, h1, h2⟩
    · exact hA
    · exfalso
      have hm : (fndF at_ (zW, -1) (grp L)).1 ∈ e.st ∧ cov at_ (fndF at_ (zW, -1) (grp L)).1 = true := by
        unfold lastC at h1
        exact ⟨by simpa using List.mem_of_find?_eq_some h1, List.find?_some h1⟩
      have := (grp_mem L he hm.1).1
      unfold lastL at q
      rw [List.find?_eq_none] at q
      exact q ((fndF at_ (zW, -1) (grp L)).1, e.ep) (by simpa using this) hm.2
  | some x =>
    simp only
    obtain ⟨hx, hc⟩ := mem_lastL q
    have hmax := lastL_max h.mono q
    obtain ⟨e, he, hk⟩ := List.mem_map.1 (grp_cov L x hx)
    have hst := (grp_st L e he).1
    have hl : lastC at_ e.st = some x.1 := by
      rw [hst, lastC_map, lastL_filter at_ L _ q (by rw [decide_eq_true_eq]; exact hk.symm)]
      rfl
    have hee : e.ep = x.2 := by unfold ek key at hk; simp only [Prod.mk.injEq] at hk; exact hk.2
    have hge := hB.2 e he (by rw [hl]; simp)
    have hx0 := (h.le x hx).1
    rcases hA with hA | ⟨e', he', h1, h2⟩
    · rw [hA] at hge
      simp only at hge
      omega
    · have hm : (fndF at_ (zW, -1) (grp L)).1 ∈ e'.st ∧ cov at_ (fndF at_ (zW, -1) (grp L)).1 = true := by
        unfold lastC at h1
        exact ⟨by simpa using List.mem_of_find?_eq_some h1, List.find?_some h1⟩
      obtain ⟨g1, g2⟩ := grp_mem L he' hm.1
      have hle := hmax _ g1 hm.2
      simp only at hle
      have e2 : e'.ep = x.2 := by omega
      have b1 := cov_blk (h.may _ g1).1 hm.2
      have b2 := cov_blk (h.may x hx).1 hc
      have hkk : key x = ek e' := by
        unfold key ek
        rw [e2, ← g2, b1, b2]
      have hl' : lastC at_ e'.st = some x.1 := by
        rw [(grp_st L e' he').1, lastC_map, lastL_filter at_ L _ q (by rw [decide_eq_true_eq]; exact hkk)]
        rfl
      rw [hl'] at h1
      have h3 := Option.some.inj h1
      have h4 : (fndF at_ (zW, -1) (grp L)).2 = x.2 := by omega
      exact Prod.ext h3.symm h4
/-! ### stores that are taken out again -/
/-- The first of some that comes to a store is taken out. -/
def rem1 (o : Wr) : List Wr → Option (List Wr)
  | [] => none
  | w :: l => if zw w = o then some l else (rem1 o l).map (w :: ·)
def remA : List Wr → List Wr → Option (List Wr)
  | [], I => some I
  | o :: os, I => match rem1 o I with
    | none => none
    | some I' => remA os I'
theorem rem1_not (o : Wr) : ∀ (l : List Wr), (∀ w ∈ l, zw w ≠ o) → ∀ (w : Wr) (r : List Wr), zw w = o → rem1 o (l ++ w :: r) = some (l ++ r)
  | [], _, w, r, h => by simp [rem1, h]
  | a :: l, hl, w, r, h => by
    rw [List.cons_append, rem1, if_neg (hl a (by simp)), rem1_not o l (fun x hx => hl x (List.mem_cons_of_mem _ hx)) w r h]
    rfl
/-- A store as it is held. -/
def hz (x : SE) : SE := (zw x.1, x.2)
theorem key_hz (x : SE) : key (hz x) = key x := rfl
/-- What goes is taken out, one after the other. -/
theorem remA_drain (κ : Int × Int) : ∀ (n : Nat) (A B : List SE), B.length = n → (∀ x ∈ A, key x ≠ κ) → (∀ x ∈ A, ∀ y ∈ B, x.2 ≤ y.2) → B.Pairwise (fun a b => a.2 ≤ b.2) → (∀ x ∈ A ++ B, κ.2 ≤ x.2) →
    remA ((B.filter fun x => decide (key x = κ)).map fun x => zw x.1) ((A ++ B).map Prod.fst) = some (((A ++ B).filter fun x => decide (key x ≠ κ)).map Prod.fst) := by
  intro n
  induction n with
  | zero =>
    intro A B hB hA _ _ _
    have : B = [] := by simpa using hB
    subst this
    rw [List.append_nil, List.filter_nil, List.map_nil]
    show some (A.map Prod.fst) = _
    congr 2
    symm
    rw [List.filter_eq_self]
    intro x hx
    simpa using hA x hx
  | succ n ih =>
    intro A B hB hA hAB hmono hge
    cases B with
    | nil => simp at hB
    | cons b B =>
      rw [List.pairwise_cons] at hmono
      by_cases c : key b = κ
      · have hno : ∀ w ∈ A.map Prod.fst, zw w ≠ zw b.1 := by
          intro w hw he
          obtain ⟨x, hx, rfl⟩ := List.mem_map.1 hw
          have h1 := hAB x hx b (by simp)
          have h2 := hge x (List.mem_append_left _ hx)
          have h3 : b.2 = κ.2 := by rw [← c]; rfl
          apply hA x hx
          rw [← c]
          unfold key
          have : x.1.addr = b.1.addr := by have := congrArg Wr.addr he; exact this
          rw [this, show x.2 = b.2 by omega]
        rw [List.filter_cons_of_pos (by simp [c]), List.map_cons, remA, List.map_append, List.map_cons, rem1_not _ _ hno _ _ rfl, ← List.map_append]
        simp only
        have := ih A B (by simpa using hB) hA (fun x hx y hy => hAB x hx y (List.mem_cons_of_mem _ hy)) hmono.2 (fun x hx => hge x (by
          rcases List.mem_append.1 hx with hx | hx
          · exact List.mem_append_left _ hx
          · exact List.mem_append_right _ (List.mem_cons_of_mem _ hx)))
        rw [this]
        congr 2
        rw [List.filter_append, List.filter_append, List.filter_cons_of_neg (by simp [c])]
      · have hBl : B.length = n := by simpa using hB
        have := ih (A ++ [b]) B hBl (fun x hx => by
          rcases List.mem_append.1 hx with hx | hx
          · exact hA x hx
          · simp at hx; subst hx; exact c) (fun x hx y hy => by
          rcases List.mem_append.1 hx with hx | hx
          · exact hAB x hx y (List.mem_cons_of_mem _ hy)
          · simp at hx; subst hx; exact hmono.1 y hy) hmono.2 (fun x hx => hge x (by simpa using hx))
        rw [List.filter_cons_of_neg (by simp [c])]
        simpa using this
theorem remA_go {R : List SE} {ep : Int} (h : Iv (R.map hz) ep) (κ : Int × Int) (hκ : κ.2 = lea ep (grp (R.map hz))) :
    remA (((R.map hz).filter fun x => decide (key x = κ)).map Prod.fst) (R.map Prod.fst) = some ((R.filter fun x => decide (key x ≠ κ)).map Prod.fst) ∧ (R.map hz).filter (fun x => decide (key x ≠ κ)) = (R.filter fun x => decide (key x ≠ κ)).map hz := by
  have hm : R.Pairwise fun a b => a.2 ≤ b.2 := by
    have := h.mono
    rw [List.pairwise_map] at this
    exact this
  have hge : ∀ x ∈ [] ++ R, κ.2 ≤ x.2 := by
    intro x hx
    rw [hκ]
    exact lea_le (R.map hz) ep (hz x) (List.mem_map_of_mem (by simpa using hx))
  have := remA_drain κ R.length [] R rfl (by simp) (by simp) hm hge
  simp only [List.nil_append] at this
  constructor
  · rw [← this, List.filter_map, List.map_map]
    rfl
  · rw [List.filter_map]
    rfl
/-- A piece taken out while one goes along. -/
def rm (o : Wr) : Bool → List Wr → List Wr × Bool
  | g, [] => ([], g)
  | g, w :: l => if g = false ∧ zw w = o then rm o true l else (w :: (rm o g l).1, (rm o g l).2)
theorem rm_true (o : Wr) : ∀ l, rm o true l = (l, true)
  | [] => rfl
  | w :: l => by rw [rm, if_neg (by simp), rm_true o l]
theorem rm_false (o : Wr) : ∀ l, rm o false l = match rem1 o l with
    | some l' => (l', true)
    | none => (l, false)
  | [] => rfl
  | w :: l => by
    rw [rm, rem1]
    by_cases c : zw w = o
    · rw [if_pos ⟨rfl, c⟩, if_pos c, rm_true]
    · rw [if_neg (fun h => c h.2), if_neg c, rm_false o l]
      cases rem1 o l <;> rfl
/-- A byte by all stores, the last one's. -/
def btI (w : Wr) (at_ : Int) : Nat := w.data / 2 ^ (8 * (at_ - w.addr)).toNat % 256
def wf (at_ : Int) : Nat × Int × Bool → List Wr → Nat × Int × Bool
  | r, [] => r
  | r, w :: l => wf at_ (if cov at_ w = true then (btI w at_, w.id, true) else r) l
theorem wf_snoc (at_ : Int) (w : Wr) : ∀ (l : List Wr) (r : Nat × Int × Bool), wf at_ r (l ++ [w]) = if cov at_ w = true then (btI w at_, w.id, true) else wf at_ r l
  | [], r => rfl
  | a :: l, r => by
    rw [List.cons_append, wf, wf_snoc at_ w l]
    rfl
theorem wf_last (at_ : Int) (l : List Wr) : wf at_ (0, 0, false) l = match l.reverse.find? (cov at_) with
    | some w => (btI w at_, w.id, true)
    | none => (0, 0, false) := by
  induction l using snoc_ind with
  | h0 => rfl
  | hs l a ih =>
    rw [wf_snoc, List.reverse_append, List.reverse_singleton, List.singleton_append, List.find?_cons]
    by_cases c : cov at_ a = true
    · rw [if_pos c, c]
    · have c' : cov at_ a = false := by simpa using c
      rw [if_neg c, c', ih]
theorem btI_zw (w : Wr) (at_ : Int) (hm : okS w) (hc : cov at_ w = true) : btI (zw w) at_ = btI w at_ := by
  unfold okS at hm
  unfold cov at hc
  rw [decide_eq_true_eq] at hc
  unfold btI zw zx
  simp only
  obtain ⟨n, hn⟩ : ∃ n : Nat, w.size = n := ⟨w.size.toNat, by omega⟩
  obtain ⟨k, hk⟩ : ∃ k : Nat, at_ - w.addr = k := ⟨(at_ - w.addr).toNat, by omega⟩
  rw [hn, hk]
  rw [show (8 * (n : Int)).toNat = 8 * k + 8 * (n - k) by omega, show (8 * (k : Int)).toNat = 8 * k by omega, Nat.pow_add, Nat.mod_mul_right_div_self]
  exact Nat.mod_mod_of_dvd _ (Nat.pow_dvd_pow 2 (show 8 ≤ 8 * (n - k) by omega))
/-- What is found is what all stores say. -/
theorem find_same {R : List SE} {ep : Int} (h : Iv (R.map hz) ep) (hR : ∀ x ∈ R, okS x.1) (at_ : Int) :
    fndV (fndF at_ (zW, -1) (grp (R.map hz))) at_ = .tup [.int .u8 ((wf at_ (0, 0, false) (R.map Prod.fst)).1 : Nat), .int .i64 (wf at_ (0, 0, false) (R.map Prod.fst)).2.1, .bool (wf at_ (0, 0, false) (R.map Prod.fst)).2.2] := by
  rw [fnd_last h, wf_last]
  have e1 : lastL at_ (R.map hz) = (lastL at_ R).map hz := by
    unfold lastL
    rw [← List.map_reverse, List.find?_map]
    rfl
  have e2 : (R.map Prod.fst).reverse.find? (cov at_) = (lastL at_ R).map Prod.fst := by
    unfold lastL
    rw [← List.map_reverse, List.find?_map]
    rfl
  rw [e1, e2]
  cases q : lastL at_ R with
  | none => rfl
  | some x =>
    obtain ⟨hx, hc⟩ := mem_lastL q
    have hb := btI_zw x.1 at_ (hR x hx) hc
    have h0 := (h.le (hz x) (List.mem_map_of_mem hx)).1
    have h0' : 0 ≤ x.2 := h0
    show fndV (hz x) at_ = _
    unfold fndV hz
    simp only
    rw [if_neg (by omega)]
    have : (zw x.1).data / 2 ^ (8 * (at_ - (zw x.1).addr)).toNat % 256 = btI x.1 at_ := hb
    rw [this]
    rfl
end Go.Proofs.Ytaedicechhbhdaa
