/- Layer 22: instructions that are annotated more (no claim; lemmas). -/
import Derived.Test.YtccdkkgimaajbaaDoorK22s
set_option linter.unusedSimpArgs false
set_option linter.unusedVariables false
namespace Go.Proofs.YtccdkkgimaajbaaDoor
open Go Go.Vm

structure UpI (x x' : In) : Prop where
  nf : nof x' = nof x
  aq : x.aq = true → x'.aq = true
  rl : x.rl = true → x'.rl = true
  p1 : andI .i64 x.pred 1 ≠ 0 → andI .i64 x'.pred 1 ≠ 0
  p2 : andI .i64 x.pred 2 ≠ 0 → andI .i64 x'.pred 2 ≠ 0
  s1 : andI .i64 x.succ 1 ≠ 0 → andI .i64 x'.succ 1 ≠ 0
  s2 : andI .i64 x.succ 2 ≠ 0 → andI .i64 x'.succ 2 ≠ 0
structure Up (r r' : Rt) : Prop where
  ins : UpI r.ins r'.ins
  cause : r'.cause = r.cause
  addr : r'.addr = r.addr
  id : r'.id = r.id
  pair : r'.pair = r.pair
  fail : r'.fail = r.fail
  tg : r'.tg = r.tg
theorem UpI.op {x x' : In} (h : UpI x x') : x'.op = x.op := by
  have := congrArg In.op h.nf
  exact this
theorem UpI.refl (x : In) : UpI x x := ⟨rfl, id, id, id, id, id, id⟩
theorem Up.refl (r : Rt) : Up r r := ⟨.refl _, rfl, rfl, rfl, rfl, rfl, rfl⟩
structure UpE (e e' : Ev) : Prop where
  hart : e'.hart = e.hart
  at_ : e'.at' = e.at'
  r : Up e.r e'.r
theorem Up.isE {r r' : Rt} (h : Up r r') : isE r' = isE r := by
  unfold Go.Proofs.YtccdkkgimaajbaaDoor.isE
  rw [h.cause, h.ins.op, h.fail]
theorem evH_up (h : Nat) : ∀ {l l' : List Rt} (i : Nat), upL Up l l' → upL UpE (evH h l i) (evH h l' i)
  | [], [], _, _ => trivial
  | r :: l, r' :: l', i, hu => by
    have ih := evH_up h (i + 1) hu.2
    unfold evH
    rw [hu.1.isE]
    split
    · exact ⟨⟨rfl, rfl, hu.1⟩, ih⟩
    · exact ih
  | [], _ :: _, _, hu => hu.elim
  | _ :: _, [], _, hu => hu.elim
def UpR (R R' : Nat → List Rt) : Prop := ∀ h, h < 3 → upL Up (R h) (R' h)
section
variable {R R' : Nat → List Rt} (hR : UpR R R')
include hR
theorem evs_up : upL UpE (evs R) (evs R') := upL_app (evH_up 0 0 (hR 0 (by omega))) (upL_app (evH_up 1 0 (hR 1 (by omega))) (evH_up 2 0 (hR 2 (by omega))))
theorem f_up {h : Nat} (hh : h < 3) : fA R' h = fA R h ∧ fD R' h = fD R h ∧ fC R' h = fC R h ∧ (R' h).length = (R h).length := by
  have hl := upL_len (hR h hh)
  have hn : (insR R h).map nof = (insR R' h).map nof := by
    unfold insR
    rw [List.map_map, List.map_map]
    exact upL_map_eq (fun r r' hu => hu.ins.nf.symm) (hR h hh)
  have eA : hA (insR R' h) = hA (insR R h) := by
    funext i
    rw [← hA_nof, ← hn, hA_nof]
  have eD : hD (insR R' h) = hD (insR R h) := by
    funext i
    rw [← hD_nof, ← hn, hD_nof]
  have eC : cAt (insR R' h) = cAt (insR R h) := by
    funext i
    rw [← cAt_nof, ← hn, cAt_nof]
  unfold fA fD fC
  rw [eA, eD, eC, hl]
  exact ⟨rfl, rfl, rfl, rfl⟩
end
theorem UpE.st {e e' : Ev} (h : UpE e e') : e'.st = e.st := by unfold Ev.st; rw [h.r.ins.op]
theorem UpE.ld {e e' : Ev} (h : UpE e e') : e'.ld = e.ld := by unfold Ev.ld; rw [h.r.ins.op]
theorem UpE.ad {e e' : Ev} (h : UpE e e') : adE e'.r = adE e.r := by unfold adE; rw [h.r.addr]
theorem UpE.ov {a a' b b' : Ev} (h : UpE a a') (g : UpE b b') : ovE a' b' = ovE a b := by
  unfold ovE
  rw [h.ad, g.ad, h.r.ins.op, g.r.ins.op]
theorem UpE.has {e e' : Ev} (h : UpE e e') (at_ : Int) : hasE e' at_ = hasE e at_ := by
  unfold hasE
  rw [h.ad, h.r.ins.op]
theorem UpE.ret {e e' : Ev} (h : UpE e e') (id : Int) : retE e' id = retE e id := by
  unfold retE tgs
  rw [h.r.ins.op, h.r.tg]
theorem or_mono {a b a' b' : Bool} (h : a = true → a' = true) (g : b = true → b' = true) : (a || b) = true → (a' || b') = true := by
  cases a <;> cases b <;> cases a' <;> cases b' <;> simp_all
theorem and_mono {a b a' b' : Bool} (h : a = true → a' = true) (g : b = true → b' = true) : (a && b) = true → (a' && b') = true := by
  cases a <;> cases b <;> cases a' <;> cases b' <;> simp_all
theorem UpE.str {e e' : Ev} (h : UpE e e') : strE e = true → strE e' = true := or_mono h.r.ins.aq h.r.ins.rl
theorem dec_mono {P Q : Prop} [Decidable P] [Decidable Q] (h : P → Q) : decide P = true → decide Q = true := by simpa using h
theorem ord_mono {f f' : In} {a a' b b' : Ev} (hf : UpI f f') (h : UpE a a') (g : UpE b b') : ordE f a b = true → ordE f' a' b' = true := by
  unfold ordE
  rw [hf.op, h.ld, h.st, g.ld, g.st]
  split
  · exact id
  · exact and_mono (or_mono (and_mono id (dec_mono hf.p2)) (and_mono id (dec_mono hf.p1))) (or_mono (and_mono id (dec_mono hf.s2)) (and_mono id (dec_mono hf.s1)))
section
variable {R R' : Nat → List Rt} (hR : UpR R R')
include hR
theorem hgs_up {x x' y y' : Ev} (hx : UpE x x') (hy : UpE y y') (h3 : x.hart < 3) :
    hgs R' (fA R') x' y' = hgs R (fA R) x y ∧ hgs R' (fD R') x' y' = hgs R (fD R) x y ∧ hgs R' (fC R') x' y' = hgs R (fC R) x y := by
  obtain ⟨h1, h2, h4, h5⟩ := f_up hR h3
  unfold hgs
  rw [hx.hart, hx.at_, hy.at_, h1, h2, h4, h5]
  exact ⟨rfl, rfl, rfl⟩
theorem rulE_up {x x' y y' : Ev} {M M' : List Ev} (hx : UpE x x') (hy : UpE y y') (hM : upL UpE M M') (h3 : x.hart < 3) {k : Nat} (hk : k < 13) :
    rulE R (fA R) (fD R) (fC R) k x y M = true → rulE R' (fA R') (fD R') (fC R') k x' y' M' = true := by
  have e1 : r1 x' y' = r1 x y := by unfold r1; rw [hy.st, hx.ov hy]
  have e2 : r2 x' y' M' = r2 x y M := by
    have eb : byt x' y' M' = byt x y M := by
      funext k
      unfold byt
      have em : ∀ a : Int, M'.any (stH a) = M.any (stH a) := fun a => (upL_any_eq (fun m m' hm => by unfold stH; rw [hm.st, hm.has]) hM).symm
      rw [hx.ad, hy.ad, hy.has, hx.r.tg, hy.r.tg, em]
    unfold r2
    rw [hx.ld, hy.ld, hx.ov hy, hx.r.ins.op, eb]
  have e3 : r3 x' y' = r3 x y := by unfold r3; rw [hx.r.ins.op, hy.ret, hx.r.id]
  have e4 : r4 R x y = true → r4 R' x' y' = true := by
    unfold r4
    rw [hx.hart, hx.at_, hy.at_]
    refine upL_any (P := Up) (fun f f' hf => ?_) (upL_drop _ (upL_take _ (hR _ h3)))
    unfold fnc
    rw [hf.ins.op, hf.cause]
    exact and_mono id (and_mono id (ord_mono hf.ins hx hy))
  have e8 : r8 x' y' = r8 x y := by unfold r8; rw [hx.r.ins.op, hy.r.ins.op, hy.r.pair, hx.r.id]
  obtain ⟨g1, g2, g3⟩ := hgs_up hR hx hy h3
  have e12 : r12 R' (fA R') (fD R') x' y' M' = r12 R (fA R) (fD R) x y M := by
    unfold r12
    refine (upL_any_eq (fun m m' hm => ?_) hM).symm
    obtain ⟨q1, q2, _⟩ := hgs_up hR hx hm h3
    rw [hm.st, hy.ret, hm.r.id, q1, q2]
  have e13 : r13 R' (fA R') x' y' = r13 R (fA R) x y := by
    obtain ⟨h1, _, _, h5⟩ := f_up hR h3
    unfold r13
    rw [hy.st, hx.at_, hy.at_, hx.hart, h1, h5]
  rcases lt13 hk with rfl | rfl | rfl | rfl | rfl | rfl | rfl | rfl | rfl | rfl | rfl | rfl | rfl
  · show r1 x y = true → r1 x' y' = true
    rw [e1]; exact id
  · show r2 x y M = true → r2 x' y' M' = true
    rw [e2]; exact id
  · show r3 x y = true → r3 x' y' = true
    rw [e3]; exact id
  · exact e4
  · exact hx.r.ins.aq
  · exact hy.r.ins.rl
  · exact and_mono hx.str hy.str
  · show r8 x y = true → r8 x' y' = true
    rw [e8]; exact id
  · show hgs R (fA R) x y = true → hgs R' (fA R') x' y' = true
    rw [g1]; exact id
  · show hgs R (fD R) x y = true → hgs R' (fD R') x' y' = true
    rw [g2]; exact id
  · show (y.st && hgs R (fC R) x y) = true → (y'.st && hgs R' (fC R') x' y') = true
    rw [hy.st, g3]; exact id
  · show r12 R (fA R) (fD R) x y M = true → r12 R' (fA R') (fD R') x' y' M' = true
    rw [e12]; exact id
  · show r13 R (fA R) x y = true → r13 R' (fA R') x' y' = true
    rw [e13]; exact id
theorem pr_up {a b : Nat} (ha : a < (evs R).length) (hb : b < (evs R).length) (h : pr (evs R) (anyR R (fA R) (fD R) (fC R) (evs R) 13) a b = true) : pr (evs R') (anyR R' (fA R') (fD R') (fC R') (evs R') 13) a b = true := by
  have hE := evs_up hR
  obtain ⟨x', hx', hx⟩ := upL_get hE (List.getElem?_eq_getElem ha)
  obtain ⟨y', hy', hy⟩ := upL_get hE (List.getElem?_eq_getElem hb)
  have h3 := (evs_ok _ (List.getElem_mem ha)).1
  unfold pr at h ⊢
  have e1 : hrt (evs R') a = hrt (evs R) a := by unfold hrt; rw [hx', List.getElem?_eq_getElem ha]; exact hx.hart
  have e2 : hrt (evs R') b = hrt (evs R) b := by unfold hrt; rw [hy', List.getElem?_eq_getElem hb]; exact hy.hart
  rw [e1, e2]
  refine and_mono id (and_mono id ?_) h
  intro h
  unfold anyR at h ⊢
  rw [List.any_eq_true] at h ⊢
  obtain ⟨j, hj, h⟩ := h
  refine ⟨j, hj, ?_⟩
  rw [List.mem_range] at hj
  unfold rul at h ⊢
  rw [hx', hy']
  rw [List.getElem?_eq_getElem ha, List.getElem?_eq_getElem hb] at h
  exact rulE_up hR hx hy (upL_drop _ (upL_take _ hE)) h3 hj h
end
/-! ### bits -/
theorem i64_ne {n : Nat} (h : n < 18446744073709551616) : IntKind.i64.wrap (n : Int) ≠ 0 ↔ n ≠ 0 := by
  constructor
  · intro h1 h2
    subst h2
    exact h1 rfl
  · intro h1 h2
    simp only [IntKind.wrap, IntKind.bits, IntKind.signed] at h2
    simp at h2
    split at h2 <;> omega
theorem and_ne (a b : Int) : andI .i64 a b ≠ 0 ↔ BitVec.ofInt 64 a &&& BitVec.ofInt 64 b ≠ 0#64 := by
  have hlt := (BitVec.ofInt 64 a &&& BitVec.ofInt 64 b).isLt
  show IntKind.i64.wrap ((BitVec.ofInt 64 a &&& BitVec.ofInt 64 b).toNat : Nat) ≠ 0 ↔ _
  rw [i64_ne (by simpa using hlt)]
  constructor
  · intro h e
    exact h (by rw [e]; rfl)
  · intro h e
    exact h (BitVec.eq_of_toNat_eq (by rw [e]; rfl))
theorem ofInt_wrap (n : Nat) : BitVec.ofInt 64 (IntKind.i64.wrap (n : Int)) = BitVec.ofNat 64 n := by
  apply BitVec.eq_of_toNat_eq
  rw [BitVec.toNat_ofInt, BitVec.toNat_ofNat]
  simp only [IntKind.wrap, IntKind.bits, IntKind.signed]
  simp
  split <;> omega
theorem or_bits (p q b : Int) (h : andI .i64 p b ≠ 0) : andI .i64 (orI .i64 p q) b ≠ 0 := by
  rw [and_ne] at h ⊢
  have e : BitVec.ofInt 64 (orI .i64 p q) = BitVec.ofInt 64 p ||| BitVec.ofInt 64 q := by
    show BitVec.ofInt 64 (IntKind.i64.wrap ((BitVec.ofInt 64 p ||| BitVec.ofInt 64 q).toNat : Nat)) = _
    rw [ofInt_wrap]
    exact BitVec.ofNat_toNat _ _ |>.trans (by simp)
  rw [e]
  intro hc
  apply h
  apply BitVec.eq_of_getLsbD_eq
  intro i hi
  have := congrArg (fun v => v.getLsbD i) hc
  simp only [BitVec.getLsbD_and, BitVec.getLsbD_or, BitVec.getLsbD_zero] at this ⊢
  cases h1 : (BitVec.ofInt 64 p).getLsbD i <;> cases h2 : (BitVec.ofInt 64 b).getLsbD i <;> simp_all
end Go.Proofs.YtccdkkgimaajbaaDoor
