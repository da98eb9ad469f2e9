/- RelPairs (no claim; lemmas). -/
import Derived.Test.YtkjfedgjjgobaaaDoorK19k
set_option linter.unusedSimpArgs false
set_option linter.unusedVariables false
namespace Go.Proofs.YtkjfedgjjgobaaaDoor
open Go Go.Vm

theorem Bth.frame {H H' : List Vm.Obj} {b0 p : Nat} {v : V} {n T : Nat} {I : Nat → Nat} {v2 : V} {T2 : Nat} {I2 : Nat → Nat} {W : Nat → Nat} (h : Bth H b0 p v n T I v2 T2 I2 W) (hf : ∀ q, rft p n T I q ∨ mft n T2 I2 q → H'[q]? = H[q]?) : Bth H' b0 p v n T I v2 T2 I2 W :=
  ⟨h.rel.frame fun q hq => hf q (.inl hq), MatAt.frame h.tab fun q hq => hf q (.inr hq), h.dis, h.new⟩
theorem Bth.lt {H : List Vm.Obj} {b0 p : Nat} {v : V} {n T : Nat} {I : Nat → Nat} {v2 : V} {T2 : Nat} {I2 : Nat → Nat} {W : Nat → Nat} (h : Bth H b0 p v n T I v2 T2 I2 W) {q : Nat} (hq : rft p n T I q ∨ mft n T2 I2 q) : q < H.length := by
  rcases hq with hq | hq
  · exact h.rel.ftlt hq
  · exact MatAt.lt h.tab hq
def rpTail : C := match ir_undertowlaw19_RelPairs.body with
  | .seq _ (.seq _ (.seq _ (.seq _ (.seq _ (.seq _ c))))) => c
  | _ => .skip
def rpHead (t : C) : C := match ir_undertowlaw19_RelPairs.body with
  | .seq a (.seq b (.seq c (.seq d (.seq e (.seq f _))))) => .seq a (.seq b (.seq c (.seq d (.seq e (.seq f t)))))
  | _ => .skip
theorem rp_body : ir_undertowlaw19_RelPairs.body = rpHead rpTail := rfl
theorem rp_tail (n : Nat) (hn : n < 100) (mv : V) (l m : List (Int × Int)) (hm : Sl mv (pR m)) (hm4 : m.length ≤ 400) (H1 : List Vm.Obj) (p : Nat) (v : V) (T : Nat) (I : Nat → Nat) (v2 : V) (T2 : Nat) (I2 : Nat → Nat) (b2 : Bth H1 0 p v n T I v2 T2 I2 (relOf n l)) :
    ∃ H8, evCI pg rpTail ⟨[.undef, .undef, mv, .undef, .undef, .undef, .int .i64 (n : Int), .ptr p 0 0, v2, .undef, .undef, .undef, .undef, .undef, .undef, .undef, .undef, .undef, .undef, .bool false, .undef, .undef], ⟨[], [], H1⟩⟩ =
      some (.ret, ⟨[.undef, .undef, .undef, .undef, .undef, .bool true, .undef, .undef, .undef, .undef, .undef, .undef, .undef, .undef, .undef, .undef, .undef, .undef, .undef, .undef, .undef, .undef], ⟨[], [], H8⟩⟩) := by
  have e641 : IntKind.i64.wrap ((n : Int) + 1) = ((n + 1 : Nat) : Int) := by rw [wrap_i64 (by omega) (by omega)]; omega
  have hs2 := MatAt.slot b2.tab
  have hex2 := (MatAt.exp b2.tab).1
  -- the second one
  obtain ⟨H2, p', v', T', I', v3, T3, I3, d1, d2, d3⟩ := both_ok mv m hm (by omega) n (by omega) H1
  have hs3 := MatAt.slot d2.tab
  have b2' : Bth H2 0 p v n T I v2 T2 I2 (relOf n l) := by
    have := b2.frame (H' := H2) fun q hq => d3 q (b2.lt hq)
    exact this
  -- one of another length
  obtain ⟨H3, v4, T4, I4, g1, g2, g3, g4⟩ := New_ok (n + 1) (by omega) H2
  have hp2 := get_lt d2.rel.obj
  have b3' : Bth H3 0 p v n T I v2 T2 I2 (relOf n l) := b2'.frame fun q hq => g3 q (b2'.lt hq)
  have d3' : Bth H3 H1.length p' v' n T' I' v3 T3 I3 (relOf n m) := d2.frame fun q hq => g3 q (d2.lt hq)
  -- the list of them
  have lift : ∀ q, q < H3.length → (H3 ++ [Vm.Obj.arr [[.ptr p' 0 0], [.nilp], [.ptr H2.length 0 0]]])[q]? = H3[q]? := fun q hq => List.getElem?_append_left hq
  obtain ⟨H4, hH4⟩ : ∃ H4, H4 = H3 ++ [Vm.Obj.arr [[.ptr p' 0 0], [.nilp], [.ptr H2.length 0 0]]] := ⟨_, rfl⟩
  rw [← hH4] at lift
  have b4 : Bth H4 0 p v n T I v2 T2 I2 (relOf n l) := b3'.frame fun q hq => lift q (b3'.lt hq)
  have d4 : Bth H4 H1.length p' v' n T' I' v3 T3 I3 (relOf n m) := d3'.frame fun q hq => lift q (d3'.lt hq)
  have g4' : RelAt H4 H2.length v4 (n + 1) T4 I4 (fun _ => 0) := g2.frame fun q hq => lift q (g2.ftlt hq)
  have hq4 : H4[H3.length]? = some (.arr [[.ptr p' 0 0], [.nilp], [.ptr H2.length 0 0]]) := by rw [hH4]; simp
  have lo : ∀ q, rft p n T I q ∨ mft n T2 I2 q → q < H1.length := fun q hq => b2.lt hq
  obtain ⟨H5, j1, j2, j3⟩ := Join_three_ok (n := n) (W := relOf n l) (U := relOf n m) (fun a ha hq => by
      have w1 := lo (I a) (.inl (.inr (.inr ⟨a, ha, rfl⟩)))
      have w2 := d4.new (I a) (.inl hq)
      omega) (fun a ha hq => by
      have w1 := lo (I a) (.inl (.inr (.inr ⟨a, ha, rfl⟩)))
      have w2 : H2.length ≤ I a := by
        rcases hq with hq | hq
        · omega
        · have := g4 _ hq; omega
      have w3 := d2.lt (.inl (.inl rfl))
      have w4 := d2.new _ (.inl (.inl rfl))
      omega) (by omega) H4 H3.length b4.rel d4.rel g4' hq4 (fun a ha e => by
      have w1 := b3'.lt (.inl (.inr (.inr ⟨a, ha, rfl⟩))) 
      omega)
  have t5 : TabAt H5 v2 n T2 I2 (fun a b => (relOf n l a).testBit b) := MatAt.frame b4.tab fun q hq => j3 q fun a ha e => b4.dis (I a) (.inr (.inr ⟨a, ha, rfl⟩)) (by rw [← e]; exact hq)
  have t5' : TabAt H5 v3 n T3 I3 (fun a b => (relOf n m a).testBit b) := MatAt.frame d4.tab fun q hq => j3 q fun a ha e => by
    have w1 := lo (I a) (.inl (.inr (.inr ⟨a, ha, rfl⟩)))
    have w2 := d4.new q (.inr hq)
    omega
  have hdt : ∀ q, mft n T2 I2 q → ¬ mft n T3 I3 q := fun q h1 h2 => by
    have w1 := lo q (.inr h1)
    have w2 := d4.new q (.inr h2)
    omega
  obtain ⟨H6, k1, k2, k3⟩ := Pairs_law_l1 n (by omega) (fun a b => (relOf n l a).testBit b) (fun a b => (relOf n m a).testBit b) v2 T2 I2 v3 T3 I3 hdt (.ptr p 0 0) (.bool true) 0 (by omega) H5
    (MatAt.congr t5 fun a ha => bR_congr fun b hb => by unfold Q; rw [if_neg (by omega)]) t5'
  rw [Int.natCast_zero] at k1
  have r6 : RelAt H6 p v n T I (fun a => relOf n l a ||| relOf n m a) := j2.frame fun q hq => k3 q fun a ha e => b4.dis q hq (.inr ⟨a, ha, e⟩)
  have t6 : TabAt H6 v2 n T2 I2 (fun a b => ((fun a => relOf n l a ||| relOf n m a) a).testBit b) := MatAt.congr k2 fun a ha => bR_congr fun b hb => by
    unfold Q
    rw [if_pos (by omega)]
    exact Nat.testBit_or _ _ _
  -- none of them
  obtain ⟨H7, hH7⟩ : ∃ H7, H7 = H6 ++ [Vm.Obj.arr [[.ptr p 0 0]]] := ⟨_, rfl⟩
  have hq7 : H7[H6.length]? = some (.arr [[.ptr p 0 0]]) := by rw [hH7]; simp
  have hJn := Join_none_ok H7 H6.length p hq7
  have r7 : RelAt H7 p v n T I (fun a => relOf n l a ||| relOf n m a) := r6.frame fun q hq => by rw [hH7]; exact List.getElem?_append_left (r6.ftlt hq)
  have t7 : TabAt H7 v2 n T2 I2 (fun a b => ((fun a => relOf n l a ||| relOf n m a) a).testBit b) := MatAt.frame t6 fun q hq => by rw [hH7]; exact List.getElem?_append_left (MatAt.lt t6 hq)
  obtain ⟨u7, hu7, him7, _⟩ := r7.imm true
  obtain ⟨tu7, htu7, htim7, _⟩ := MatAt.tabV t7 true
  have hi77 := fun vs tk => him7 vs tk 4
  have ht78 := fun vs tk => htim7 vs tk 5
  simp only [Nat.reduceAdd] at hi77 ht78
  have hS7 := same_ok (t := true) hu7 htu7
  have hp7 := get_lt r7.obj
  have ho7 := r7.obj
  have hg7 := get_el ho7 hp7
  obtain ⟨H8, v8, T8, I8, n1, n2, n3, n4⟩ := New_ok 512 (by omega) H7
  obtain ⟨u8, hu8, him8, _⟩ := n2.imm true
  have hi87 := fun vs tk => him8 vs tk 4
  simp only [Nat.reduceAdd] at hi87
  have hL8 := Len_ok (t := true) hu8
  have hp8 := get_lt n2.obj
  have ho8 := n2.obj
  have hg8 := get_el ho8 hp8
  simp only [Int.cast_ofNat_Int] at n1 hL8
  refine ⟨H8, ?_⟩
  simp [rpTail, ir_undertowlaw19_RelPairs, go_sem, alive19, hm.is, hm.rows, e641, hs2, hex2, d1, hs3, g1, litParts, ← hH4, j1, k1, ← hH7, hJn, hi77, ht78, hS7, ho7, hp7, hg7, n1, hi87, hL8, ho8, hp8, hg8, Len_nil, Add_nil, New_neg, New_big, nil_Has, nil_Pairs, nil_Close, nil_Order, nil_Fits, -Int.natCast_add]
section
variable (x : Nat) (lv mv : V) (l m : List (Int × Int)) (hl : Sl lv (pR l)) (hm : Sl mv (pR m)) (a b : Int)
include hl hm
theorem RelPairs_true : evI pg .val n_undertowlaw19_RelPairs [.int .u8 (x : Int), lv, mv, .int .i64 a, .int .i64 b] [] = some (.bool true, []) := by
  rw [s_fn fn_undertowlaw19_RelPairs]
  by_cases c1 : 400 < l.length
  · have c1' : (400 : Int) < (l.length : Int) := by omega
    simp [ir_undertowlaw19_RelPairs, go_sem, alive19, hl.is, hl.rows, pR_len, c1']
  by_cases c2 : 400 < m.length
  · have c1' : ¬ (400 : Int) < (l.length : Int) := by omega
    have c2' : (400 : Int) < (m.length : Int) := by omega
    simp [ir_undertowlaw19_RelPairs, go_sem, alive19, hl.is, hl.rows, hm.is, hm.rows, pR_len, c1', c2']
  have c1' : ¬ (400 : Int) < (l.length : Int) := by omega
  have c2' : ¬ (400 : Int) < (m.length : Int) := by omega
  obtain ⟨n, hn, en, en2⟩ : ∃ n : Nat, n < 100 ∧ IntKind.i64.wrap ((x : Int).tmod 100) = (n : Int) ∧ IntKind.i64.wrap ((x : Int) % 100) = (n : Int) := by
    refine ⟨x % 100, Nat.mod_lt _ (by omega), ?_, ?_⟩
    · rw [Int.tmod_eq_emod_of_nonneg (Int.natCast_nonneg _), wrap_i64 (by omega) (by omega)]; omega
    · rw [wrap_i64 (by omega) (by omega)]; omega
  have e64 : IntKind.i64.wrap (n : Int) = (n : Int) := wrap_i64 (by omega) (by omega)
  have e641 : IntKind.i64.wrap ((n : Int) + 1) = ((n + 1 : Nat) : Int) := by rw [wrap_i64 (by omega) (by omega)]; omega
  -- the first pair
  obtain ⟨H1, p, v, T, I, v2, T2, I2, b1, b2, b3⟩ := both_ok lv l hl (by omega) n (by omega) []
  obtain ⟨H8, htl⟩ := rp_tail n hn mv l m hm (by omega) H1 p v T I v2 T2 I2 b2
  rw [rp_body]
  revert htl
  generalize rpTail = B
  intro htl
  obtain ⟨u, hu, him, _⟩ := b2.rel.imm true
  obtain ⟨tu, htu, htim, _⟩ := MatAt.tabV b2.tab true
  have hi7 := fun vs tk => him vs tk 4
  have ht8 := fun vs tk => htim vs tk 5
  simp only [Nat.reduceAdd] at hi7 ht8
  have hS := same_ok (t := true) hu htu
  have hH1 := Has_ok (t := true) hu (-1) 0
  have hH2 := Has_ok (t := true) hu 0 (n : Int)
  have hH3 := Has_ok (t := true) hu a b
  have f1 : hasW n (relOf n l) (-1) 0 = false := by simp [hasW]
  have f2 : hasW n (relOf n l) 0 (n : Int) = false := by simp [hasW]
  rw [f1] at hH1
  rw [f2] at hH2
  have hp1 := get_lt b2.rel.obj
  have ho1 := b2.rel.obj
  have hg1 := get_el ho1 hp1
  have hs2 := MatAt.slot b2.tab
  have hex2 := (MatAt.exp b2.tab).1
  -- what the table has
  have hcmp : ∀ (ha : 0 ≤ a) (hb : 0 ≤ b) (ha' : a < n) (hb' : b < n), iaSV 1 ⟨[], [], H1⟩ v2 (.int .i64 a) = some (.ptr T2 a.toNat 0) ∧ evLoad false 1 ⟨[], [], H1⟩ (.ptr T2 a.toNat 0) = some (.rsl (I2 a.toNat) 0 n) ∧
      iaSV 1 ⟨[], [], H1⟩ (.rsl (I2 a.toNat) 0 n) (.int .i64 b) = some (.ptr (I2 a.toNat) b.toNat 0) ∧ evLoad false 1 ⟨[], [], H1⟩ (.ptr (I2 a.toNat) b.toNat 0) = some (.bool ((relOf n l a.toNat).testBit b.toNat)) := by
    intro ha hb ha' hb'
    obtain ⟨a, rfl⟩ : ∃ k : Nat, a = k := ⟨a.toNat, by omega⟩
    obtain ⟨b, rfl⟩ : ∃ k : Nat, b = k := ⟨b.toNat, by omega⟩
    obtain ⟨q1, q2⟩ := MatAt.ia b2.tab (a := a) (by omega) [] []
    obtain ⟨q3, q4⟩ := b2.tab.el (a := a) (b := b) (by omega) (by omega) [] []
    exact ⟨q1, q2 false rfl, q3, q4⟩
  generalize hasq : hasW n (relOf n l) a b = hq at *
  by_cases h1 : 0 ≤ a
  · by_cases h2 : a < n
    · by_cases h3 : 0 ≤ b
      · by_cases h4 : b < n
        · obtain ⟨z1, z2, z3, z4⟩ := hcmp h1 h3 h2 h4
          have hqq : hq = (relOf n l a.toNat).testBit b.toNat := by rw [← hasq]; simp [hasW, h1, h2, h3, h4]
          rw [← hqq] at z4
          simp [rpHead, ir_undertowlaw19_RelPairs, go_sem, alive19, hl.is, hl.rows, hm.is, hm.rows, pR_len, c1', c2', en, en2, b1, hi7, ht8, hS, hH1, hH2, hH3, ho1, hp1, hg1, hs2, hex2, z1, z2, z3, z4, h1, h2, h3, h4, htl, -Int.natCast_add]
        · have hqq : hq = false := by rw [← hasq]; simp [hasW, h4]
          subst hqq
          simp [rpHead, ir_undertowlaw19_RelPairs, go_sem, alive19, hl.is, hl.rows, hm.is, hm.rows, pR_len, c1', c2', en, en2, b1, hi7, ht8, hS, hH1, hH2, hH3, ho1, hp1, hg1, hs2, hex2, h1, h2, h3, h4, htl, -Int.natCast_add]
      · have hqq : hq = false := by rw [← hasq]; simp [hasW, h3]
        subst hqq
        simp [rpHead, ir_undertowlaw19_RelPairs, go_sem, alive19, hl.is, hl.rows, hm.is, hm.rows, pR_len, c1', c2', en, en2, b1, hi7, ht8, hS, hH1, hH2, hH3, ho1, hp1, hg1, hs2, hex2, h1, h2, h3, htl, -Int.natCast_add]
    · have hqq : hq = false := by rw [← hasq]; simp [hasW, h2]
      subst hqq
      simp [rpHead, ir_undertowlaw19_RelPairs, go_sem, alive19, hl.is, hl.rows, hm.is, hm.rows, pR_len, c1', c2', en, en2, b1, hi7, ht8, hS, hH1, hH2, hH3, ho1, hp1, hg1, hs2, hex2, h1, h2, htl, -Int.natCast_add]
  · have hqq : hq = false := by rw [← hasq]; simp [hasW, h1]
    subst hqq
    simp [rpHead, ir_undertowlaw19_RelPairs, go_sem, alive19, hl.is, hl.rows, hm.is, hm.rows, pR_len, c1', c2', en, en2, b1, hi7, ht8, hS, hH1, hH2, hH3, ho1, hp1, hg1, hs2, hex2, h1, htl, -Int.natCast_add]
end
theorem law_pairs : ∀ vs, PArgs Tryd.prog 8 Tryd.f4.params.toList vs → ∃ k, evF pg k .val 4 vs [] = some (.bool true, []) := by
  intro vs h
  obtain ⟨v1, _, rfl, h1, v2, _, rfl, h2, v3, _, rfl, h3, v4, _, rfl, h4, v5, _, rfl, h5, rfl⟩ := h
  obtain ⟨x, rfl, hx⟩ := arg_u8 Tryd.underlying5 h1
  obtain ⟨l, hl⟩ := arg_pairs (n := 5) h2
  obtain ⟨m, hm⟩ := arg_pairs (n := 5) h3
  obtain ⟨a, rfl, _⟩ := arg_i64 Tryd.underlying3 h4
  obtain ⟨b, rfl, _⟩ := arg_i64 Tryd.underlying3 h5
  exact (evI_iff (Go.Vm.hx _ _ _)).1 (RelPairs_true x v2 v3 l m hl hm a b)
end Go.Proofs.YtkjfedgjjgobaaaDoor
