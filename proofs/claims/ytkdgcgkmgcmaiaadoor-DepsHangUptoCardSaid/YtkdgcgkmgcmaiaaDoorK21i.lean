/- Layer 21: the relations that hang (no claim; lemmas). -/
import Derived.Test.YtkdgcgkmgcmaiaaDoorK21h
set_option linter.unusedSimpArgs false
set_option linter.unusedVariables false
namespace Go.Proofs.YtkdgcgkmgcmaiaaDoor
open Go Go.Vm

theorem New_over (n : Nat) (hn : 512 < n) (H : List Vm.Obj) : evI pg .heap n_rel_New [.int .i64 (n : Int)] H = some (.nilp, H) := by
  have h : (512 : Int) < (n : Int) := by omega
  rw [s_fn fn_rel_New]
  simp [ir_rel_New, go_sem, h]
section
variable {l : List In} {u : V} {f : Nat} {cs : List V} {CB : Nat → List Vm.Obj → Prop} {own : Nat → Prop} {D : Nat → Nat} (hu : Sl u (rtR l)) (hc : cs = [] ∨ ∃ c, cs = [.ptr c 0 0])
include hu hc
set_option maxRecDepth 100000 in
theorem along_ok (hl : l.length ≤ 512) (H : List Vm.Obj) (h0 : CB 0 H) (hown : ∀ o, own o → o < H.length)
  (hcb : ∀ x i (hi : i < l.length) H, ¬ own x → H[x]? = some (.arr [rc (rAt l i)]) → CB i H → ∃ H2, evI pg .heap f ([.int .i64 (i : Int), .agg (inV l[i]), .ptr x 0 0] ++ cs) H = some (.agg (wc (D i)), H2) ∧ CB (i + 1) H2 ∧ (∀ o, ¬ own o → H2[o]? = H[o]?))
  (hfr : ∀ i H H', (∀ o, own o → H'[o]? = H[o]?) → CB i H → CB i H') (hD : ∀ i, i < l.length → D i < 2 ^ i) :
    ∃ H' v T I, evI pg .heap n_deps_along [u, .fn f [] cs] H = some (.ptr H.length 0 0, H') ∧ RelAt H' H.length v l.length T I (aW D l.length) := by
  obtain ⟨H1, v, T, I, n1, n2, n3, n4⟩ := New_ok l.length hl H
  have hr1 := get_lt n2.obj
  have hrf : ∀ o, rft H.length l.length T I o → H.length ≤ o ∧ o < H1.length := fun o ho => ⟨by
    rcases ho with rfl | ho
    · exact Nat.le_refl _
    · exact Nat.le_of_lt (n4 o ho), n2.ftlt ho⟩
  have e2 : ∀ q, q < H1.length → (H1 ++ [Vm.Obj.arr [rc (fun _ => 0)]])[q]? = H1[q]? := fun q hq => List.getElem?_append_left hq
  obtain ⟨H', r1, r2⟩ := along_loop (r := H.length) (v := v) (T := T) (I := I) (x := H1.length) (f := f) hu hl hc (fun i hi H2 hx hC => hcb H1.length i hi H2 (fun ho => by have := hown _ ho; omega) hx hC) hfr (fun ho => by have := hown _ ho; omega)
    (fun o ho hw => by have := hrf o ho; have := hown o hw; omega) (fun ho => by have := hrf _ ho; omega) hD 0 (by omega) (H1 ++ [.arr [rc (fun _ => 0)]])
    (n2.frame fun o ho => e2 o (hrf o ho).2) (by simp [rAt]) (hfr 0 H _ (fun o ho => by have := hown o ho; rw [e2 o (by omega), n3 o this]) h0)
  refine ⟨H', v, T, I, ?_, r2⟩
  rw [Int.natCast_zero] at r1
  have hlen := rc_len (fun _ => 0)
  rw [s_fn fn_deps_along]
  simp only [ir_deps_along, ← rep256, rc_zero]
  generalize rc (fun _ => 0) = rcs at *
  rcases hc with rfl | ⟨c, rfl⟩
  · simp [go_sem, hu.is, hu.rows, rtR_len, n1, fill, V.cells, V.exp, hlen, r1, -List.length_replicate]
  · simp [go_sem, hu.is, hu.rows, rtR_len, n1, fill, V.cells, V.exp, hlen, r1, -List.length_replicate]
set_option maxRecDepth 100000 in
theorem along_over (hl : 512 < l.length) (H : List Vm.Obj) : evI pg .heap n_deps_along [u, .fn f [] cs] H = some (.nilp, H) := by
  have n1 := New_over l.length hl H
  rw [s_fn fn_deps_along]
  simp only [ir_deps_along, ← rep256, rc_zero]
  generalize rc (fun _ => 0) = rcs at *
  rcases hc with rfl | ⟨c, rfl⟩
  · simp [go_sem, hu.is, hu.rows, rtR_len, n1]
  · simp [go_sem, hu.is, hu.rows, rtR_len, n1]
end
/-- What is on the course of a place. -/
def cAt (l : List In) : Nat → Nat
  | 0 => 0
  | i + 1 => match l[i]? with
    | some y => cAt l i ||| if crs y.op then ofS (rAt l i) (srcs y) else 0
    | none => cAt l i
theorem cAt_succ {l : List In} {i : Nat} (h : i < l.length) : cAt l (i + 1) = (cAt l i ||| if crs l[i].op then ofS (rAt l i) (srcs l[i]) else 0) := by
  simp [cAt, h]
theorem cAt_lt (l : List In) : ∀ i, cAt l i < 2 ^ i
  | 0 => by simp [cAt]
  | i + 1 => by
    have ih : cAt l i < 2 ^ (i + 1) := lt_pow (cAt_lt l i) (by omega)
    unfold cAt
    cases l[i]? with
    | none => exact ih
    | some y =>
      refine Nat.or_lt_two_pow ih ?_
      cases crs y.op with
      | true => exact lt_pow (ofS_lt (rAt_lt l i) _) (by omega)
      | false => exact Nat.two_pow_pos _
/-- What is handed at each place. -/
def hA (l : List In) (i : Nat) : Nat := match l[i]? with
  | some y => dA (rAt l i) y
  | none => 0
def hD (l : List In) (i : Nat) : Nat := match l[i]? with
  | some y => dD (rAt l i) y
  | none => 0
theorem hA_lt (l : List In) (i : Nat) : hA l i < 2 ^ i := by
  unfold hA
  cases l[i]? with
  | none => exact Nat.two_pow_pos _
  | some y =>
    show dA (rAt l i) y < 2 ^ i
    unfold dA
    split
    · exact ofS_lt (rAt_lt l i) _
    · exact Nat.two_pow_pos _
theorem hD_lt (l : List In) (i : Nat) : hD l i < 2 ^ i := by
  unfold hD
  cases l[i]? with
  | none => exact Nat.two_pow_pos _
  | some y =>
    show dD (rAt l i) y < 2 ^ i
    unfold dD
    split
    · exact ofS_lt (rAt_lt l i) _
    · exact Nat.two_pow_pos _
section
variable {l : List In} {u : V} (hu : Sl u (rtR l))
include hu
theorem Address_ok (hl : l.length ≤ 512) : ∃ rv, evI pg .val n_deps_Address [u] [] = some (.ip false [rv] 0, []) ∧ RelV rv l.length (aW (hA l) l.length) := by
  obtain ⟨H', v, T, I, r1, r2⟩ := along_ok (f := n_deps_Address_1) (cs := []) (CB := fun _ _ => True) (own := fun _ => False) (D := hA l) hu (.inl rfl) hl [] trivial (fun _ h => h.elim)
    (fun x i hi H _ hx _ => ⟨H, by
      have h := Address_1_ok H x (rAt l i) (i : Int) l[i] hx
      have e : hA l i = dA (rAt l i) l[i] := by simp [hA, hi]
      rw [e, List.append_nil]; exact h, trivial, fun _ _ => rfl⟩) (fun _ _ _ _ h => h) (fun i _ => hA_lt l i)
  obtain ⟨w, w1, w2, w3⟩ := r2.imm false
  have w2 := fun vs tk => w2 vs tk 4
  have ho := r2.obj
  simp only [List.length_nil, Nat.reduceAdd] at r1 ho w2
  have hol := get_lt ho
  have hg := get_el ho hol
  refine ⟨w, ?_, w1⟩
  rw [s_fn fn_deps_Address]
  simp [ir_deps_Address, go_sem, hu.is, r1, ho, hol, hg, w2]
theorem Data_ok (hl : l.length ≤ 512) : ∃ rv, evI pg .val n_deps_Data [u] [] = some (.ip false [rv] 0, []) ∧ RelV rv l.length (aW (hD l) l.length) := by
  obtain ⟨H', v, T, I, r1, r2⟩ := along_ok (f := n_deps_Data_1) (cs := []) (CB := fun _ _ => True) (own := fun _ => False) (D := hD l) hu (.inl rfl) hl [] trivial (fun _ h => h.elim)
    (fun x i hi H _ hx _ => ⟨H, by
      have h := Data_1_ok H x (rAt l i) (i : Int) l[i] hx
      have e : hD l i = dD (rAt l i) l[i] := by simp [hD, hi]
      rw [e, List.append_nil]; exact h, trivial, fun _ _ => rfl⟩) (fun _ _ _ _ h => h) (fun i _ => hD_lt l i)
  obtain ⟨w, w1, w2, w3⟩ := r2.imm false
  have w2 := fun vs tk => w2 vs tk 4
  have ho := r2.obj
  simp only [List.length_nil, Nat.reduceAdd] at r1 ho w2
  have hol := get_lt ho
  have hg := get_el ho hol
  refine ⟨w, ?_, w1⟩
  rw [s_fn fn_deps_Data]
  simp [ir_deps_Data, go_sem, hu.is, r1, ho, hol, hg, w2]
theorem Course_ok (hl : l.length ≤ 512) : ∃ rv, evI pg .val n_deps_Course [u] [] = some (.ip false [rv] 0, []) ∧ RelV rv l.length (aW (cAt l) l.length) := by
  obtain ⟨H', v, T, I, r1, r2⟩ := along_ok (f := n_deps_Course_1) (cs := [.ptr 0 0 0]) (CB := fun i H => H[0]? = some (.arr [wc (cAt l i)])) (own := fun o => o = 0) (D := cAt l) hu (.inr ⟨0, rfl⟩) hl [.arr [wc 0]] rfl (fun o h => by subst h; simp)
    (fun x i hi H hxo hx hC => by
      obtain ⟨H2, g1, g2, g3⟩ := Course_1_ok H x (rAt l i) (i : Int) l[i] hx 0 (cAt l i) (fun e => hxo e.symm) hC
      refine ⟨H2, by simpa using g1, ?_, fun o ho => g3 o ho⟩
      rw [cAt_succ hi]; exact g2) (fun i H H' h1 h2 => by rw [h1 0 rfl]; exact h2) (fun i _ => cAt_lt l i)
  obtain ⟨w, w1, w2, w3⟩ := r2.imm false
  have w2 := fun vs tk => w2 vs tk 4
  have ho := r2.obj
  simp only [List.length_singleton, Nat.reduceAdd] at r1 ho w2
  have hol := get_lt ho
  have hg := get_el ho hol
  refine ⟨w, ?_, w1⟩
  rw [s_fn fn_deps_Course]
  simp only [ir_deps_Course, ← wc_zero]
  generalize wc 0 = c0 at *
  simp [go_sem, hu.is, r1, ho, hol, hg, w2]
theorem Address_over (hl : 512 < l.length) : evI pg .val n_deps_Address [u] [] = some (.nilp, []) := by
  have r1 := along_over (f := n_deps_Address_1) (cs := []) hu (.inl rfl) hl []
  rw [s_fn fn_deps_Address]
  simp [ir_deps_Address, go_sem, hu.is, r1]
theorem Data_over (hl : 512 < l.length) : evI pg .val n_deps_Data [u] [] = some (.nilp, []) := by
  have r1 := along_over (f := n_deps_Data_1) (cs := []) hu (.inl rfl) hl []
  rw [s_fn fn_deps_Data]
  simp [ir_deps_Data, go_sem, hu.is, r1]
theorem Course_over (hl : 512 < l.length) : evI pg .val n_deps_Course [u] [] = some (.nilp, []) := by
  have r1 := along_over (f := n_deps_Course_1) (cs := [.ptr 0 0 0]) hu (.inr ⟨0, rfl⟩) hl [.arr [wc 0]]
  rw [s_fn fn_deps_Course]
  simp only [ir_deps_Course, ← wc_zero]
  generalize wc 0 = c0 at *
  simp [go_sem, hu.is, r1]
end
end Go.Proofs.YtkdgcgkmgcmaiaaDoor
