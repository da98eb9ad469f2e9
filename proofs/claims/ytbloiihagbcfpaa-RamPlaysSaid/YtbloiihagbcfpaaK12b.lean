/- Layer 12: the program's memory, written (no claim; lemmas). -/
import Derived.Test.YtbloiihagbcfpaaK12a
set_option linter.unusedSimpArgs false
set_option linter.unusedVariables false
namespace Go.Proofs.Ytbloiihagbcfpaa
open Go Go.Vm

theorem get_lt {H : List Vm.Obj} {p : Nat} {o : Vm.Obj} (h : H[p]? = some o) : p < H.length := (List.getElem?_eq_some_iff.1 h).1
theorem get_el {H : List Vm.Obj} {p : Nat} {o : Vm.Obj} (h : H[p]? = some o) (hl : p < H.length) : H[p] = o := (List.getElem?_eq_some_iff.1 h).2
theorem set_get {H : List Vm.Obj} {p : Nat} {o : Vm.Obj} (h : H[p]? = some o) : H.set p o = H := by
  apply List.ext_getElem?
  intro i
  by_cases e : p = i
  · subst e; rw [h]; simp [get_lt h]
  · simp [e]
/-- Whose object a slice is. -/
def vid : V → Option Nat
  | .rsl id _ _ => some id
  | .osl true j _ => some j
  | _ => none
theorem Ow.frame {H H' : List Vm.Obj} {v : V} {es : List (List V)} (h : Ow H v es) (hf : ∀ id o, vid v = some id → H[id]? = some o → H'[id]? = some o) : Ow H' v es := by
  cases h with
  | nils => exact .nils
  | emp => exact .emp
  | rsl id es h hne => exact .rsl id es (hf id _ rfl h) hne
theorem Lg.frame {H H' : List Vm.Obj} {v : V} {es : List (List V)} (h : Lg H v es) (hf : ∀ id o, vid v = some id → H[id]? = some o → H'[id]? = some o) : Lg H' v es := by
  cases h with
  | nils => exact .nils
  | tok j es h hne => exact .tok j es (hf j _ rfl h) hne
theorem Ow.exp {H : List Vm.Obj} {v : V} {es : List (List V)} (h : Ow H v es) : v.exp = some v := by cases h <;> rfl
theorem Ow.vlt {H : List Vm.Obj} {v : V} {es : List (List V)} (h : Ow H v es) {id : Nat} (hid : vid v = some id) : id < H.length := by
  cases h with
  | nils => cases hid
  | emp => cases hid
  | rsl id es h hne => cases hid; exact get_lt h
theorem Lg.vlt {H : List Vm.Obj} {v : V} {es : List (List V)} (h : Lg H v es) {id : Nat} (hid : vid v = some id) : id < H.length := by
  cases h with
  | nils => cases hid
  | tok j es h hne => cases hid; exact get_lt h
/-- Rows of one cell. -/
def One (es : List (List V)) : Prop := ∀ e ∈ es, e.length = 1
theorem byV_one (l : List Nat) : One (byV l) := by intro e he; obtain ⟨n, _, rfl⟩ := List.mem_map.1 he; rfl
theorem iI_one (l : List Int) : One (iI l) := by intro e he; obtain ⟨n, _, rfl⟩ := List.mem_map.1 he; rfl

/-- A memory that stands somewhere. -/
structure RmAt (H : List Vm.Obj) (p : Nat) (bv tv lv : V) (bytes : List Nat) (tags : List Int) (log : List Wr) (r : P3) : Prop where
  obj : H[p]? = some (.arr [rmC bv tv lv r])
  b : Ow H bv (byV bytes)
  t : Ow H tv (iI tags)
  l : Lg H lv (wsV log)
  lt : tags.length = bytes.length
  le : bytes.length ≤ 1024
  by_ : ∀ x ∈ bytes, x < 256
theorem RmAt.bne {H : List Vm.Obj} {p : Nat} {bv tv lv : V} {bytes : List Nat} {tags : List Int} {log : List Wr} {r : P3} (h : RmAt H p bv tv lv bytes tags log r) :
    vid bv ≠ some p ∧ vid tv ≠ some p ∧ vid lv ≠ some p := by
  have one : ∀ {v : V} {es : List (List V)} {n : Nat}, Ow H v es → (∀ e ∈ es, e.length = n) → n ≠ 9 → vid v ≠ some p := by
    intro v es n hv h1 hn hp
    have hob := h.obj
    cases hv with
    | nils => cases hp
    | emp => cases hp
    | rsl id es hid hne =>
      cases hp
      rw [hob] at hid
      simp only [Option.some.injEq, Vm.Obj.arr.injEq] at hid
      have := h1 (rmC bv tv lv r) (by rw [← hid]; simp)
      simp [rmC] at this
      omega
  refine ⟨one h.b (byV_one _) (by omega), one h.t (iI_one _) (by omega), fun hp => ?_⟩
  have hl := h.l
  have hob := h.obj
  generalize wsV log = es at hl
  cases hl with
  | nils => cases hp
  | tok j es hj hne =>
    cases hp
    rw [hob] at hj
    cases hj
/-- Its places are turned. -/
theorem RmAt.put {H : List Vm.Obj} {p : Nat} {bv tv lv : V} {bytes : List Nat} {tags : List Int} {log : List Wr} {r : P3} (h : RmAt H p bv tv lv bytes tags log r) (r' : P3) :
    RmAt (H.set p (.arr [rmC bv tv lv r'])) p bv tv lv bytes tags log r' := by
  obtain ⟨n1, n2, n3⟩ := h.bne
  have hf : ∀ {v : V}, vid v ≠ some p → ∀ id o, vid v = some id → H[id]? = some o → (H.set p (.arr [rmC bv tv lv r']))[id]? = some o := by
    intro v hv id o hid ho
    have : p ≠ id := fun e => hv (by rw [hid, e])
    simp [this, ho]
  exact ⟨by simp [get_lt h.obj], h.b.frame (hf n1), h.t.frame (hf n2), h.l.frame (hf n3), h.lt, h.le, h.by_⟩
theorem Drop_ok {H : List Vm.Obj} {p : Nat} {bv tv lv : V} {r : P3} (hp : H[p]? = some (.arr [rmC bv tv lv r])) (h : Int) :
    evI pg .heap n_ram_Ram_Drop [.ptr p 0 0, .int .i64 h] H = some (.tup [], if isH h then H.set p (.arr [rmC bv tv lv (r.put h 0 0)]) else H) := by
  have hH := isHart_ok h
  rw [s_fn fn_ram_Ram_Drop]
  cases hq : isH h with
  | false =>
    rw [hq] at hH
    simp [ir_ram_Ram_Drop, go_sem, hH]
  | true =>
    rw [hq] at hH
    rcases isH_three hq with rfl | rfl | rfl <;>
      simp [ir_ram_Ram_Drop, go_sem, hH, hp, rmC, P3.put]
theorem Drop_nil (h : Int) (H : List Vm.Obj) : evI pg .heap n_ram_Ram_Drop [.nilp, .int .i64 h] H = some (.tup [], H) := by
  rw [s_fn fn_ram_Ram_Drop]
  simp [ir_ram_Ram_Drop, go_sem]
theorem Reserve_ok {H : List Vm.Obj} {p : Nat} {bv tv lv : V} {bytes : List Nat} {tags : List Int} {log : List Wr} {r : P3} (hr : RmAt H p bv tv lv bytes tags log r) (h a n : Int) :
    evI pg .heap n_ram_Ram_Reserve [.ptr p 0 0, .int .i64 h, .int .i64 a, .int .i64 n] H =
      some (.bool (mayB bytes.length a n && isH h), if mayB bytes.length a n && isH h then H.set p (.arr [rmC bv tv lv (r.put h a n)]) else H) := by
  have hH := isHart_ok h
  obtain ⟨bu, b1, b2⟩ := hr.b.imm (byV_plain _)
  obtain ⟨tu, t1, t2⟩ := hr.t.imm (iI_plain _)
  obtain ⟨lu, l1, l2⟩ := hr.l.imm
  have hm := may_ok true bu (byV bytes) b1 (by rw [byV_len]; have := hr.le; omega) [tu, lu, .int .i64 r.a0, .int .i64 r.n0, .int .i64 r.a1, .int .i64 r.n1, .int .i64 r.a2, .int .i64 r.n2] a n
  rw [byV_len] at hm
  have hp := hr.obj
  rw [s_fn fn_ram_Ram_Reserve]
  unfold rmC at hp ⊢
  cases hq : mayB bytes.length a n with
  | false =>
    rw [hq] at hm
    simp [ir_ram_Ram_Reserve, go_sem, hm, hp, b2, t2, l2]
  | true =>
    rw [hq] at hm
    cases hq2 : isH h with
    | false =>
      rw [hq2] at hH
      simp [ir_ram_Ram_Reserve, go_sem, hm, hH, hp, b2, t2, l2]
    | true =>
      rw [hq2] at hH
      rcases isH_three hq2 with rfl | rfl | rfl <;>
        simp [ir_ram_Ram_Reserve, go_sem, hm, hH, hp, b2, t2, l2, P3.put]
theorem Reserve_nil (h a n : Int) (H : List Vm.Obj) : evI pg .heap n_ram_Ram_Reserve [.nilp, .int .i64 h, .int .i64 a, .int .i64 n] H = some (.bool false, H) := by
  have hm := may_nil a n
  rw [s_fn fn_ram_Ram_Reserve]
  simp [ir_ram_Ram_Reserve, go_sem, hm]
end Go.Proofs.Ytbloiihagbcfpaa
