/- Layer 12: a new memory of the program, and what it is asked for (no claim; lemmas). -/
import Derived.Test.YtbloiihagbcfpaaK12d
set_option linter.unusedSimpArgs false
set_option linter.unusedVariables false
namespace Go.Proofs.Ytbloiihagbcfpaa
open Go Go.Vm

theorem byV_flat (l : List Nat) : flatAll (byV l) = true := by simp [flatAll, byV, V.flat]
theorem byV_same (l : List Nat) (m : Mem) (t : Bool) (d : Nat) : omap2 (toImm m t (d + 1)) (byV l) = some (byV l) := omap2_same fun q hq x hx => byV_plain l q hq x hx _ _ _
theorem CloneB_val (v : V) (l : List Nat) (h : Sl v (byV l)) (hn : l.length ≤ 140737488355328) : evI pg .val n_slices_Clone_byte_byte [v] [] = some (cpV v (byV l), []) := by
  rw [s_fn fn_slices_Clone_byte_byte]
  rcases h.nil with ⟨he, rfl⟩ | hnil
  · simp [ir_slices_Clone_byte_byte, go_sem, ils, cpV]
  · have hv : v ≠ .nils := by rintro rfl; cases hnil
    have e : cpV v (byV l) = if (byV l).isEmpty then .emp else .isl false (byV l) := by unfold cpV; split <;> first | exact absurd rfl hv | rfl
    rw [e]
    cases l with
    | nil =>
      have h' : Sl v [] := h
      simp [ir_slices_Clone_byte_byte, go_sem, hnil, appV, h'.is, h'.rows, ils, litParts]
      simp [byV]
    | cons x l =>
      have hf : fits 1 (l.length + 1) = true := fits_of (by omega) (by simpa using hn)
      have hb := byV_same (x :: l) ⟨[], [], [.arr (byV (x :: l))]⟩ false 6
      have hs := byV_sz (x :: l)
      have hfl := byV_flat (x :: l)
      have hl : (byV (x :: l)).length = l.length + 1 := by simp [byV]
      have hem : (byV (x :: l)).isEmpty = false := rfl
      revert hb hs hfl hl hem
      have hh := h
      revert hh
      generalize byV (x :: l) = es
      intro hh hb hs hfl hl hem
      have ht : es.take (l.length + 1) = es := List.take_of_length_le (by omega)
      simp [ir_slices_Clone_byte_byte, go_sem, hnil, appV, hh.is, hh.rows, hf, hb, hs, hfl, hl, hem, ht, litParts]
theorem CloneB_heap (v : V) (l : List Nat) (h : Sl v (byV l)) (hn : l.length ≤ 140737488355328) (H : List Vm.Obj) :
    ∃ u H', evI pg .heap n_slices_Clone_byte_byte [v] H = some (u, H') ∧ Ow H' u (byV l) ∧ Frm H H' (fun _ => False) ∧ (∀ id, vid u = some id → H.length ≤ id) := by
  rcases h.nil with ⟨he, rfl⟩ | hnil
  · refine ⟨.nils, H, ?_, ?_, ⟨fun _ _ h _ => h, Nat.le_refl _⟩, fun id h => by cases h⟩
    · rw [s_fn fn_slices_Clone_byte_byte]
      simp [ir_slices_Clone_byte_byte, go_sem, ils, cpV]
    · rw [he]; exact .nils
  · have hv : v ≠ .nils := by rintro rfl; cases hnil
    cases l with
    | nil =>
      have h' : Sl v [] := h
      refine ⟨.emp, H, ?_, .emp, ⟨fun _ _ h _ => h, Nat.le_refl _⟩, fun id h => by cases h⟩
      rw [s_fn fn_slices_Clone_byte_byte]
      simp [ir_slices_Clone_byte_byte, go_sem, hnil, appV, h'.is, h'.rows, ils, litParts]
    | cons x l =>
      have hf : fits 1 (l.length + 1) = true := fits_of (by omega) (by simpa using hn)
      refine ⟨.rsl H.length 0 (byV (x :: l)).length, H ++ [.arr (byV (x :: l))], ?_, .rsl _ _ (by simp) (by simp [byV]), ⟨fun id o ho _ => ?_, by simp⟩, fun id h => ?_⟩
      · have hs := byV_sz (x :: l)
        have hfl := byV_flat (x :: l)
        have hl : (byV (x :: l)).length = l.length + 1 := by simp [byV]
        have hem : (byV (x :: l)).isEmpty = false := rfl
        revert hs hfl hl hem
        have hh := h
        revert hh
        generalize byV (x :: l) = es
        intro hh hs hfl hl hem
        have hne : es ≠ [] := by intro e; rw [e] at hem; cases hem
        rw [s_fn fn_slices_Clone_byte_byte]
        simp [ir_slices_Clone_byte_byte, go_sem, hnil, appV, hh.is, hh.rows, hf, hs, hfl, hl, hem, hne, litParts]
      · rw [List.getElem?_append_left (get_lt ho)]; exact ho
      · cases h; exact Nat.le_refl _

/-! ### what it is asked for -/
section
variable {H : List Vm.Obj} {t : Bool} {bv tv lv : V} {bytes : List Nat} {tags : List Int} {log : List Wr} {r : P3}
theorem Bytes_ok' (hb : Sl bv (byV bytes)) (hL : bytes.length ≤ 1024) (cs : List V) : evI pg .val n_ram_Ram_Bytes [.ip t (bv :: cs) 0] [] = some (cpV bv (byV bytes), []) := by
  have hc := CloneB_val bv bytes hb (by omega)
  have hs := (cpV_sl bv _ hb).is
  rw [s_fn fn_ram_Ram_Bytes]
  simp [ir_ram_Ram_Bytes, go_sem, hb.is, hc, hs]
theorem Tags_ok' (ht : Sl tv (iI tags)) (hL : tags.length ≤ 1024) (cs : List V) : evI pg .val n_ram_Ram_Tags [.ip t (bv :: tv :: cs) 0] [] = some (cpV tv (iI tags), []) := by
  have hc := CloneI_ok tv (iI tags) ht (by simp [immAll, iI, V.imm]) (by simp [szAll, iI]) (by rw [iI_len]; omega)
  have hs := (cpV_sl tv _ ht).is
  rw [s_fn fn_ram_Ram_Tags]
  simp [ir_ram_Ram_Tags, go_sem, ht.is, hc, hs]
theorem Log_ok' (hl : Sl lv (wsV log)) (hL : log.length ≤ 1000000) (cs : List V) : evI pg .val n_ram_Ram_Log [.ip t (bv :: tv :: lv :: cs) 0] [] = some (cpV lv (wsV log), []) := by
  have hc := CloneW_ok lv (wsV log) hl (wsV_imm _) (wsV_szAll _) (by rw [wsV_len]; omega)
  have hs := (cpV_sl lv _ hl).is
  rw [s_fn fn_ram_Ram_Log]
  simp [ir_ram_Ram_Log, go_sem, hl.is, hc, hs]
theorem Bytes_nil : evI pg .val n_ram_Ram_Bytes [.nilp] [] = some (.nils, []) := closed irL_ok 50 (by kernel_rfl)
theorem Tags_nil : evI pg .val n_ram_Ram_Tags [.nilp] [] = some (.nils, []) := closed irL_ok 50 (by kernel_rfl)
theorem Log_nil : evI pg .val n_ram_Ram_Log [.nilp] [] = some (.nils, []) := closed irL_ok 50 (by kernel_rfl)

def piece {α : Type} (l : List α) (a n : Nat) : List α := (l.take (a + n)).drop a
theorem byV_piece (l : List Nat) (a n : Nat) : ((byV l).take (a + n)).drop a = byV (piece l a n) := by simp [byV, piece, List.map_take, List.map_drop]
theorem iI_piece (l : List Int) (a n : Nat) : ((iI l).take (a + n)).drop a = iI (piece l a n) := by simp [iI, piece, List.map_take, List.map_drop]
theorem piece_len {α : Type} (l : List α) (a n : Nat) (h : a + n ≤ l.length) : (piece l a n).length = n := by simp [piece]; omega
theorem Load_no (hb : Sl bv (byV bytes)) (hL : bytes.length ≤ 1024) (ht : isS tv = true) (hl : isS lv = true) (a n : Int) (hno : mayB bytes.length a n = false) :
    evI pg .val n_ram_Ram_Load [.ip t (rmC bv tv lv r) 0, .int .i64 a, .int .i64 n] [] = some (.tup [.int .u64 0, .nils, .bool false], []) := by
  have hm := may_ok t bv (byV bytes) hb (by rw [byV_len]; omega) [tv, lv, .int .i64 r.a0, .int .i64 r.n0, .int .i64 r.a1, .int .i64 r.n1, .int .i64 r.a2, .int .i64 r.n2] a n
  rw [byV_len, hno] at hm
  rw [s_fn fn_ram_Ram_Load]
  unfold rmC
  simp [ir_ram_Ram_Load, go_sem, hm, hb.is, ht, hl]
theorem Load_yes (hb : Sl bv (byV bytes)) (hL : bytes.length ≤ 1024) (hby : ∀ x ∈ bytes, x < 256) (ht : Sl tv (iI tags)) (hlt : tags.length = bytes.length) (hl : isS lv = true) (a n : Nat) (hyes : mayB bytes.length a n = true) :
    evI pg .val n_ram_Ram_Load [.ip t (rmC bv tv lv r) 0, .int .i64 (a : Int), .int .i64 (n : Int)] [] = some (.tup [.int .u64 ((ofN (piece bytes a n) : Nat) : Int), .isl false (iI (piece tags a n)), .bool true], []) := by
  have hm := may_ok t bv (byV bytes) hb (by rw [byV_len]; omega) [tv, lv, .int .i64 r.a0, .int .i64 r.n0, .int .i64 r.a1, .int .i64 r.n1, .int .i64 r.a2, .int .i64 r.n2] a n
  rw [byV_len, hyes] at hm
  obtain ⟨h1, h2, h3⟩ := mayB_n hyes
  obtain ⟨u, u1, u2⟩ := hb.slc (sz := 1) ⟨[], [], []⟩ (some (.int .i64 (a : Int))) (some (.int .i64 ((a + n : Nat) : Int))) (l := a) (k := a + n) (by omega) (byV_one _) (bnd_nat (by omega) (by rw [byV_len]; omega))
  obtain ⟨x, x1, x2⟩ := ht.slc (sz := 1) ⟨[], [], []⟩ (some (.int .i64 (a : Int))) (some (.int .i64 ((a + n : Nat) : Int))) (l := a) (k := a + n) (by omega) (iI_one _) (bnd_nat (by omega) (by rw [iI_len]; omega))
  rw [byV_piece] at u2
  rw [iI_piece] at x2
  have hO := Of_ok u (piece bytes a n) u2 (fun b hb' => hby b (List.mem_of_mem_take (List.mem_of_mem_drop hb'))) (by rw [piece_len _ _ _ (by omega)]; omega)
  rw [List.take_of_length_le (by rw [piece_len _ _ _ (by omega)]; omega)] at hO
  have hC := CloneI_ok x (iI (piece tags a n)) x2 (by simp [immAll, iI, V.imm]) (by simp [szAll, iI]) (by rw [iI_len, piece_len _ _ _ (by omega)]; omega)
  have hne : iI (piece tags a n) ≠ [] := by
    intro e
    have : (iI (piece tags a n)).length = 0 := by rw [e]; rfl
    rw [iI_len, piece_len _ _ _ (by omega)] at this
    omega
  have hcp : cpV x (iI (piece tags a n)) = .isl false (iI (piece tags a n)) := by
    unfold cpV
    split
    · rw [x2.rows.symm] at hne; exact absurd rfl hne
    · rw [if_neg (by simpa using hne)]
  rw [hcp] at hC
  have e1 : IntKind.i64.wrap ((a : Int) + (n : Int)) = ((a + n : Nat) : Int) := by rw [wrap_i64 (by omega) (by omega)]; rfl
  rw [s_fn fn_ram_Ram_Load]
  unfold rmC
  simp [ir_ram_Ram_Load, go_sem, hm, hb.is, hb.rows, ht.is, ht.rows, u2.is, x2.is, hl, e1, u1, x1, hO, hC, -Int.natCast_add]
theorem Load_nil (a n : Int) : evI pg .val n_ram_Ram_Load [.nilp, .int .i64 a, .int .i64 n] [] = some (.tup [.int .u64 0, .nils, .bool false], []) := by
  have hm := may_nil a n
  rw [s_fn fn_ram_Ram_Load]
  simp [ir_ram_Ram_Load, go_sem, hm]
end

/-! ### a new one -/
def z3 : P3 := ⟨0, 0, 0, 0, 0, 0⟩
theorem tag_app {H : List Vm.Obj} {tv : V} {l : List Int} (h : Ow H tv (iI l)) (x : Int) (hl : l.length ≤ 2000) (vs : List (List V)) (tk : List Nat) :
    ∃ H', appV 0 1 8 ⟨vs, tk, H⟩ tv (.els [[.int .i64 x]]) = some (.rsl H.length 0 (l.length + 1), ⟨vs, tk, H'⟩) ∧ H'[H.length]? = some (.arr (iI (l ++ [x]))) ∧
      (∀ id o, H[id]? = some o → vid tv ≠ some id → H'[id]? = some o) ∧ H'.length = H.length + 1 := by
  generalize hes : iI l = es at h
  have emp : ∀ v, (v = .nils ∨ v = .emp) → es = [] → ∃ H', appV 0 1 8 ⟨vs, tk, H⟩ v (.els [[.int .i64 x]]) = some (.rsl H.length 0 (l.length + 1), ⟨vs, tk, H'⟩) ∧ H'[H.length]? = some (.arr (iI (l ++ [x]))) ∧
      (∀ id o, H[id]? = some o → vid v ≠ some id → H'[id]? = some o) ∧ H'.length = H.length + 1 := by
    intro v hv he
    have hl0 : l = [] := by rw [he] at hes; simpa [iI] using hes
    subst hl0
    refine ⟨H ++ [.arr [[.int .i64 x]]], ?_, by simp [iI], fun id o ho _ => by rw [List.getElem?_append_left (get_lt ho)]; exact ho, by simp⟩
    rcases hv with rfl | rfl <;> simp [appV, srcV, fits, maxB, szAll, flatAll, V.flat]
  cases h with
  | nils => exact emp _ (.inl rfl) rfl
  | emp => exact emp _ (.inr rfl) rfl
  | rsl id es h hne =>
    have hlen : es.length = l.length := by rw [← hes, iI_len]
    have hpos : 0 < es.length := List.length_pos_iff.2 hne
    have hf : fits 8 (es.length + 1) = true := fits_of (by omega) (by omega)
    have hidl := get_lt h
    have hs : szAll 1 (es ++ [[.int .i64 x]]) = true := by rw [← hes]; simp [szAll, iI]
    refine ⟨H.set id .dead ++ [.arr (es ++ [[.int .i64 x]])], ?_, ?_, fun i o ho hv => ?_, by simp⟩
    · rw [← hlen]
      simp [appV, srcV, h, hf, hs, flatAll, V.flat, hpos, hne]
      intro h9
      omega
    · rw [List.getElem?_append_right (by simp)]
      rw [← hes]
      simp [iI]
    · have : id ≠ i := fun e => hv (by rw [e]; rfl)
      rw [List.getElem?_append_left (by simpa using get_lt ho)]
      simp [this, ho]
theorem New_loop (p n : Nat) (bv : V) (hn : n ≤ 1024) (i : Nat) (hi : i ≤ n) (H : List Vm.Obj) (tv : V) (hp : H[p]? = some (.arr [rmC bv tv .nils z3])) (ht : Ow H tv (iI (List.replicate i (-1)))) (hv : vid tv ≠ some p) :
    ∃ H' tv', evCI pg (.loop ir_ram_Newl0) ⟨[.undef, .undef, .ptr p 0 0, .int .i64 (n : Int), .int .i64 (i : Int), .undef], ⟨[], [], H⟩⟩ =
      some (.exit 0, ⟨[.undef, .undef, .ptr p 0 0, .int .i64 (n : Int), .int .i64 (n : Int), .bool false], ⟨[], [], H'⟩⟩) ∧
      H'[p]? = some (.arr [rmC bv tv' .nils z3]) ∧ Ow H' tv' (iI (List.replicate n (-1))) ∧ Frm H H' (fun id => id = p ∨ vid tv = some id) ∧ (∀ id, vid tv' = some id → vid tv = some id ∨ H.length ≤ id) := by
  by_cases c : i < n
  · obtain ⟨H1, a1, a2, a3, a4⟩ := tag_app ht (-1) (by simp; omega) [] []
    have hp1 := a3 p _ hp hv
    have hpl := get_lt hp
    have hp1l := get_lt hp1
    have e6 : IntKind.i64.wrap ((i : Int) + 1) = ((i + 1 : Nat) : Int) := by rw [wrap_i64 (by omega) (by omega)]; rfl
    have hpn : p ≠ H.length := by omega
    have hrow : Ow (H1.set p (.arr [rmC bv (.rsl H.length 0 (i + 1)) .nils z3])) (.rsl H.length 0 (i + 1)) (iI (List.replicate (i + 1) (-1))) := by
      have := Ow.rsl (H := H1.set p (.arr [rmC bv (.rsl H.length 0 (i + 1)) .nils z3])) H.length (iI (List.replicate (i + 1) (-1))) (by
        rw [List.getElem?_set_ne hpn, a2, List.replicate_succ']) (by simp [iI, List.replicate_succ])
      rw [iI_len, List.length_replicate] at this
      exact this
    obtain ⟨H', tv', b1, b2, b3, b4, b5⟩ := New_loop p n bv hn (i + 1) (by omega) (H1.set p (.arr [rmC bv (.rsl H.length 0 (i + 1)) .nils z3])) (.rsl H.length 0 (i + 1)) (by simp [hp1l]) hrow (by simp [vid]; omega)
    obtain ⟨B, hB⟩ : ∃ B, B = C.loop ir_ram_Newl0 := ⟨_, rfl⟩
    rw [← hB] at b1
    simp only [List.length_replicate] at a1
    refine ⟨H', tv', ?_, b2, b3, ⟨fun id o ho hf => b4.get id o ?_ ?_, ?_⟩, fun id hid => ?_⟩
    · rw [← hB, s_loop_at hB]
      unfold rmC z3 at *
      simp [ir_ram_Newl0, go_sem, c, get_el hp, get_el hp1, hpl, hp1l, litParts, a1, e6, b1, -Int.natCast_add]
    · have h1 : id ≠ p := fun e => hf (.inl e)
      rw [List.getElem?_set_ne (Ne.symm h1)]
      exact a3 id o ho fun e => hf (.inr e)
    · rintro (h | h)
      · exact hf (.inl h)
      · simp only [vid, Option.some.injEq] at h
        have := get_lt ho
        omega
    · have := b4.len
      simp at this; omega
    · rcases b5 id hid with h | h
      · simp only [vid, Option.some.injEq] at h
        right; omega
      · simp at h; right; omega
  · obtain rfl : i = n := by omega
    refine ⟨H, tv, ?_, hp, ht, ⟨fun id o ho _ => ho, Nat.le_refl _⟩, fun id h => .inl h⟩
    rw [s_loop]
    simp [ir_ram_Newl0, go_sem]
termination_by n - i
theorem New_ok {v : V} {img : List Nat} (h : Sl v (byV img)) (hb : ∀ x ∈ img, x < 256) (hn : img.length ≤ 140737488355328) (H : List Vm.Obj) :
    ∃ p bv tv H', evI pg .heap n_ram_New [v] H = some (.ptr p 0 0, H') ∧ RmAt H' p bv tv .nils (img.take 1024) (List.replicate (min img.length 1024) (-1)) [] z3 ∧
      Frm H H' (fun _ => False) ∧ H.length ≤ p ∧ (∀ id, foot p bv tv .nils id → H.length ≤ id) := by
  have emin : (if (1024 : Int) < (img.length : Int) then (1024 : Int) else (img.length : Int)) = ((min img.length 1024 : Nat) : Int) := by split <;> omega
  obtain ⟨u, u1, u2⟩ := h.slc (sz := 1) ⟨[], [], H⟩ none (some (.int .i64 ((min img.length 1024 : Nat) : Int))) (l := 0) (k := min img.length 1024) (by omega) (byV_one _) (bnd_hi (by rw [byV_len]; omega))
  have et : ((byV img).take (min img.length 1024)).drop 0 = byV (img.take 1024) := by
    rw [List.drop_zero]
    unfold byV
    rw [← List.map_take]
    congr 1
    by_cases hc : img.length ≤ 1024
    · rw [List.take_of_length_le hc, List.take_of_length_le (by omega)]
    · rw [show min img.length 1024 = 1024 by omega]
  rw [et] at u2
  obtain ⟨bv, H1, c1, c2, c3, c4⟩ := CloneB_heap u (img.take 1024) u2 (by simp; omega) H
  have hlen : (img.take 1024).length = min img.length 1024 := by simp; omega
  have hbl : lenV bv = some (min img.length 1024) := by rw [c2.len, byV_len, hlen]
  have hbf : bv.flat = true := c2.flat
  have hbc : bv.cells = [bv] := flat_cells hbf
  have hbe : bv.exp = some bv := c2.exp
  have hp2 : (H1 ++ [.arr [rmC bv .nils .nils z3]])[H1.length]? = some (.arr [rmC bv .nils .nils z3]) := by simp
  obtain ⟨H', tv, l1, l2, l3, l4, l5⟩ := New_loop H1.length (min img.length 1024) bv (by omega) 0 (by omega) (H1 ++ [.arr [rmC bv .nils .nils z3]]) .nils hp2 .nils (by simp [vid])
  have hbid : ∀ id, vid bv = some id → id < H1.length := by
    intro id hid
    exact c2.vlt hid
  have fr : ∀ (id : Nat) (o : Vm.Obj), H1[id]? = some o → H'[id]? = some o := by
    intro id o ho
    have hl := get_lt ho
    refine l4.get id o ?_ ?_
    · rw [List.getElem?_append_left hl]; exact ho
    · rintro (h | h)
      · omega
      · cases h
  have hll := l4.len
  simp at hll
  refine ⟨H1.length, bv, tv, H', ?_, ⟨l2, c2.frame fun id o _ ho => fr id o ho, l3, .nils, by simp; omega, by simp; omega, fun x hx => hb x (List.mem_of_mem_take hx)⟩,
    Frm.mk (fun id o ho _ => fr id o (c3.get id o ho (by simp))) (by have := c3.len; omega), c3.len, ?_⟩
  · rw [s_fn fn_ram_New]
    unfold rmC z3 at *
    have e0 : ((0 : Nat) : Int) = 0 := rfl
    rw [e0] at l1
    simp [ir_ram_New, go_sem, h.is, h.rows, byV_len, emin, u1, u2.is, c1, hbl, hbf, hbc, hbe, l1]
  · intro id hid
    have := c3.len
    rcases hid with rfl | hid | hid | hid
    · exact c3.len
    · exact c4 id hid
    · rcases l5 id hid with h9 | h9
      · cases h9
      · simp at h9; omega
    · cases hid
end Go.Proofs.Ytbloiihagbcfpaa
