/- The program's memory and the document's, made of the same image and handed the same acts, answer alike and are the same at the end: the law RamPlays returns true whatever it is handed. No condition. -/
import Derived.Test.YtbloiihagbcfpaaK12j
set_option linter.unusedSimpArgs false
set_option linter.unusedVariables false
set_option linter.unusedSectionVars false
namespace Go.Proofs.Ytbloiihagbcfpaa
open Go Go.Vm

theorem ils_clean7' (l : List Int) : clean 7 (.isl false (iI l)) = true := by
  simp only [clean, Bool.not_false, Bool.true_and, List.all_eq_true]
  intro q hq x hx
  obtain ⟨n, _, rfl⟩ := List.mem_map.1 hq
  simp at hx; subst hx; rfl
theorem ils_clean7 (l : List Int) : clean 7 (ils (iI l)) = true := by
  cases l with
  | nil => rfl
  | cons x l => exact ils_clean7' (x :: l)
section
variable {H : List Vm.Obj} {p : Nat} {bv tv lv : V} {q : Nat} {aw lw : V} {at_ : List Nat} {s : Rm}
theorem plays_loop0 (av : V) (hav : isS av = true) (a : Act) (hw : i64B a.w.addr) {bu tu lu au lx : V} (im : Img H p bv tv lv s bu tu lu) (hq : H[q]? = some (.arr [rfC aw lw s.r]))
    (ai : ∀ vs tk d, toImm ⟨vs, tk, H⟩ true (d + 2) aw = some au) (xi : ∀ vs tk d, toImm ⟨vs, tk, H⟩ true (d + 2) lw = some lx) (ha : Sl au (byV at_)) (hx : isS lx = true) (hL : at_.length ≤ 1024) (hl : s.bytes.length = at_.length) (i : Int) (n : Nat) (hn : n ≤ 5) :
    evCI pg (.loop ir_undertowlaw12_RamPlaysl0) ⟨[.undef, av, .undef, .ptr p 0 0, .ptr q 0 0, .int .i64 i, .lp 0 0, .undef, .undef, .undef, .undef, .undef, .int .i64 ((n : Int) - 1), .undef, .undef, .undef, .undef, .undef, .undef, .undef, .undef, .undef, .undef, .undef, .undef, .undef, .undef], ⟨[actV a], [], H⟩⟩ =
      some (.exit 3, ⟨[.undef, av, .undef, .ptr p 0 0, .ptr q 0 0, .int .i64 i, .lp 0 0, .undef, .undef, .undef, .undef, .undef, .int .i64 4, .undef, .undef, .undef, .undef, .undef, .undef, .undef, .undef, .undef, .undef, .undef, .undef, .bool false, .undef], ⟨[actV a], [], H⟩⟩) := by
  by_cases c : n < 5
  · have ih := plays_loop0 av hav a hw im hq ai xi ha hx hL hl i (n + 1) (by omega)
    have g1 := Held_ok true bu tu lu (byV s.bytes) im.b im.t.is im.l.is (by rw [byV_len]; omega) s.r ((n : Int) - 1) a.w.addr a.w.size
    have g2 := refHas_ok true au lx at_ ha hx hL s.r ((n : Int) - 1) a.w.addr a.w.size hw
    rw [byV_len, hl] at g1
    revert g1 g2
    generalize (mayB at_.length a.w.addr a.w.size && isH ((n : Int) - 1) && decide (s.r.get ((n : Int) - 1) = (a.w.addr, a.w.size))) = z
    intro g1 g2
    have e0 : ((n + 1 : Nat) : Int) - 1 = (n : Int) - 1 + 1 := by omega
    have e6 : IntKind.i64.wrap ((n : Int) - 1 + 1) = (n : Int) - 1 + 1 := wrap_i64 (by omega) (by omega)
    have c2 : (n : Int) - 1 < 4 := by omega
    rw [e0] at ih
    obtain ⟨B, hB⟩ : ∃ B, B = C.loop ir_undertowlaw12_RamPlaysl0 := ⟨_, rfl⟩
    rw [← hB] at ih
    rw [← hB, s_loop_at hB]
    have ho := im.o
    have hi1 := im.bi
    have hi2 := im.ti
    have hi3 := im.li
    obtain ⟨k, hv, w1, w2, w3, w4⟩ := a
    simp only [rmC, rfC, actV] at *
    generalize (n : Int) - 1 = m at *
    cases z <;>
    simp [ir_undertowlaw12_RamPlaysl0, go_sem, hav, c2, ho, hq, hi1, hi2, hi3, ai, xi, g1, g2, e6, ih]
  · obtain rfl : n = 5 := by omega
    rw [s_loop]
    simp [ir_undertowlaw12_RamPlaysl0, go_sem, hav]
termination_by 5 - n
theorem plays_tail (h : Both H p bv tv lv q aw lw at_ s) (hlog : s.log.length ≤ 1000000) (w : Wr) (hw : okWr w) :
    ∃ bu tu lu au lx, Img H p bv tv lv s bu tu lu ∧ (∀ vs tk d, toImm ⟨vs, tk, H⟩ true (d + 2) aw = some au) ∧ (∀ vs tk d, toImm ⟨vs, tk, H⟩ true (d + 2) lw = some lx) ∧ Sl au (byV at_) ∧ Sl lx (wsV s.log) ∧
      evI pg .val n_undertowref12_Ram_May [.ip true (rfC au lx s.r) 0, .int .i64 w.addr, .int .i64 w.size] [] = some (.bool (mayB at_.length w.addr w.size), []) ∧
      (mayB at_.length w.addr w.size = false → evI pg .val n_ram_Ram_Load [.ip true (rmC bu tu lu s.r) 0, .int .i64 w.addr, .int .i64 w.size] [] = some (.tup [.int .u64 0, .nils, .bool false], [])) ∧
      (mayB at_.length w.addr w.size = true → ∃ (x : Nat) (ty tz : V), evI pg .val n_ram_Ram_Load [.ip true (rmC bu tu lu s.r) 0, .int .i64 w.addr, .int .i64 w.size] [] = some (.tup [.int .u64 (x : Int), ty, .bool true], []) ∧
        evI pg .val n_undertowref12_Ram_Load [.ip true (rfC au lx s.r) 0, .int .i64 w.addr, .int .i64 w.size] [] = some (.tup [.int .u64 (x : Int), tz], []) ∧
        evI pg .val n_undertowref02_SameInts [ty, tz] [] = some (.bool true, []) ∧ isS ty = true ∧ isS tz = true ∧ clean 7 ty = true ∧ clean 7 tz = true) := by
  obtain ⟨bu, tu, lu, im⟩ := RmAt.img h.rm
  obtain ⟨au, a1, a2⟩ := h.rf.a.imm
  obtain ⟨lx, l1, l2⟩ := h.rf.l.imm
  have hbl := h.inv.len
  have hle := h.rf.le
  refine ⟨bu, tu, lu, au, lx, im, a2, l2, a1, l1, refMay_ok true au at_ a1 hle _ w.addr w.size hw.a, fun hm => ?_, fun hm => ?_⟩
  · exact Load_no im.b (by omega) im.t.is im.l.is w.addr w.size (by rw [hbl]; exact hm)
  · obtain ⟨m1, m2, m3⟩ := mayB_n hm
    obtain ⟨an, hen⟩ : ∃ an : Nat, w.addr = (an : Int) := ⟨w.addr.toNat, by omega⟩
    obtain ⟨nn, hnn⟩ : ∃ nn : Nat, w.size = (nn : Int) := ⟨w.size.toNat, by omega⟩
    rw [hen, hnn] at m3 hm ⊢
    rw [hnn] at m1
    have g1 := Load_yes (t := true) (r := s.r) im.b (by omega) h.rm.by_ im.t h.rm.lt im.l.is an nn (by rw [hbl]; exact hm)
    have g2 := refLoad_ok true au lx at_ s.log a1 l1 [.int .i64 0, .int .i64 s.r.a0, .int .i64 s.r.n0, .int .u64 0, .int .i64 0, .int .i64 s.r.a1, .int .i64 s.r.n1, .int .u64 0, .int .i64 0, .int .i64 s.r.a2, .int .i64 s.r.n2, .int .u64 0] hle h.inv.l hlog s.bytes s.tags hbl h.inv.tl h.inv.b h.inv.t h.rm.by_ an nn (by omega) (by omega)
    have hp := piece_len s.tags an nn (by have := h.inv.tl; omega)
    refine ⟨_, _, _, g1, g2, ?_, rfl, (Sl.ils _).is, ils_clean7' _, ils_clean7 _⟩
    rw [SameInts_ok _ _ _ _ (.isl _ _) (.ils _) (by omega)]
    simp
theorem same_ok (h : Both H p bv tv lv q aw lw at_ s) (hlog : s.log.length ≤ 1000000) {bu tu lu au lx : V} (im : Img H p bv tv lv s bu tu lu) (ha : Sl au (byV at_)) (hl : Sl lx (wsV s.log)) :
    evI pg .val n_undertowlaw12_same [.ip true (rmC bu tu lu s.r) 0, .ip true (rfC au lx s.r) 0] [] = some (.bool true, []) := by
  have hbl := h.inv.len
  have htl := h.inv.tl
  have hle := h.rf.le
  have hB := Bytes_ok' (t := true) im.b (by omega) [tu, lu, .int .i64 s.r.a0, .int .i64 s.r.n0, .int .i64 s.r.a1, .int .i64 s.r.n1, .int .i64 s.r.a2, .int .i64 s.r.n2]
  have hT := Tags_ok' (t := true) (bv := bu) im.t (by omega) [lu, .int .i64 s.r.a0, .int .i64 s.r.n0, .int .i64 s.r.a1, .int .i64 s.r.n1, .int .i64 s.r.a2, .int .i64 s.r.n2]
  have hG := Log_ok' (t := true) (bv := bu) (tv := tu) im.l hlog [.int .i64 s.r.a0, .int .i64 s.r.n0, .int .i64 s.r.a1, .int .i64 s.r.n1, .int .i64 s.r.a2, .int .i64 s.r.n2]
  have rB := refBytes_ok' true au lx at_ s.log ha hl [.int .i64 0, .int .i64 s.r.a0, .int .i64 s.r.n0, .int .u64 0, .int .i64 0, .int .i64 s.r.a1, .int .i64 s.r.n1, .int .u64 0, .int .i64 0, .int .i64 s.r.a2, .int .i64 s.r.n2, .int .u64 0] hle h.inv.l hlog s.bytes s.tags hbl htl h.inv.b h.inv.t
  have rT := refTags_ok' true au lx at_ s.log ha hl [.int .i64 0, .int .i64 s.r.a0, .int .i64 s.r.n0, .int .u64 0, .int .i64 0, .int .i64 s.r.a1, .int .i64 s.r.n1, .int .u64 0, .int .i64 0, .int .i64 s.r.a2, .int .i64 s.r.n2, .int .u64 0] hle h.inv.l hlog s.bytes s.tags hbl htl h.inv.b h.inv.t
  have cB := cpV_sl _ _ im.b
  have cT := cpV_sl _ _ im.t
  have cG := cpV_sl _ _ im.l
  have sB := SameBytes_ok _ _ _ _ cB (.ils (byV s.bytes)) (by omega)
  have sT := SameInts_ok _ _ _ _ cT (.ils (iI s.tags)) (by omega)
  have sG := SameWrites_ok _ _ _ _ cG hl (by omega)
  simp only [decide_true] at sB sT sG
  rw [s_fn fn_undertowlaw12_same]
  unfold rmC rfC
  simp [ir_undertowlaw12_same, go_sem, im.b.is, im.t.is, im.l.is, ha.is, hl.is, hB, hT, hG, rB, rT, sB, sT, sG, cB.is, cT.is, cG.is, (Sl.ils (byV s.bytes)).is, (Sl.ils (iI s.tags)).is]
end
theorem stay_frm {i n : Nat} (h : i < n) (hn : n ≤ 40) : IntKind.i64.wrap ((i : Int) + 1) = ((i + 1 : Nat) : Int) := by rw [wrap_i64 (by omega) (by omega)]; rfl
set_option maxHeartbeats 2000000 in
theorem plays_loop1 (av : V) (l : List Act) (ha : Sl av (actsV l)) (hok : ∀ a ∈ l, okAct a) (at_ : List Nat) (p q : Nat) (bv tv aw : V) (i : Nat) (hi : i ≤ min l.length 40) (H : List Vm.Obj) (lv lw : V) (s : Rm)
    (hb : Both H p bv tv lv q aw lw at_ s) (hlog : s.log.length ≤ i) :
    ∃ s' lv' lw' H', evCI pg (.loop ir_undertowlaw12_RamPlaysl1) ⟨[.undef, av, .undef, .ptr p 0 0, .ptr q 0 0, .int .i64 (i : Int), .undef, .undef, .undef, .undef, .undef, .undef, .undef, .undef, .undef, .undef, .undef, .undef, .undef, .undef, .undef, .undef, .undef, .undef, .undef, .undef, .undef], ⟨[[]], [], H⟩⟩ =
      some (.exit 0, ⟨[.undef, av, .undef, .ptr p 0 0, .ptr q 0 0, .int .i64 ((min l.length 40 : Nat) : Int), .undef, .undef, .undef, .undef, .undef, .undef, .undef, .undef, .undef, .bool false, .undef, .undef, .undef, .undef, .undef, .undef, .undef, .undef, .undef, .undef, .undef], ⟨[[]], [], H'⟩⟩) ∧
      Both H' p bv tv lv' q aw lw' at_ s' ∧ s'.log.length ≤ 40 := by
  by_cases c : i < min l.length 40
  · have c1 : i < l.length := by omega
    have c2 : (i : Int) < 40 := by omega
    have c3 : i < 40 := by omega
    have e1 := fun m => ha.ia (sz := 6) m .i64 (i := i) (by rw [actsV_len]; omega) (actsV_sz _ _ _)
    simp only [actsV_el] at e1
    have hoa := hok l[i] (List.getElem_mem _)
    revert e1 hoa
    generalize l[i] = a
    intro e1 hoa
    have e6 := stay_frm c (by omega)
    -- from a memory as it is after the act on
    have key : ∀ (H2 : List Vm.Obj) (lv2 lw2 : V) (s2 : Rm), Both H2 p bv tv lv2 q aw lw2 at_ s2 → s2.log.length ≤ i + 1 →
        ∃ s' lv' lw' H', evCI pg (.loop ir_undertowlaw12_RamPlaysl1) ⟨[.undef, av, .undef, .ptr p 0 0, .ptr q 0 0, .int .i64 ((i + 1 : Nat) : Int), .undef, .undef, .undef, .undef, .undef, .undef, .undef, .undef, .undef, .undef, .undef, .undef, .undef, .undef, .undef, .undef, .undef, .undef, .undef, .undef, .undef], ⟨[[]], [], H2⟩⟩ =
      some (.exit 0, ⟨[.undef, av, .undef, .ptr p 0 0, .ptr q 0 0, .int .i64 ((min l.length 40 : Nat) : Int), .undef, .undef, .undef, .undef, .undef, .undef, .undef, .undef, .undef, .bool false, .undef, .undef, .undef, .undef, .undef, .undef, .undef, .undef, .undef, .undef, .undef], ⟨[[]], [], H'⟩⟩) ∧
      Both H' p bv tv lv' q aw lw' at_ s' ∧ s'.log.length ≤ 40 := fun H2 lv2 lw2 s2 h2 hl2 =>
      plays_loop1 av l ha hok at_ p q bv tv aw (i + 1) (by omega) H2 lv2 lw2 s2 h2 hl2
    obtain ⟨B, hB⟩ : ∃ B, B = C.loop ir_undertowlaw12_RamPlaysl1 := ⟨_, rfl⟩
    obtain ⟨B0, hB0⟩ : ∃ B, B = C.loop ir_undertowlaw12_RamPlaysl0 := ⟨_, rfl⟩
    -- what each act comes to
    have act : ∃ (H2 : List Vm.Obj) (lv2 lw2 : V) (s2 : Rm), Both H2 p bv tv lv2 q aw lw2 at_ s2 ∧ s2.log.length ≤ i + 1 ∧
        (a.kind = 0 → ∃ b H1, evI pg .heap n_ram_Ram_Store [.ptr p 0 0, .int .i64 a.hart, .agg (wrV a.w)] H = some (.bool b, H1) ∧ evI pg .heap n_undertowref12_Ram_Store [.ptr q 0 0, .int .i64 a.hart, .agg (wrV a.w)] H1 = some (.bool b, H2)) ∧
        (a.kind = 1 → ∃ b H1, evI pg .heap n_ram_Ram_Reserve [.ptr p 0 0, .int .i64 a.hart, .int .i64 a.w.addr, .int .i64 a.w.size] H = some (.bool b, H1) ∧ evI pg .heap n_undertowref12_Ram_Reserve [.ptr q 0 0, .int .i64 a.hart, .int .i64 a.w.addr, .int .i64 a.w.size] H1 = some (.bool b, H2)) ∧
        (a.kind = 2 → ∃ H1, evI pg .heap n_ram_Ram_Drop [.ptr p 0 0, .int .i64 a.hart] H = some (.tup [], H1) ∧ evI pg .heap n_undertowref12_Ram_Drop [.ptr q 0 0, .int .i64 a.hart] H1 = some (.tup [], H2)) ∧
        (a.kind ≠ 0 → a.kind ≠ 1 → a.kind ≠ 2 → H2 = H) := by
      by_cases k0 : a.kind = 0
      · obtain ⟨lv', lw', H1, H2, s1, s2, s3⟩ := hb.store a.hart a.w hoa.w (by omega)
        obtain ⟨q1, q2⟩ := s.store_len a.hart a.w
        exact ⟨H2, lv', lw', _, s3, by omega, fun _ => ⟨_, H1, s1, s2⟩, fun h => by omega, fun h => by omega, fun h => absurd k0 h⟩
      · by_cases k1 : a.kind = 1
        · obtain ⟨b, s', H1, H2, s1, s2, s3, s4⟩ := hb.reserve a.hart a.w.addr a.w.size hoa.w.a
          exact ⟨H2, lv, lw, s', s3, by rw [s4]; omega, fun h => absurd h k0, fun _ => ⟨b, H1, s1, s2⟩, fun h => by omega, fun _ h => absurd k1 h⟩
        · by_cases k2 : a.kind = 2
          · obtain ⟨s', H1, H2, s1, s2, s3, s4⟩ := hb.drop a.hart
            exact ⟨H2, lv, lw, s', s3, by rw [s4]; omega, fun h => absurd h k0, fun h => absurd h k1, fun _ => ⟨H1, s1, s2⟩, fun _ _ h => absurd k2 h⟩
          · exact ⟨H, lv, lw, s, hb, by omega, fun h => absurd h k0, fun h => absurd h k1, fun h => absurd h k2, fun _ _ _ => rfl⟩
    obtain ⟨H2, lv2, lw2, s2, hb2, hl2, act0, act1, act2, act3⟩ := act
    obtain ⟨s', lv', lw', H', ih, r1, r2⟩ := key H2 lv2 lw2 s2 hb2 hl2
    obtain ⟨bu, tu, lu, au, lx, im, ai, xi, sa, sx, hM, hLn, hLy⟩ := plays_tail hb2 (by omega) a.w hoa.w
    have l0 := plays_loop0 av ha.is a hoa.w.a im hb2.rf.obj ai xi sa sx.is hb2.rf.le hb2.inv.len (i : Int) 0 (by omega)
    refine ⟨s', lv', lw', H', ?_, r1, r2⟩
    rw [← hB] at ih
    rw [← hB0] at l0
    rw [show ((0 : Nat) : Int) - 1 = -1 from rfl] at l0
    rw [← hB, s_loop_at hB]
    have ho := im.o
    have hi1 := im.bi
    have hi2 := im.ti
    have hi3 := im.li
    have hq := hb2.rf.obj
    have hav := ha.is
    clear hb hok hoa hb2 r1 key
    obtain ⟨k, hv, w1, w2, w3, w4⟩ := a
    simp only [rmC, rfC, actV, wrV] at *
    generalize hmm : mayB at_.length w2 w3 = z at *
    by_cases k0 : k = 0
    · subst k0
      obtain ⟨b, H1, f1, f2⟩ := act0 rfl
      cases z with
      | false =>
        have hLn := hLn rfl
        cases b <;> simp [ir_undertowlaw12_RamPlaysl1, ← hB0, go_sem, hav, ha.rows, actsV_len, c1, c2, c3, e1, f1, f2, ho, hq, hi1, hi2, hi3, ai, xi, hM, hLn, l0, e6, ih, -Int.natCast_add]
      | true =>
        obtain ⟨x, ty, tz, g1, g2, g3, g4, g5, g6, g7⟩ := hLy rfl
        cases b <;> simp [ir_undertowlaw12_RamPlaysl1, ← hB0, go_sem, hav, ha.rows, actsV_len, c1, c2, c3, e1, f1, f2, ho, hq, hi1, hi2, hi3, ai, xi, hM, g1, g2, g3, g4, g5, g6, g7, l0, e6, ih, -Int.natCast_add]
    · by_cases k1 : k = 1
      · subst k1
        obtain ⟨b, H1, f1, f2⟩ := act1 rfl
        cases z with
        | false =>
          have hLn := hLn rfl
          cases b <;> simp [ir_undertowlaw12_RamPlaysl1, ← hB0, go_sem, hav, ha.rows, actsV_len, c1, c2, c3, e1, f1, f2, ho, hq, hi1, hi2, hi3, ai, xi, hM, hLn, l0, e6, ih, -Int.natCast_add]
        | true =>
          obtain ⟨x, ty, tz, g1, g2, g3, g4, g5, g6, g7⟩ := hLy rfl
          cases b <;> simp [ir_undertowlaw12_RamPlaysl1, ← hB0, go_sem, hav, ha.rows, actsV_len, c1, c2, c3, e1, f1, f2, ho, hq, hi1, hi2, hi3, ai, xi, hM, g1, g2, g3, g4, g5, g6, g7, l0, e6, ih, -Int.natCast_add]
      · by_cases k2 : k = 2
        · subst k2
          obtain ⟨H1, f1, f2⟩ := act2 rfl
          cases z with
          | false =>
            have hLn := hLn rfl
            simp [ir_undertowlaw12_RamPlaysl1, ← hB0, go_sem, hav, ha.rows, actsV_len, c1, c2, c3, e1, f1, f2, ho, hq, hi1, hi2, hi3, ai, xi, hM, hLn, l0, e6, ih, -Int.natCast_add]
          | true =>
            obtain ⟨x, ty, tz, g1, g2, g3, g4, g5, g6, g7⟩ := hLy rfl
            simp [ir_undertowlaw12_RamPlaysl1, ← hB0, go_sem, hav, ha.rows, actsV_len, c1, c2, c3, e1, f1, f2, ho, hq, hi1, hi2, hi3, ai, xi, hM, g1, g2, g3, g4, g5, g6, g7, l0, e6, ih, -Int.natCast_add]
        · have hH := act3 k0 k1 k2
          subst hH
          cases z with
          | false =>
            have hLn := hLn rfl
            simp [ir_undertowlaw12_RamPlaysl1, ← hB0, go_sem, hav, ha.rows, actsV_len, c1, c2, c3, e1, k0, k1, k2, ho, hq, hi1, hi2, hi3, ai, xi, hM, hLn, l0, e6, ih, -Int.natCast_add]
          | true =>
            obtain ⟨x, ty, tz, g1, g2, g3, g4, g5, g6, g7⟩ := hLy rfl
            simp [ir_undertowlaw12_RamPlaysl1, ← hB0, go_sem, hav, ha.rows, actsV_len, c1, c2, c3, e1, k0, k1, k2, ho, hq, hi1, hi2, hi3, ai, xi, hM, g1, g2, g3, g4, g5, g6, g7, l0, e6, ih, -Int.natCast_add]
  · refine ⟨s, lv, lw, H, ?_, hb, by omega⟩
    have hiN : i = min l.length 40 := by omega
    rw [← hiN, s_loop]
    by_cases d : i < l.length
    · have d2 : ¬ (i : Int) < 40 := by omega
      have d3 : ¬ i < 40 := by omega
      simp [ir_undertowlaw12_RamPlaysl1, go_sem, ha.is, ha.rows, actsV_len, d, d2, d3]
    · simp [ir_undertowlaw12_RamPlaysl1, go_sem, ha.is, ha.rows, actsV_len, d]
termination_by min l.length 40 - i
theorem RamPlays_true (iv av : V) (img : List Nat) (l : List Act) (hi : Sl iv (byV img)) (hb : ∀ x ∈ img, x < 256) (ha : Sl av (actsV l)) (hok : ∀ a ∈ l, okAct a) :
    evI pg .val n_undertowlaw12_RamPlays [iv, av] [] = some (.bool true, []) := by
  rw [s_fn fn_undertowlaw12_RamPlays]
  by_cases c : 1100 < img.length
  · have c' : (1100 : Int) < (img.length : Int) := by omega
    simp [ir_undertowlaw12_RamPlays, go_sem, alive12, hi.is, hi.rows, ha.is, byV_len, c, c']
  · have c' : ¬ (1100 : Int) < (img.length : Int) := by omega
    obtain ⟨p, bv, tv, H1, n1, n2, n3, n4, n5⟩ := New_ok hi hb (by omega) []
    obtain ⟨q, aw, H2, m1, m2, m3, m4⟩ := refNew_ok hi H1
    have n6 : RmAt H2 p bv tv .nils (img.take 1024) (List.replicate (min img.length 1024) (-1)) [] z3 := n2.frame fun id o _ ho => m3.get id o ho (by simp)
    have htl : (List.replicate (min img.length 1024) (-1 : Int)).length = (img.take 1024).length := by simp [Nat.min_comm]
    have hinv : LInv (img.take 1024) ⟨img.take 1024, List.replicate (min img.length 1024) (-1), [], z3⟩ := ⟨rfl, htl, fun k h => by simp only [lastW, List.foldl_nil]; exact List.getElem?_eq_getElem h, fun k h => by
      simp only [lastW, List.foldl_nil]
      rw [List.getElem?_eq_getElem (by omega)]
      simp, by simp⟩
    have hbo : Both H2 p bv tv .nils q aw .nils (img.take 1024) ⟨img.take 1024, List.replicate (min img.length 1024) (-1), [], z3⟩ := ⟨n6, m2, hinv, fun id h1 h2 => by
      have := m4 id h2
      have := RmAt.flt n2 h1
      omega⟩
    obtain ⟨s', lv', lw', H', lp, r1, r2⟩ := plays_loop1 av l ha hok (img.take 1024) p q bv tv aw 0 (by omega) H2 .nils .nils _ hbo (by simp)
    obtain ⟨bu, tu, lu, im⟩ := RmAt.img r1.rm
    obtain ⟨au, a1, a2⟩ := r1.rf.a.imm
    obtain ⟨lx, l1, l2⟩ := r1.rf.l.imm
    have hs := same_ok r1 (by omega) im a1 l1
    have ho := im.o
    have hi1 := im.bi
    have hi2 := im.ti
    have hi3 := im.li
    have hq := r1.rf.obj
    simp only [rmC, rfC] at *
    rw [show ((0 : Nat) : Int) = 0 from rfl] at lp
    simp [ir_undertowlaw12_RamPlays, go_sem, alive12, hi.is, hi.rows, ha.is, byV_len, c, c', n1, m1, lp, ho, hq, hi1, hi2, hi3, a2, l2, hs]
theorem law_plays : ∀ vs, PArgs Try.prog 8 Try.f4.params.toList vs → ∃ k, evF pg k .val 4 vs [] = some (.bool true, []) := by
  intro vs h
  obtain ⟨v1, _, rfl, h1, v2, _, rfl, h2, rfl⟩ := h
  obtain ⟨img, i1, _, i2⟩ := arg_img h1
  obtain ⟨l, a1, _, a2⟩ := arg_acts h2
  exact (evI_iff (hx _ _)).1 (RamPlays_true v1 v2 img l i1 i2 a1 a2)
end Go.Proofs.Ytbloiihagbcfpaa
