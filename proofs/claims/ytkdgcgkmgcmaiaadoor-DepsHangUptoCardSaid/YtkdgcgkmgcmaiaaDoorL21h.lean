/- Layer 21: the document's tables; whether a relation is one (no claim; lemmas). -/
import Derived.Test.YtkdgcgkmgcmaiaaDoorK21s
set_option linter.unusedSimpArgs false
set_option linter.unusedVariables false
namespace Go.Proofs.YtkdgcgkmgcmaiaaDoor
open Go Go.Vm

theorem toImm8 {m : Mem} {t : Bool} {v u : V} (h : toImm m t 8 v = some u) : toImm m t 8 v = some u := h
section
variable {l : List In} {lv : V} (hl : Sl lv (rtR l)) (hok : ∀ x ∈ l, okI x) (hlen : l.length ≤ 512)
include hl hok hlen
theorem HangA : ∃ tv, evI pg .val n_undertowref21_Hang [lv, .int .i64 1] [] = some (tv, []) ∧ TabV tv l.length (FA l l.length) := by
  obtain ⟨H1, v, T, I, n1, n2, _, _, _⟩ := refNew_ok l.length hlen []
  have n2' : TabAt H1 v l.length T I (FA l 0) := MatAt.congr n2 fun a _ => bR_congr fun b _ => by simp [FA, cAt]
  have hsv := MatAt.slotK n2
  by_cases h0 : l.length = 0
  · rw [h0] at n1
    obtain ⟨x1, x2, x3⟩ := n2.exp
    have hv : v = .nils := by
      rcases n2.top with ⟨_, h1⟩ | ⟨h1, _, _⟩
      · exact h1
      · omega
    subst hv
    refine ⟨.nils, ?_, ⟨[], .nils, by rw [h0]; rfl, fun a ha => by simp at ha⟩⟩
    have hL : evCI pg (.loop ir_undertowref21_Hangl5) ⟨[lv, .int .i64 1, .undef, .nils, .int .i64 0, .undef, .undef, .undef, .undef, .undef, .undef, .undef, .undef, .undef, .undef, .undef, .undef, .undef, .undef, .undef, .undef, .undef, .undef, .undef, .undef], ⟨[[], []], [], H1⟩⟩ =
        some (.exit 0, ⟨[lv, .int .i64 1, .undef, .nils, .int .i64 0, .undef, .undef, .undef, .undef, .undef, .undef, .undef, .undef, .undef, .undef, .undef, .bool false, .undef, .undef, .undef, .undef, .undef, .undef, .undef, .undef], ⟨[[], []], [], H1⟩⟩) := by
      rw [s_loop]
      simp [ir_undertowref21_Hangl5, go_sem, hl.is, hl.rows, rtR_len, h0]
    rw [Int.natCast_zero] at n1
    rw [s_fn fn_undertowref21_Hang]
    simp [ir_undertowref21_Hang, go_sem, hl.is, hl.rows, rtR_len, h0, n1, hL]
  · obtain ⟨hv, hT⟩ := MatAt.pos n2 (by omega)
    subst hv
    obtain ⟨H', r1, r2⟩ := H5A hl hok hlen 0 (by omega) H1 n2'
    rw [Int.natCast_zero] at r1
    obtain ⟨u, hu, him, _⟩ := MatAt.tabV r2 false
    have him8 := fun vs tk => him vs tk 5
    simp only [Nat.reduceAdd] at him8
    refine ⟨u, ?_, hu⟩
    have hT' := get_lt (MatAt.pos r2 (by omega)).2
    have e8 := toImm8 (him8 [] [])
    have e9 := toImm8 (him8 [[], []] [])
    rw [s_fn fn_undertowref21_Hang]
    simp [ir_undertowref21_Hang, go_sem, hl.is, hl.rows, rtR_len, n1, r1, him8, e8, e9]
theorem HangD : ∃ tv, evI pg .val n_undertowref21_Hang [lv, .int .i64 2] [] = some (tv, []) ∧ TabV tv l.length (FD l l.length) := by
  obtain ⟨H1, v, T, I, n1, n2, _, _, _⟩ := refNew_ok l.length hlen []
  have n2' : TabAt H1 v l.length T I (FD l 0) := MatAt.congr n2 fun a _ => bR_congr fun b _ => by simp [FD, cAt]
  have hsv := MatAt.slotK n2
  by_cases h0 : l.length = 0
  · rw [h0] at n1
    obtain ⟨x1, x2, x3⟩ := n2.exp
    have hv : v = .nils := by
      rcases n2.top with ⟨_, h1⟩ | ⟨h1, _, _⟩
      · exact h1
      · omega
    subst hv
    refine ⟨.nils, ?_, ⟨[], .nils, by rw [h0]; rfl, fun a ha => by simp at ha⟩⟩
    have hL : evCI pg (.loop ir_undertowref21_Hangl5) ⟨[lv, .int .i64 2, .undef, .nils, .int .i64 0, .undef, .undef, .undef, .undef, .undef, .undef, .undef, .undef, .undef, .undef, .undef, .undef, .undef, .undef, .undef, .undef, .undef, .undef, .undef, .undef], ⟨[[], []], [], H1⟩⟩ =
        some (.exit 0, ⟨[lv, .int .i64 2, .undef, .nils, .int .i64 0, .undef, .undef, .undef, .undef, .undef, .undef, .undef, .undef, .undef, .undef, .undef, .bool false, .undef, .undef, .undef, .undef, .undef, .undef, .undef, .undef], ⟨[[], []], [], H1⟩⟩) := by
      rw [s_loop]
      simp [ir_undertowref21_Hangl5, go_sem, hl.is, hl.rows, rtR_len, h0]
    rw [Int.natCast_zero] at n1
    rw [s_fn fn_undertowref21_Hang]
    simp [ir_undertowref21_Hang, go_sem, hl.is, hl.rows, rtR_len, h0, n1, hL]
  · obtain ⟨hv, hT⟩ := MatAt.pos n2 (by omega)
    subst hv
    obtain ⟨H', r1, r2⟩ := H5D hl hok hlen 0 (by omega) H1 n2'
    rw [Int.natCast_zero] at r1
    obtain ⟨u, hu, him, _⟩ := MatAt.tabV r2 false
    have him8 := fun vs tk => him vs tk 5
    simp only [Nat.reduceAdd] at him8
    refine ⟨u, ?_, hu⟩
    have hT' := get_lt (MatAt.pos r2 (by omega)).2
    have e8 := toImm8 (him8 [] [])
    have e9 := toImm8 (him8 [[], []] [])
    rw [s_fn fn_undertowref21_Hang]
    simp [ir_undertowref21_Hang, go_sem, hl.is, hl.rows, rtR_len, n1, r1, him8, e8, e9]
theorem HangC : ∃ tv, evI pg .val n_undertowref21_Hang [lv, .int .i64 3] [] = some (tv, []) ∧ TabV tv l.length (FC l l.length) := by
  obtain ⟨H1, v, T, I, n1, n2, _, _, _⟩ := refNew_ok l.length hlen []
  have n2' : TabAt H1 v l.length T I (FC l 0) := MatAt.congr n2 fun a _ => bR_congr fun b _ => by simp [FC, cAt]
  have hsv := MatAt.slotK n2
  by_cases h0 : l.length = 0
  · rw [h0] at n1
    obtain ⟨x1, x2, x3⟩ := n2.exp
    have hv : v = .nils := by
      rcases n2.top with ⟨_, h1⟩ | ⟨h1, _, _⟩
      · exact h1
      · omega
    subst hv
    refine ⟨.nils, ?_, ⟨[], .nils, by rw [h0]; rfl, fun a ha => by simp at ha⟩⟩
    have hL : evCI pg (.loop ir_undertowref21_Hangl5) ⟨[lv, .int .i64 3, .undef, .nils, .int .i64 0, .undef, .undef, .undef, .undef, .undef, .undef, .undef, .undef, .undef, .undef, .undef, .undef, .undef, .undef, .undef, .undef, .undef, .undef, .undef, .undef], ⟨[[], []], [], H1⟩⟩ =
        some (.exit 0, ⟨[lv, .int .i64 3, .undef, .nils, .int .i64 0, .undef, .undef, .undef, .undef, .undef, .undef, .undef, .undef, .undef, .undef, .undef, .bool false, .undef, .undef, .undef, .undef, .undef, .undef, .undef, .undef], ⟨[[], []], [], H1⟩⟩) := by
      rw [s_loop]
      simp [ir_undertowref21_Hangl5, go_sem, hl.is, hl.rows, rtR_len, h0]
    rw [Int.natCast_zero] at n1
    rw [s_fn fn_undertowref21_Hang]
    simp [ir_undertowref21_Hang, go_sem, hl.is, hl.rows, rtR_len, h0, n1, hL]
  · obtain ⟨hv, hT⟩ := MatAt.pos n2 (by omega)
    subst hv
    obtain ⟨H', r1, r2⟩ := H5C hl hok hlen 0 (by omega) H1 n2'
    rw [Int.natCast_zero] at r1
    obtain ⟨u, hu, him, _⟩ := MatAt.tabV r2 false
    have him8 := fun vs tk => him vs tk 5
    simp only [Nat.reduceAdd] at him8
    refine ⟨u, ?_, hu⟩
    have hT' := get_lt (MatAt.pos r2 (by omega)).2
    have e8 := toImm8 (him8 [] [])
    have e9 := toImm8 (him8 [[], []] [])
    rw [s_fn fn_undertowref21_Hang]
    simp [ir_undertowref21_Hang, go_sem, hl.is, hl.rows, rtR_len, n1, r1, him8, e8, e9]
end
section
variable {rv tv : V} {n : Nat} {W : Nat → Nat} {f : Nat → Nat → Bool} (hr : RelV rv n W) (ht : TabV tv n f) (he : ∀ a b : Nat, a < n → b < n → hasW n W a b = f a b)
include hr ht he
theorem sm_l0 (a : Nat) (ha : a < n) (b : Nat) (hb : b ≤ n) :
    evCI pg (.loop ir_undertowlaw21_samel0) ⟨[.ip false [rv] 0, tv, .undef, .int .i64 (a : Int), .int .i64 (b : Int), .undef, .undef, .undef, .undef], ⟨[], [], []⟩⟩ =
      some (.exit 2, ⟨[.ip false [rv] 0, tv, .undef, .int .i64 (a : Int), .int .i64 (n : Int), .undef, .undef, .bool false, .undef], ⟨[], [], []⟩⟩) := by
  obtain ⟨B, hB⟩ : ∃ B, B = C.loop ir_undertowlaw21_samel0 := ⟨_, rfl⟩
  have hle := hr.le
  by_cases c : b < n
  · obtain ⟨x, hx, e⟩ := ht.row ha
    have e1 := TabV.el hx c
    have e3 := succ_i64 c (by omega)
    have hH := Has_ok (t := false) hr (a : Int) (b : Int)
    rw [he a b ha c] at hH
    have ih := sm_l0 a ha (b + 1) (by omega)
    rw [← ih, ← hB]
    conv => lhs; rw [s_loop_at hB]
    have hti := ht.is
    have htl := ht.len
    simp [ir_undertowlaw21_samel0, go_sem, hti, htl, c, e, e1, e3, hH, hx.is, -Int.natCast_add]
  · obtain rfl : b = n := by omega
    rw [← hB, s_loop_at hB]
    simp [ir_undertowlaw21_samel0, go_sem, ht.is, ht.len]
termination_by n - b
theorem sm_l1 (a : Nat) (ha : a ≤ n) :
    evCI pg (.loop ir_undertowlaw21_samel1) ⟨[.ip false [rv] 0, tv, .undef, .int .i64 (a : Int), .undef, .undef, .undef, .undef, .undef], ⟨[], [], []⟩⟩ =
      some (.exit 0, ⟨[.ip false [rv] 0, tv, .undef, .int .i64 (n : Int), .undef, .undef, .bool false, .undef, .undef], ⟨[], [], []⟩⟩) := by
  obtain ⟨B, hB⟩ : ∃ B, B = C.loop ir_undertowlaw21_samel1 := ⟨_, rfl⟩
  have hle := hr.le
  by_cases c : a < n
  · have e3 := succ_i64 c (by omega)
    have h0 := sm_l0 hr ht he a c 0 (by omega)
    rw [Int.natCast_zero] at h0
    have ih := sm_l1 (a + 1) (by omega)
    rw [← ih, ← hB]
    conv => lhs; rw [s_loop_at hB]
    simp [ir_undertowlaw21_samel1, go_sem, ht.is, ht.len, c, e3, h0, -Int.natCast_add]
  · obtain rfl : a = n := by omega
    rw [← hB, s_loop_at hB]
    simp [ir_undertowlaw21_samel1, go_sem, ht.is, ht.len]
termination_by n - a
theorem same_true : evI pg .val n_undertowlaw21_same [.ip false [rv] 0, tv] [] = some (.bool true, []) := by
  have h := sm_l1 hr ht he 0 (by omega)
  have hL := Len_ok (t := false) hr
  rw [Int.natCast_zero] at h
  rw [s_fn fn_undertowlaw21_same]
  simp [ir_undertowlaw21_same, go_sem, ht.is, ht.len, hL, h]
end
theorem DepsHang_true (iv : V) (l : List In) (hi : Sl iv (inR l)) (hok : ∀ x ∈ l, okI x) (hb : l.length ≤ 1048576) : evI pg .val n_undertowlaw21_DepsHang [iv] [] = some (.bool true, []) := by
  have hr := retired_ok iv l hi (by omega)
  have hs := Sl.ils (rtR l)
  generalize ils (rtR l) = lv at *
  rw [s_fn fn_undertowlaw21_DepsHang]
  by_cases h60 : 60 < l.length
  · have h60' : (60 : Int) < (l.length : Int) := by omega
    by_cases h5 : l.length ≤ 512
    · have h5' : (l.length : Int) ≤ 512 := by omega
      simp [ir_undertowlaw21_DepsHang, go_sem, alive21, hi.is, hi.rows, inR_len, h60', h5']
    · have h5' : ¬ (l.length : Int) ≤ 512 := by omega
      have a1 := Address_over hs (by omega)
      have a2 := Data_over hs (by omega)
      have a3 := Course_over hs (by omega)
      simp [ir_undertowlaw21_DepsHang, go_sem, alive21, hi.is, hi.rows, inR_len, h60', h5', hr, hs.is, a1, a2, a3]
  · have h60' : ¬ (60 : Int) < (l.length : Int) := by omega
    obtain ⟨a1, A1, A2⟩ := Address_ok hs (by omega)
    obtain ⟨d1, D1, D2⟩ := Data_ok hs (by omega)
    obtain ⟨c1, C1, C2⟩ := Course_ok hs (by omega)
    obtain ⟨ta, TA1, TA2⟩ := HangA hs hok (by omega)
    obtain ⟨td, TD1, TD2⟩ := HangD hs hok (by omega)
    obtain ⟨tc, TC1, TC2⟩ := HangC hs hok (by omega)
    have s1 := same_true A2 TA2 fun a b ha hb => by rw [has_aW (by omega) ha hb]; simp [FA, hb]
    have s2 := same_true D2 TD2 fun a b ha hb => by rw [has_aW (by omega) ha hb]; simp [FD, hb]
    have s3 := same_true C2 TC2 fun a b ha hb => by rw [has_aW (by omega) ha hb]; unfold FC; rw [show min l.length b = b by omega]
    have i1 := TA2.is
    have i2 := TD2.is
    have i3 := TC2.is
    simp [ir_undertowlaw21_DepsHang, go_sem, alive21, hi.is, hi.rows, inR_len, h60', hr, hs.is, A1, D1, C1, TA1, TD1, TC1, s1, s2, s3, i1, i2, i3]
end Go.Proofs.YtkdgcgkmgcmaiaaDoor
