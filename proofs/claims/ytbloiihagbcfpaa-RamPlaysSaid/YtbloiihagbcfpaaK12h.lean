/- Layer 12: the document's memory, asked and written (no claim; lemmas). -/
import Derived.Test.YtbloiihagbcfpaaK12g
set_option linter.unusedSimpArgs false
set_option linter.unusedVariables false
set_option linter.unusedSectionVars false
namespace Go.Proofs.Ytbloiihagbcfpaa
open Go Go.Vm

theorem app_by {k j : Nat} {m : Mem} {l : List Nat} (x : Nat) (ht : m.tk[j]? = some l.length) (hl : l.length < 1000000) :
    appV k 1 1 m (.osl false j (byV l)) (.els [[.int .u8 (x : Int)]]) = some (.osl false j (byV (l ++ [x])), { m with tk := m.tk.set j (l.length + 1) }) := by
  have e : byV (l ++ [x]) = byV l ++ [[.int .u8 (x : Int)]] := by simp [byV]
  rw [e, app_osl (ns := [[.int .u8 (x : Int)]]) rfl (fits_of (by omega) (by rw [byV_len]; simp; omega)) (by rw [imm_append, byV_imm]; rfl) (by rw [sz_append, byV_sz]; rfl) (by rw [byV_len]; exact ht), byV_len]
  rfl
theorem app_iI {k j : Nat} {m : Mem} {l : List Int} (x : Int) (ht : m.tk[j]? = some l.length) (hl : l.length < 1000000) :
    appV k 1 8 m (.osl false j (iI l)) (.els [[.int .i64 x]]) = some (.osl false j (iI (l ++ [x])), { m with tk := m.tk.set j (l.length + 1) }) := by
  have e : iI (l ++ [x]) = iI l ++ [[.int .i64 x]] := by simp [iI]
  rw [e, app_osl (ns := [[.int .i64 x]]) rfl (fits_of (by omega) (by rw [iI_len]; simp; omega)) (by rw [imm_append]; simp [immAll, iI, V.imm]) (by rw [sz_append]; simp [szAll, iI]) (by rw [iI_len]; exact ht), iI_len]
  rfl
theorem piece_zero {α : Type} (l : List α) (a : Nat) : piece l a 0 = [] := by simp [piece]
theorem piece_succ {α : Type} (l : List α) (a n : Nat) (h : a + n < l.length) : piece l a (n + 1) = piece l a n ++ [l[a + n]] := by
  unfold piece
  rw [← Nat.add_assoc, List.take_succ_eq_append_getElem h, List.drop_append_of_le_length (by simp; omega)]
section
variable (t : Bool) (av lv : V) (at_ : List Nat) (log : List Wr) (ha : Sl av (byV at_)) (hl : Sl lv (wsV log)) (cs : List V) (hL : at_.length ≤ 1024) (hok : ∀ w ∈ log, okLog at_.length w) (hn : log.length ≤ 1000000)
variable (bytes : List Nat) (tags : List Int) (hb : bytes.length = at_.length) (ht : tags.length = at_.length) (hbk : ∀ k, (h : k < at_.length) → bytes[k]? = some (lastW at_[k] log k).1) (htk : ∀ k, (h : k < at_.length) → tags[k]? = some (lastW at_[k] log k).2)
include ha hl hL hok hn hb ht hbk htk
theorem refLoad_loop (a n d : Nat) (hd : d ≤ n) (han : a + n ≤ at_.length) :
    evCI pg (.loop ir_undertowref12_Ram_Loadl0) ⟨[.ip t (av :: lv :: cs) 0, .int .i64 (a : Int), .int .i64 (n : Int), .undef, .undef, .osl false 0 (byV (piece bytes a d)), .osl false 1 (iI (piece tags a d)), .int .i64 ((a + d : Nat) : Int), .undef, .undef, .undef], ⟨[], [d, d], []⟩⟩ =
      some (.exit 0, ⟨[.ip t (av :: lv :: cs) 0, .int .i64 (a : Int), .int .i64 (n : Int), .undef, .undef, .osl false 0 (byV (piece bytes a n)), .osl false 1 (iI (piece tags a n)), .int .i64 ((a + n : Nat) : Int), .undef, .undef, .bool false], ⟨[], [n, n], []⟩⟩) := by
  have e1 : IntKind.i64.wrap ((a : Int) + (n : Int)) = ((a + n : Nat) : Int) := by rw [wrap_i64 (by omega) (by omega)]; rfl
  by_cases c : d < n
  · have hk : a + d < at_.length := by omega
    have hB := Byte_ok t av lv at_ log ha hl cs hL hok hn (a + d) hk
    have v1 := hbk (a + d) hk
    have v2 := htk (a + d) hk
    revert hB v1 v2
    generalize lastW at_[a + d] log (a + d) = res
    intro hB v1 v2
    have k1 : bytes[a + d] = res.1 := (List.getElem?_eq_some_iff.1 v1).2
    have k2 : tags[a + d] = res.2 := (List.getElem?_eq_some_iff.1 v2).2
    have ih := refLoad_loop a n (d + 1) (by omega) han
    have l1 : (piece bytes a d).length = d := piece_len _ _ _ (by omega)
    have l2 : (piece tags a d).length = d := piece_len _ _ _ (by omega)
    rw [piece_succ bytes a d (by omega), piece_succ tags a d (by omega), k1, k2] at ih
    have a1 := fun (m : Mem) (h : m.tk[0]? = some d) => app_by (k := 2) (j := 0) (m := m) (l := piece bytes a d) res.1 (by rw [l1]; exact h) (by omega)
    have a2 := fun (m : Mem) (h : m.tk[1]? = some d) => app_iI (k := 2) (j := 1) (m := m) (l := piece tags a d) res.2 (by rw [l2]; exact h) (by omega)
    rw [l1] at a1
    rw [l2] at a2
    have e6 : IntKind.i64.wrap (((a + d : Nat) : Int) + 1) = ((a + (d + 1) : Nat) : Int) := by rw [wrap_i64 (by omega) (by omega)]; omega
    have c1 : a + d < a + n := by omega
    obtain ⟨B, hB'⟩ : ∃ B, B = C.loop ir_undertowref12_Ram_Loadl0 := ⟨_, rfl⟩
    rw [← hB'] at ih
    rw [← hB', s_loop_at hB']
    have a1' := a1 ⟨[], [d, d], []⟩ rfl
    have a2' := a2 ⟨[], [d + 1, d], []⟩ rfl
    simp [ir_undertowref12_Ram_Loadl0, go_sem, ha.is, hl.is, e1, c, c1, hB, litParts, a1', a2', e6, ih, -Int.natCast_add]
  · obtain rfl : d = n := by omega
    rw [s_loop]
    simp [ir_undertowref12_Ram_Loadl0, go_sem, ha.is, hl.is, e1, -Int.natCast_add]
termination_by n - d
theorem refLoad_ok (hby : ∀ x ∈ bytes, x < 256) (a n : Nat) (han : a + n ≤ at_.length) (hn8 : n ≤ 8) :
    evI pg .val n_undertowref12_Ram_Load [.ip t (av :: lv :: cs) 0, .int .i64 (a : Int), .int .i64 (n : Int)] [] = some (.tup [.int .u64 ((ofN (piece bytes a n) : Nat) : Int), ils (iI (piece tags a n))], []) := by
  have hlp := refLoad_loop t av lv at_ log ha hl cs hL hok hn bytes tags hb ht hbk htk a n 0 (by omega) han
  rw [piece_zero, piece_zero] at hlp
  have hp : (piece bytes a n).length = n := piece_len _ _ _ (by omega)
  have hO := refOf_ok (ils (byV (piece bytes a n))) (piece bytes a n) (.ils _) (fun b hb' => hby b (List.mem_of_mem_take (List.mem_of_mem_drop hb'))) (by omega)
  rw [List.take_of_length_le (by omega)] at hO
  have e1 : byV [] = [] := rfl
  have e2 : iI [] = [] := rfl
  rw [e1, e2, Nat.add_zero] at hlp
  rw [s_fn fn_undertowref12_Ram_Load]
  simp [ir_undertowref12_Ram_Load, go_sem, ha.is, hl.is, hlp, hO, -Int.natCast_add]
theorem refBytes_loop (d : Nat) (hd : d ≤ at_.length) :
    evCI pg (.loop ir_undertowref12_Ram_Bytesl0) ⟨[.ip t (av :: lv :: cs) 0, .undef, .osl false 0 (byV (bytes.take d)), .int .i64 (d : Int), .undef, .undef], ⟨[], [d], []⟩⟩ =
      some (.exit 0, ⟨[.ip t (av :: lv :: cs) 0, .undef, .osl false 0 (byV bytes), .int .i64 (at_.length : Int), .undef, .bool false], ⟨[], [at_.length], []⟩⟩) := by
  by_cases c : d < at_.length
  · have hB := Byte_ok t av lv at_ log ha hl cs hL hok hn d c
    have v1 := hbk d c
    revert hB v1
    generalize lastW at_[d] log d = res
    intro hB v1
    have hdb : d < bytes.length := by omega
    have k1 : bytes[d] = res.1 := (List.getElem?_eq_some_iff.1 v1).2
    have ih := refBytes_loop (d + 1) (by omega)
    have l1 : (bytes.take d).length = d := by simp; omega
    rw [List.take_succ_eq_append_getElem hdb, k1] at ih
    have a1 := app_by (k := 2) (j := 0) (m := ⟨[], [d], []⟩) (l := bytes.take d) res.1 (by rw [l1]; rfl) (by omega)
    rw [l1] at a1
    have e6 : IntKind.i64.wrap ((d : Int) + 1) = ((d + 1 : Nat) : Int) := by rw [wrap_i64 (by omega) (by omega)]; rfl
    obtain ⟨B, hB'⟩ : ∃ B, B = C.loop ir_undertowref12_Ram_Bytesl0 := ⟨_, rfl⟩
    rw [← hB'] at ih
    rw [← hB', s_loop_at hB']
    simp [ir_undertowref12_Ram_Bytesl0, go_sem, ha.is, ha.rows, hl.is, byV_len, c, hB, litParts, a1, e6, ih, -Int.natCast_add]
  · obtain rfl : d = at_.length := by omega
    rw [s_loop, List.take_of_length_le (by omega)]
    simp [ir_undertowref12_Ram_Bytesl0, go_sem, ha.is, ha.rows, hl.is, byV_len]
termination_by at_.length - d
theorem refBytes_ok' : evI pg .val n_undertowref12_Ram_Bytes [.ip t (av :: lv :: cs) 0] [] = some (ils (byV bytes), []) := by
  have hlp := refBytes_loop t av lv at_ log ha hl cs hL hok hn bytes tags hb ht hbk htk 0 (by omega)
  rw [List.take_zero] at hlp
  have e1 : byV [] = [] := rfl
  rw [e1, show ((0 : Nat) : Int) = 0 from rfl] at hlp
  rw [s_fn fn_undertowref12_Ram_Bytes]
  simp [ir_undertowref12_Ram_Bytes, go_sem, ha.is, hl.is, hlp]
theorem refTags_loop (d : Nat) (hd : d ≤ at_.length) :
    evCI pg (.loop ir_undertowref12_Ram_Tagsl0) ⟨[.ip t (av :: lv :: cs) 0, .undef, .osl false 0 (iI (tags.take d)), .int .i64 (d : Int), .undef, .undef], ⟨[], [d], []⟩⟩ =
      some (.exit 0, ⟨[.ip t (av :: lv :: cs) 0, .undef, .osl false 0 (iI tags), .int .i64 (at_.length : Int), .undef, .bool false], ⟨[], [at_.length], []⟩⟩) := by
  by_cases c : d < at_.length
  · have hB := Byte_ok t av lv at_ log ha hl cs hL hok hn d c
    have v1 := htk d c
    revert hB v1
    generalize lastW at_[d] log d = res
    intro hB v1
    have hdb : d < tags.length := by omega
    have k1 : tags[d] = res.2 := (List.getElem?_eq_some_iff.1 v1).2
    have ih := refTags_loop (d + 1) (by omega)
    have l1 : (tags.take d).length = d := by simp; omega
    rw [List.take_succ_eq_append_getElem hdb, k1] at ih
    have a1 := app_iI (k := 2) (j := 0) (m := ⟨[], [d], []⟩) (l := tags.take d) res.2 (by rw [l1]; rfl) (by omega)
    rw [l1] at a1
    have e6 : IntKind.i64.wrap ((d : Int) + 1) = ((d + 1 : Nat) : Int) := by rw [wrap_i64 (by omega) (by omega)]; rfl
    obtain ⟨B, hB'⟩ : ∃ B, B = C.loop ir_undertowref12_Ram_Tagsl0 := ⟨_, rfl⟩
    rw [← hB'] at ih
    rw [← hB', s_loop_at hB']
    simp [ir_undertowref12_Ram_Tagsl0, go_sem, ha.is, ha.rows, hl.is, byV_len, c, hB, litParts, a1, e6, ih, -Int.natCast_add]
  · obtain rfl : d = at_.length := by omega
    rw [s_loop, List.take_of_length_le (by omega)]
    simp [ir_undertowref12_Ram_Tagsl0, go_sem, ha.is, ha.rows, hl.is, byV_len]
termination_by at_.length - d
theorem refTags_ok' : evI pg .val n_undertowref12_Ram_Tags [.ip t (av :: lv :: cs) 0] [] = some (ils (iI tags), []) := by
  have hlp := refTags_loop t av lv at_ log ha hl cs hL hok hn bytes tags hb ht hbk htk 0 (by omega)
  rw [List.take_zero] at hlp
  have e1 : iI [] = [] := rfl
  rw [e1, show ((0 : Nat) : Int) = 0 from rfl] at hlp
  rw [s_fn fn_undertowref12_Ram_Tags]
  simp [ir_undertowref12_Ram_Tags, go_sem, ha.is, hl.is, hlp]
end
end Go.Proofs.Ytbloiihagbcfpaa
