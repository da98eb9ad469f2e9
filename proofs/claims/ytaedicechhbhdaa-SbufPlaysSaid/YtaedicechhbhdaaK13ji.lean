/- Layer 13: whether the program's buffer is the document's (no claim; lemmas). -/
import Derived.Test.YtaedicechhbhdaaK13jh
import Derived.Test.YtaedicechhbhdaaK13v
set_option linter.unusedSimpArgs false
set_option linter.unusedVariables false
namespace Go.Proofs.Ytaedicechhbhdaa
open Go Go.Vm

theorem app_wsT {m : Mem} {l : List Wr} {w : Wr} (ht : m.tk[0]? = some l.length) (hl : l.length ≤ 900) :
    appV 2 4 32 m (.osl false 0 (wsV l)) (.els [[.int .i64 w.id, .int .i64 w.addr, .int .i64 w.size, .int .u64 (w.data : Int)]]) = some (.osl false 0 (wsV (l ++ [w])), { m with tk := m.tk.set 0 (l.length + 1) }) :=
  app_wsF (l := l) (l' := [w]) (by rfl) ht (by simp only [List.length_singleton]; omega)
theorem same_l0 {u : V} {i : Nat} {g : List SE} (b1 : ∀ m, iaSV 1 m u (.int .i64 (i : Int)) = some (.ip (tg u) [.isl false (seR g)] 0)) (hgl : g.length ≤ 100) (x : V) (j : Nat) (hj : j ≤ g.length) (W : List Wr) (hW : W.length ≤ j) :
    evCI pg (.loop ir_undertowlaw13_samel0) ⟨[.undef, .undef, .undef, x, u, .int .i64 (i : Int), .osl false 0 (wsV W), .int .i64 (j : Int), .undef, .undef, .undef, .undef], ⟨[], [W.length], []⟩⟩ =
      some (.exit 2, ⟨[.undef, .undef, .undef, x, u, .int .i64 (i : Int), .osl false 0 (wsV (W ++ (g.drop j).map Prod.fst)), .int .i64 (g.length : Int), .undef, .undef, .bool false, .undef], ⟨[], [(W ++ (g.drop j).map Prod.fst).length], []⟩⟩) := by
  obtain ⟨B, hB⟩ : ∃ B, B = C.loop ir_undertowlaw13_samel0 := ⟨_, rfl⟩
  by_cases c : j < g.length
  · have e3 := succ_i64 c (by omega)
    have hlen := seR_len g
    have hel : (seR g)[j]? = some (seV g[j]) := by rw [List.getElem?_eq_getElem (by omega), seR_el]
    have hel' : (seR g)[j]'(by omega) = seV g[j] := seR_el _ _ _
    have ea := app_wsT (m := ⟨[], [W.length], []⟩) (l := W) (w := (g[j]).1) rfl (by omega)
    simp only [List.set_cons_zero] at ea
    have ih := same_l0 b1 hgl x (j + 1) (by omega) (W ++ [(g[j]).1]) (by simp; omega)
    rw [List.drop_eq_getElem_cons c, List.map_cons, List.append_cons]
    rw [List.length_append, List.length_singleton] at ih
    rw [← ih, ← hB]
    conv => lhs; rw [s_loop_at hB]
    clear ih
    have hlt : j < (seR g).length := by omega
    simp only [seV] at hel hel'
    simp [ir_undertowlaw13_samel0, go_sem, b1, hlen, c, e3, hel, hel', hlt, ea, litParts, loadAt, V.cells, V.exp, -Int.natCast_add]
  · obtain rfl : j = g.length := by omega
    rw [← hB, s_loop_at hB, List.drop_length]
    have hlen := seR_len g
    simp [ir_undertowlaw13_samel0, go_sem, b1, hlen, loadAt]
termination_by g.length - j
section
variable {u : V} {G : List (List SE)} (hu : Sl u (gR G)) (hGl : ∀ g ∈ G, g.length ≤ 100) (hG : G.length ≤ 100)
include hu hGl
include hG
theorem same_l1 (i : Nat) (hi : i ≤ G.length) :
    evCI pg (.loop ir_undertowlaw13_samel1) ⟨[.undef, .undef, .undef, ils (wwR (G.map fun g => g.map Prod.fst)), u, .int .i64 (i : Int), .undef, .undef, .undef, .undef, .undef, .undef], ⟨[], [0], []⟩⟩ =
      some (.exit 0, ⟨[.undef, .undef, .undef, ils (wwR (G.map fun g => g.map Prod.fst)), u, .int .i64 (G.length : Int), .undef, .undef, .undef, .bool false, .undef, .undef], ⟨[], [0], []⟩⟩) := by
  obtain ⟨B, hB⟩ : ∃ B, B = C.loop ir_undertowlaw13_samel1 := ⟨_, rfl⟩
  have hv := Sl.ils (wwR (G.map fun g => g.map Prod.fst))
  by_cases c : i < G.length
  · have e3 := succ_i64 c (by omega)
    have e1 := fun m => hv.ia (sz := 1) m .i64 (i := i) (by rw [wwR_len, List.length_map]; exact c) (wwR_sz _ _ (List.getElem_mem _))
    simp only [wwR_el, List.getElem_map] at e1
    have b1 : ∀ m, iaSV 1 m u (.int .i64 (i : Int)) = some (.ip (tg u) [.isl false (seR G[i])] 0) := fun m => by
      have := hu.ia (sz := 1) m .i64 (i := i) (by rw [gR_len]; exact c) (gR_all _ _ (List.getElem_mem _))
      rwa [gR_el] at this
    have hkv : ∀ l, killV l u = u := by
      have hu' := hu
      generalize gR G = es at hu'
      cases hu' <;> intro _ <;> rfl
    have h0 := same_l0 b1 (hGl _ (List.getElem_mem c)) (ils (wwR (G.map fun g => g.map Prod.fst))) 0 (by omega) [] (by simp)
    rw [List.drop_zero, List.nil_append, Int.natCast_zero, List.length_nil] at h0
    have e0 : wsV [] = [] := rfl
    rw [e0] at h0
    have hgl := hGl _ (List.getElem_mem c)
    have hS := SameWrites_ok (ils (wsV ((G[i]).map Prod.fst))) (ils (wsV ((G[i]).map Prod.fst))) _ _ (.ils _) (.ils _) (by simp; omega)
    rw [decide_eq_true rfl] at hS
    have ih := same_l1 (i + 1) (by omega)
    rw [← hB] at ih
    rw [← hB, s_loop_at hB, ← ih]
    simp [ir_undertowlaw13_samel1, go_sem, hv.is, hv.rows, wwR_len, c, e1, e3, hkv, h0, hS, loadAt, -Int.natCast_add]
  · obtain rfl : i = G.length := by omega
    rw [← hB, s_loop_at hB]
    simp [ir_undertowlaw13_samel1, go_sem, hv.is, hv.rows, wwR_len]
termination_by G.length - i
end
theorem same_ok {t t' : Bool} {ev lv : V} {L : List SE} {ep : Int} (he : Sl ev (enR (grp L))) (hv : Sl lv (seR L)) (hI : Iv L ep) :
    evI pg .val n_undertowlaw13_same [.ip t [ev, .int .i64 ep] 0, .ip t' [lv, .int .i64 ep] 0] [] = some (.bool true, []) := by
  have hL := hI.len
  have hgl := ents_glen L
  have h1 := Entries_ok t ev (grp L) ep he hI.ok
  have h2 := EntriesD_eq (t := t') (ep := ep) hv hI.adr (by omega)
  have h3 := Empty_ok t ev (grp L) ep he
  have h4 := Elder_ok t ev (grp L) ep he hI.ok
  have h5 := ElderD_ok (t := t') hv hI
  have h6 := Ready_ok t ev (grp L) ep he hI.ok
  have h7 := ReadyD_ok (t := t') hv hI
  have h8 := SameInts_ok (ils (iI (rdy (lea ep (grp L)) (grp L) 0))) (ils (iI (rdy (lea ep (grp L)) (grp L) 0))) _ _ (.ils _) (.ils _) (by have := rdy_len (lea ep (grp L)) (grp L) 0; have := hI.n4; omega)
  rw [decide_eq_true rfl] at h8
  have est : (grp L).map (fun e => e.st) = (ents L).map fun g => g.map Prod.fst := by
    rw [← ents_toE, List.map_map]; rfl
  rw [est] at h1
  have hem : decide ((grp L).length = 0) = decide (L.length = 0) := by
    rw [decide_eq_decide, ← ents_len]
    constructor
    · intro h
      have h0 : grp L = [] := by rw [← ents_toE, List.length_eq_zero_iff.1 h]; rfl
      cases L with
      | nil => rfl
      | cons x L =>
        have := grp_cov (x :: L) x (by simp)
        rw [h0] at this
        simp at this
    · intro h; omega
  rw [hem] at h3
  have hlp := same_l1 (Sl.ils (gR (ents L))) (fun g hg => by have := hgl.2 g hg; omega) (by omega) 0 (by omega)
  rw [Int.natCast_zero] at hlp
  have hl1 : lenV (ils (gR (ents L))) = some (ents L).length := by rw [(Sl.ils (gR (ents L))).len, gR_len]
  have hl2 : lenV (ils (wwR ((ents L).map fun g => g.map Prod.fst))) = some (ents L).length := by rw [(Sl.ils (wwR ((ents L).map fun g => g.map Prod.fst))).len, wwR_len, List.length_map]
  have hlv : lenV lv = some L.length := by rw [hv.len, seR_len]
  have i1 := (Sl.ils (gR (ents L))).is
  have i2 := (Sl.ils (wwR ((ents L).map fun g => g.map Prod.fst))).is
  have r1 := hl1
  have r2 := hl2
  rw [S_len i1] at r1
  rw [S_len i2] at r2
  have r1 := Option.some.inj r1
  have r2 := Option.some.inj r2
  generalize ils (gR (ents L)) = u at *
  generalize ils (wwR ((ents L).map fun g => g.map Prod.fst)) = u2 at *
  rw [s_fn fn_undertowlaw13_same]
  simp [ir_undertowlaw13_same, go_sem, h1, h2, h3, h4, h5, h6, h7, h8, i1, i2, r1, r2, hv.is, hv.rows, seR_len, hlv, hlp]
end Go.Proofs.Ytaedicechhbhdaa
