/- The law DepsHang returns true of every list that its second form speaks of: of bulk at most 1048576; its row, its card. No condition beside that, and what the row lists. -/
import Derived.Test.YtkdgcgkmgcmaiaaDoorWU
import Derived.Test.YtkdgcgkmgcmaiaaDoorL21h
import Derived.Test.YtkdgcgkmgcmaiaaDoorCards
import Derived.Test.YtkdgcgkmgcmaiaaDoorTie
import Derived.LaidMore
import Derived.Lay
import Derived.SevenTiedAt
import Derived.Stop.Joined
import Derived.JoinedCond
import Derived.Deep.DeepHandedRow
import Derived.WalkKit
import Derived.ProofKit
import Derived.OpenShut
set_option linter.unusedSimpArgs false
set_option linter.unusedVariables false
namespace Go.Proofs.YtkdgcgkmgcmaiaaDoor.depsHang
open Go Go.Vm Go.ChangeShapes Go.WideShapes Go.ChangeAt Go.RowKit

theorem own : ownKnob Tryd.prog.godebug = none := by kernel_rfl
abbrev laid : List (String × DataW Unit) := [("math/bits.deBruijn64tab", Rows.laid_math_bits_deBruijn64tab)]
theorem laid_eq : laid = [("math/bits.deBruijn64tab", .agg (Go.Proofs.YtkdgcgkmgcmaiaaDoor.glN.map fun n => .lit (.int .u8 n)))] := rfl
theorem glob (W : World) (h : laidMetH Tryd.prog laid W) : GI Go.Proofs.YtkdgcgkmgcmaiaaDoor.glT (Gh.imm fun _ b o => ∃ q ∈ Go.Proofs.YtkdgcgkmgcmaiaaDoor.glT, q.1 = b ∧ o < q.2.length) W :=
  gi_of_laid (P := Tryd.prog) (name := "math/bits.deBruijn64tab") (g := 0) (t := 86) (e := 5) (ns := Go.Proofs.YtkdgcgkmgcmaiaaDoor.glN) (by kernel_rfl) (by kernel_rfl) Tryd.underlying86 Tryd.underlying5 (by kernel_rfl) (laid_eq ▸ h)
theorem bulk_len {H : Type} : ∀ l : List (DataW H), l.length ≤ Rows.uptoBulkAll l
  | [] => by simp
  | d :: l => by
    have h1 : 1 ≤ Rows.uptoBulk d := by
      cases d with
      | lit l => cases l <;> simp [Rows.uptoBulk]
      | nil => simp [Rows.uptoBulk]
      | ptr d => simp [Rows.uptoBulk]
      | slice elems spare => simp [Rows.uptoBulk]
      | agg parts => simp [Rows.uptoBulk]
      | iface t d => simp [Rows.uptoBulk]
      | map entries => simp [Rows.uptoBulk]
      | held h => simp [Rows.uptoBulk]
    have h2 := bulk_len l
    simp only [Rows.uptoBulkAll, List.length_cons]
    omega
theorem law : ∀ vs, PArgs Tryd.prog 8 Tryd.f3.params.toList vs → (∀ es, vs = [.isl false es] → es.length ≤ 1048576) → ∃ k, evF pg k .val 3 vs [] = some (.bool true, []) := by
  intro vs h hb
  obtain ⟨v1, _, rfl, h1, rfl⟩ := h
  rcases arg_slice (n := 7) Tryd.underlying22 h1 with rfl | ⟨es, rfl, hl, hes⟩
  · exact (evI_iff (Go.Vm.hx _ _ _)).1 (DepsHang_true .nils [] .nils (by simp) (by simp))
  · obtain ⟨l, rfl, hok⟩ := pv_ins (n := 5) es hes
    have := hb _ rfl
    rw [inR_len] at this
    exact (evI_iff (Go.Vm.hx _ _ _)).1 (DepsHang_true (.isl false (inR l)) l (.isl _ _) hok this)
theorem reads (os : Os) {H : Type} (enc : TypeId × Value → H) : ∃ places, DataW.whole enc Tryd.prog ((World.laidAll Tryd.prog os laid).forCall (fun _ _ => 0) ⟨#[], #[.slice none 0 0], []⟩).memory Tryd.f3.params.toList Rows.depsHangSpec.vars false #[Value.slice none 0 0].toList 8 = some ([.nil], [], places) :=
  ⟨[], by kernel_rfl⟩
theorem laid_met (os : Os) : laidMetH Tryd.prog laid ((World.laidAll Tryd.prog os laid).forCall (fun _ _ => 0) ⟨#[], #[.slice none 0 0], []⟩).memory := by
  rw [MakeChecks.laidMetH_plain _ _ _ (by kernel_rfl)]
  exact laidMet_laidAll _ (by kernel_rfl) (by kernel_rfl)
set_option maxRecDepth 100000 in
theorem lifted (os : Os) (started : os.Started) (H : Type) (enc : TypeId × Value → H) (F : Stop.Interp) :
    ReturnsInHanded {} Tryd.checked os 3 .any ((Rows.OpenSpec.upto Rows.depsHangSpec).preRow enc Tryd.prog Tryd.f3 Rows.depsHangUptoRow.domain false Rows.depsHangUptoRow.laid) (((Rows.OpenSpec.upto Rows.depsHangSpec).at F).post enc Tryd.prog Tryd.f3 false true false false) := by
  obtain ⟨places, hx⟩ := reads os enc
  refine returnsInHanded_of_row (C := Tryd.checked) (s := Rows.OpenSpec.upto Rows.depsHangSpec) own started (by kernel_rfl) Tryd.func3
    (witness_row_at (enc := enc) (C := Tryd.checked) false (World.laidAll Tryd.prog os laid) #[.slice none 0 0] (World.laidAll_os _ _ _) (by kernel_rfl) (by kernel_rfl) (by kernel_rfl)
      (OpenSpec.preRow_of_cond 8 hx (by kernel_rfl) (fun k hk => by cases hk; kernel_rfl) (by kernel_rfl) (laid_met os))) ?_
  intro W base args ds gs before hval hW _ hcond _ hL _ _
  have hc : Rows.uptoSmall H (ds ++ gs) = true := hcond _ rfl
  have hc2 : Rows.uptoBulkAll (ds ++ gs) ≤ 1048576 := of_decide_eq_true hc
  exact law_core_up (C := Tryd.checked) (n := 8) (tb := 4) (t := 22) (e := 43) (gl := Go.Proofs.YtkdgcgkmgcmaiaaDoor.glT) 1048576 (by kernel_rfl) (tgP_ok Tryd.prog) (pgOf_ok Tryd.prog Go.Proofs.YtkdgcgkmgcmaiaaDoor.hints Go.Proofs.YtkdgcgkmgcmaiaaDoor.glT) (by kernel_rfl) (by kernel_rfl) (by kernel_rfl) Tryd.underlying4 rfl
    (fun ds h => by
      match ds, h with
      | [d], _ => rfl) (by kernel_rfl) Tryd.underlying22 law hval hW (glob W hL)
    (fun elems spare h => by
      subst h
      have h1 := bulk_len elems
      simp only [List.cons_append, Rows.uptoBulkAll, Rows.uptoBulk] at hc2
      omega)
theorem over : Rows.depsHangUptoRow.holds Tryd.pinned (Rows.OpenSpec.upto Rows.depsHangSpec) :=
  OpenClaim.holds_of_cond 3 Tryd.f3 rfl rfl rfl rfl rfl rfl rfl ⟨rfl, rfl, rfl, rfl, rfl⟩ rfl rfl rfl rfl rfl (by kernel_rfl) Tryd.func3 (by kernel_rfl)
    (of_decide_eq_true (by kernel_rfl)) (by unfold Func.isWrapper; first | (rw [if_pos (by decide +kernel)]; kernel_rfl) | (rw [if_neg (by decide +kernel)]; exact ⟨rfl, rfl⟩))
    (fun os started H enc _ F => by rw [OpenClaim.pre_eq_preRow]; exact lifted os started H enc F)
/-- The statement. -/
theorem proved : Rows.DepsHangUptoCardSaid :=
  Claim7.holds_tied_plain_at .later [] _ _ _ _ over (fun _ h => by cases h) (by kernel_rfl) (fun _ h => by cases h) depsHangUpto_row_tie rfl ⟨rfl, rfl⟩ (by kernel_rfl) rfl
    (fun f fn hf hfn => by
      obtain rfl : f = 3 := Option.some.inj ((show Tryd.prog.funcNamed "undertow/undertowlaw21.DepsHang" = some 3 by kernel_rfl).symm.trans hf) |>.symm
      obtain rfl : fn = Tryd.f3 := (Option.some.inj (Tryd.func3.symm.trans hfn)).symm
      exact ⟨by kernel_rfl, fun j t ht => by
        have hp : Tryd.f3.params = #[22] := by kernel_rfl
        rw [hp] at ht
        obtain rfl : t = 22 := by simpa using Array.mem_of_getElem? ht
        exact (show Tryd.prog.wantsStandIn 22 = false by kernel_rfl)⟩)
    (by kernel_rfl)
end Go.Proofs.YtkdgcgkmgcmaiaaDoor.depsHang
