/- The law DepsRoots returns true whatever it is handed; its row, its card. No condition beside what the row lists. -/
import Derived.Test.YtkdgcgkmgcmaiaaDoorL21r
import Derived.Test.YtkdgcgkmgcmaiaaDoorCards
import Derived.Test.YtkdgcgkmgcmaiaaDoorTie
import Derived.LaidMore
import Derived.Lay
import Derived.SevenTiedAt
import Derived.Stop.Joined
set_option linter.unusedSimpArgs false
set_option linter.unusedVariables false
namespace Go.Proofs.YtkdgcgkmgcmaiaaDoor.depsRoots
open Go Go.Vm Go.ChangeShapes Go.WideShapes Go.ChangeAt Go.RowKit
theorem own : ownKnob Tryd.prog.godebug = none := by kernel_rfl
abbrev laid : List (String × DataW Unit) := [("math/bits.deBruijn64tab", Rows.laid_math_bits_deBruijn64tab)]
theorem laid_eq : laid = [("math/bits.deBruijn64tab", .agg (Go.Proofs.YtkdgcgkmgcmaiaaDoor.glN.map fun n => .lit (.int .u8 n)))] := rfl
theorem glob (W : World) (h : laidMetH Tryd.prog laid W) : GI Go.Proofs.YtkdgcgkmgcmaiaaDoor.glT (Gh.imm fun _ b o => ∃ q ∈ Go.Proofs.YtkdgcgkmgcmaiaaDoor.glT, q.1 = b ∧ o < q.2.length) W :=
  gi_of_laid (P := Tryd.prog) (name := "math/bits.deBruijn64tab") (g := 0) (t := 86) (e := 5) (ns := Go.Proofs.YtkdgcgkmgcmaiaaDoor.glN) (by kernel_rfl) (by kernel_rfl) Tryd.underlying86 Tryd.underlying5 (by kernel_rfl) (laid_eq ▸ h)
set_option maxRecDepth 100000 in
theorem lifted (os : Os) (started : os.Started) (H : Type) (enc : TypeId × Value → H) :
    ReturnsInHanded {} Tryd.checked os 4 .any (fun w args => (Rows.depsRootsSpec.pre enc Tryd.prog Tryd.f4 Rows.depsRootsRow.domain false w args ∧ laidMetH Tryd.prog laid w) ∧ sizedMet enc Tryd.prog Tryd.f4 (OpenSpec.ofChange Rows.depsRootsSpec) false w args)
      (Rows.depsRootsSpec.post enc Tryd.prog Tryd.f4 false true false false) :=
  law_laid (C := Tryd.checked) (n := 8) (tb := 4) (gl := Go.Proofs.YtkdgcgkmgcmaiaaDoor.glT) (laid := laid) os started own (by kernel_rfl) Tryd.func4 (by kernel_rfl) (tgP_ok Tryd.prog) (pgOf_ok Tryd.prog Go.Proofs.YtkdgcgkmgcmaiaaDoor.hints Go.Proofs.YtkdgcgkmgcmaiaaDoor.glT) (by kernel_rfl) (by kernel_rfl) (by kernel_rfl) Tryd.underlying4 rfl
    (fun ds h => by
      match ds, h with
      | [d1, d2, d3], _ => rfl)
    glob
    (ChangeSpec.witness_shaped (enc := enc) (C := Tryd.checked) (os := os) (X := fun w _ => laidMetH Tryd.prog laid w) false (World.laidAll Tryd.prog os laid) #[.slice none 0 0, .int .i64 0, .int .i64 0] 8 (World.laidAll_os _ _ _)
      (World.shaped_of_ZipB (by kernel_rfl) (by kernel_rfl)) (by kernel_rfl) (by kernel_rfl) (by kernel_rfl)
      (by rw [MakeChecks.laidMetH_plain _ _ _ (by kernel_rfl)]; exact laidMet_laidAll _ (by kernel_rfl) (by kernel_rfl)))
    Go.Proofs.YtkdgcgkmgcmaiaaDoor.law_roots
theorem over : Rows.depsRootsRow.holds Tryd.pinned (OpenSpec.ofChange Rows.depsRootsSpec) :=
  OpenClaim.holds_of_wide 4 Tryd.f4 rfl rfl rfl rfl rfl rfl rfl ⟨rfl, rfl, rfl, rfl, rfl⟩ rfl rfl rfl rfl rfl (by kernel_rfl) Tryd.func4 (by kernel_rfl)
    (of_decide_eq_true (by kernel_rfl)) (by unfold Func.isWrapper; first | (rw [if_pos (by decide +kernel)]; kernel_rfl) | (rw [if_neg (by decide +kernel)]; exact ⟨rfl, rfl⟩))
    (fun os started H enc _ => lifted os started H enc)
/-- The statement. -/
theorem proved : Rows.DepsRootsCardSaid :=
  Claim7.holds_tied_plain_at .later [] [.data] true (true, "769f9c1e20b7e26c5d0e2b0cb5985a7a6fe3dc0fe741f2eca9d2b4b0c4324ae9") false
    over (fun _ h => by cases h) (by kernel_rfl) (fun _ h => by cases h) depsRoots_row_tie rfl ⟨rfl, rfl⟩ (by kernel_rfl) rfl
    (fun f fn hf hfn => by
      obtain rfl : f = 4 := Option.some.inj ((show Tryd.prog.funcNamed "undertow/undertowlaw21.DepsRoots" = some 4 by kernel_rfl).symm.trans hf) |>.symm
      obtain rfl : fn = Tryd.f4 := (Option.some.inj (Tryd.func4.symm.trans hfn)).symm
      exact ⟨by kernel_rfl, fun j t ht => by
        have hp : Tryd.f4.params = #[22, 3, 3] := by kernel_rfl
        rw [hp] at ht
        have hm : t ∈ [22, 3, 3] := by simpa using Array.mem_of_getElem? ht
        have hall : ([22, 3, 3].all fun u => !Tryd.prog.wantsStandIn u) = true := by kernel_rfl
        exact (show Tryd.prog.wantsStandIn t = false by simpa using List.all_eq_true.1 hall t hm)⟩)
    (by kernel_rfl)
end Go.Proofs.YtkdgcgkmgcmaiaaDoor.depsRoots
