/- The law DepsApart returns true whatever it is handed; its row, its card. No condition beside what the row lists. -/
import Derived.Test.YtkdgcgkmgcmaiaaDoorL21a
import Derived.Test.YtkdgcgkmgcmaiaaDoorCards
import Derived.Test.YtkdgcgkmgcmaiaaDoorTie
import Derived.LaidMore
import Derived.Lay
import Derived.SevenTiedAt
import Derived.Stop.Joined
set_option linter.unusedSimpArgs false
set_option linter.unusedVariables false
namespace Go.Proofs.YtkdgcgkmgcmaiaaDoor.depsApart
open Go Go.Vm Go.ChangeShapes Go.WideShapes Go.ChangeAt Go.RowKit
theorem own : ownKnob Tryd.prog.godebug = none := by kernel_rfl
abbrev laid : List (String × DataW Unit) := [("math/bits.deBruijn64tab", Rows.laid_math_bits_deBruijn64tab)]
theorem laid_eq : laid = [("math/bits.deBruijn64tab", .agg (Go.Proofs.YtkdgcgkmgcmaiaaDoor.glN.map fun n => .lit (.int .u8 n)))] := rfl
theorem glob (W : World) (h : laidMetH Tryd.prog laid W) : GI Go.Proofs.YtkdgcgkmgcmaiaaDoor.glT (Gh.imm fun _ b o => ∃ q ∈ Go.Proofs.YtkdgcgkmgcmaiaaDoor.glT, q.1 = b ∧ o < q.2.length) W :=
  gi_of_laid (P := Tryd.prog) (name := "math/bits.deBruijn64tab") (g := 0) (t := 86) (e := 5) (ns := Go.Proofs.YtkdgcgkmgcmaiaaDoor.glN) (by kernel_rfl) (by kernel_rfl) Tryd.underlying86 Tryd.underlying5 (by kernel_rfl) (laid_eq ▸ h)
set_option maxRecDepth 100000 in
theorem lifted (os : Os) (started : os.Started) (H : Type) (enc : TypeId × Value → H) :
    ReturnsInHanded {} Tryd.checked os 6 .any (fun w args => (Rows.depsApartSpec.pre enc Tryd.prog Tryd.f6 Rows.depsApartRow.domain false w args ∧ laidMetH Tryd.prog laid w) ∧ sizedMet enc Tryd.prog Tryd.f6 (OpenSpec.ofChange Rows.depsApartSpec) false w args)
      (Rows.depsApartSpec.post enc Tryd.prog Tryd.f6 false true false false) :=
  law_laid (C := Tryd.checked) (n := 8) (tb := 4) (gl := Go.Proofs.YtkdgcgkmgcmaiaaDoor.glT) (laid := laid) os started own (by kernel_rfl) Tryd.func6 (by kernel_rfl) (tgP_ok Tryd.prog) (pgOf_ok Tryd.prog Go.Proofs.YtkdgcgkmgcmaiaaDoor.hints Go.Proofs.YtkdgcgkmgcmaiaaDoor.glT) (by kernel_rfl) (by kernel_rfl) (by kernel_rfl) Tryd.underlying4 rfl
    (fun ds h => by
      match ds, h with
      | [d1, d2, d3], _ => rfl)
    glob
    (ChangeSpec.witness_shaped (enc := enc) (C := Tryd.checked) (os := os) (X := fun w _ => laidMetH Tryd.prog laid w) false (World.laidAll Tryd.prog os laid) #[.slice none 0 0, .int .u8 0, .agg #[.int .i64 0, .int .i64 0, .int .i64 0, .int .i64 0, .int .i64 0, .bool false, .bool false, .int .i64 0, .int .i64 0]] 8 (World.laidAll_os _ _ _)
      (World.shaped_of_ZipB (by kernel_rfl) (by kernel_rfl)) (by kernel_rfl) (by kernel_rfl) (by kernel_rfl)
      (by rw [MakeChecks.laidMetH_plain _ _ _ (by kernel_rfl)]; exact laidMet_laidAll _ (by kernel_rfl) (by kernel_rfl)))
    Go.Proofs.YtkdgcgkmgcmaiaaDoor.law_apart
theorem over : Rows.depsApartRow.holds Tryd.pinned (OpenSpec.ofChange Rows.depsApartSpec) :=
  OpenClaim.holds_of_wide 6 Tryd.f6 rfl rfl rfl rfl rfl rfl rfl ⟨rfl, rfl, rfl, rfl, rfl⟩ rfl rfl rfl rfl rfl (by kernel_rfl) Tryd.func6 (by kernel_rfl)
    (of_decide_eq_true (by kernel_rfl)) (by unfold Func.isWrapper; first | (rw [if_pos (by decide +kernel)]; kernel_rfl) | (rw [if_neg (by decide +kernel)]; exact ⟨rfl, rfl⟩))
    (fun os started H enc _ => lifted os started H enc)
/-- The statement. -/
theorem proved : Rows.DepsApartCardSaid :=
  Claim7.holds_tied_plain_at .later [] [.data] true (true, "769f9c1e20b7e26c5d0e2b0cb5985a7a6fe3dc0fe741f2eca9d2b4b0c4324ae9") false
    over (fun _ h => by cases h) (by kernel_rfl) (fun _ h => by cases h) depsApart_row_tie rfl ⟨rfl, rfl⟩ (by kernel_rfl) rfl
    (fun f fn hf hfn => by
      obtain rfl : f = 6 := Option.some.inj ((show Tryd.prog.funcNamed "undertow/undertowlaw21.DepsApart" = some 6 by kernel_rfl).symm.trans hf) |>.symm
      obtain rfl : fn = Tryd.f6 := (Option.some.inj (Tryd.func6.symm.trans hfn)).symm
      exact ⟨by kernel_rfl, fun j t ht => by
        have hp : Tryd.f6.params = #[22, 5, 43] := by kernel_rfl
        rw [hp] at ht
        have hm : t ∈ [22, 5, 43] := by simpa using Array.mem_of_getElem? ht
        have hall : ([22, 5, 43].all fun u => !Tryd.prog.wantsStandIn u) = true := by kernel_rfl
        exact (show Tryd.prog.wantsStandIn t = false by simpa using List.all_eq_true.1 hall t hm)⟩)
    (by kernel_rfl)
end Go.Proofs.YtkdgcgkmgcmaiaaDoor.depsApart
