/- The law GmoHarts returns true whatever it is handed; its row, its card. No condition beside what the row lists. -/
import Derived.Test.YtimiademofajeaaGreatDoorPL23h
import Derived.Test.YtimiademofajeaaGreatDoorCards
import Derived.Test.YtimiademofajeaaGreatDoorTie
import Derived.LaidMore
import Derived.Lay
import Derived.SevenTiedAt
import Derived.Stop.Joined
set_option linter.unusedSimpArgs false
set_option linter.unusedVariables false
namespace Go.Proofs.YtimiademofajeaaGreatDoor.gmoHarts
open Go Go.Vm Go.ChangeShapes Go.WideShapes Go.ChangeAt Go.RowKit
theorem own : ownKnob Tryz.prog.godebug = none := by kernel_rfl
abbrev laid : List (String × DataW Unit) := [("math/bits.deBruijn64tab", Rows.laid_math_bits_deBruijn64tab)]
theorem laid_eq : laid = [("math/bits.deBruijn64tab", .agg (Go.Proofs.YtimiademofajeaaGreatDoor.glN.map fun n => .lit (.int .u8 n)))] := rfl
theorem glob (W : World) (h : laidMetH Tryz.prog laid W) : GI Go.Proofs.YtimiademofajeaaGreatDoor.glT (Gh.imm fun _ b o => ∃ q ∈ Go.Proofs.YtimiademofajeaaGreatDoor.glT, q.1 = b ∧ o < q.2.length) W :=
  gi_of_laid (P := Tryz.prog) (name := "math/bits.deBruijn64tab") (g := 0) (t := 156) (e := 5) (ns := Go.Proofs.YtimiademofajeaaGreatDoor.glN) (by kernel_rfl) (by kernel_rfl) Tryz.underlying156 Tryz.underlying5 (by kernel_rfl) (laid_eq ▸ h)
set_option maxRecDepth 100000 in
theorem lifted (os : Os) (started : os.Started) (H : Type) (enc : TypeId × Value → H) :
    ReturnsInHanded {} Tryz.checked os 6 .any (fun w args => (Rows.gmoHartsSpec.pre enc Tryz.prog Tryz.f6 Rows.gmoHartsRow.domain false w args ∧ laidMetH Tryz.prog laid w) ∧ sizedMet enc Tryz.prog Tryz.f6 (OpenSpec.ofChange Rows.gmoHartsSpec) false w args)
      (Rows.gmoHartsSpec.post enc Tryz.prog Tryz.f6 false true false false) :=
  law_laid (C := Tryz.checked) (n := 8) (tb := 4) (gl := Go.Proofs.YtimiademofajeaaGreatDoor.glT) (laid := laid) os started own (by kernel_rfl) Tryz.func6 (by kernel_rfl) (tgP_ok Tryz.prog) (pgOf_ok Tryz.prog Go.Proofs.YtimiademofajeaaGreatDoor.hints Go.Proofs.YtimiademofajeaaGreatDoor.glT) (by kernel_rfl) (by kernel_rfl) (by kernel_rfl) Tryz.underlying4 rfl
    (fun ds h => by
      match ds, h with
      | [d1, d2, d3], _ => rfl)
    glob
    (ChangeSpec.witness_shaped (enc := enc) (C := Tryz.checked) (os := os) (X := fun w _ => laidMetH Tryz.prog laid w) false (World.laidAll Tryz.prog os laid) #[.agg #[.slice none 0 0, .slice none 0 0, .slice none 0 0, .slice none 0 0, .slice none 0 0], .int .u8 0, .int .u8 0] 8 (World.laidAll_os _ _ _)
      (World.shaped_of_ZipB (by kernel_rfl) (by kernel_rfl)) (by kernel_rfl) (by kernel_rfl) (by kernel_rfl)
      (by rw [MakeChecks.laidMetH_plain _ _ _ (by kernel_rfl)]; exact laidMet_laidAll _ (by kernel_rfl) (by kernel_rfl)))
    Go.Proofs.YtimiademofajeaaGreatDoor.law_harts
theorem over : Rows.gmoHartsRow.holds Tryz.pinned (OpenSpec.ofChange Rows.gmoHartsSpec) :=
  OpenClaim.holds_of_wide 6 Tryz.f6 rfl rfl rfl rfl rfl rfl rfl ⟨rfl, rfl, rfl, rfl, rfl⟩ rfl rfl rfl rfl rfl (by kernel_rfl) Tryz.func6 (by kernel_rfl)
    (of_decide_eq_true (by kernel_rfl)) (by unfold Func.isWrapper; first | (rw [if_pos (by decide +kernel)]; kernel_rfl) | (rw [if_neg (by decide +kernel)]; exact ⟨rfl, rfl⟩))
    (fun os started H enc _ => lifted os started H enc)
/-- The statement. -/
theorem proved : Rows.GmoHartsCardSaid :=
  Claim7.holds_tied_plain_at .later [] [.data] true (true, "8bbab50fce849b24ed388c25f939925cf4c085d432d657e240b29144a6d9a374") false
    over (fun _ h => by cases h) (by kernel_rfl) (fun _ h => by cases h) gmoHarts_row_tie rfl ⟨rfl, rfl⟩ (by kernel_rfl) rfl
    (fun f fn hf hfn => by
      obtain rfl : f = 6 := Option.some.inj ((show Tryz.prog.funcNamed "undertow/undertowlaw23.GmoHarts" = some 6 by kernel_rfl).symm.trans hf) |>.symm
      obtain rfl : fn = Tryz.f6 := (Option.some.inj (Tryz.func6.symm.trans hfn)).symm
      exact ⟨by kernel_rfl, fun j t ht => by
        have hp : Tryz.f6.params = #[27, 5, 5] := by kernel_rfl
        rw [hp] at ht
        have hm : t ∈ [27, 5, 5] := by simpa using Array.mem_of_getElem? ht
        have hall : ([27, 5, 5].all fun u => !Tryz.prog.wantsStandIn u) = true := by kernel_rfl
        exact (show Tryz.prog.wantsStandIn t = false by simpa using List.all_eq_true.1 hall t hm)⟩)
    (by kernel_rfl)
end Go.Proofs.YtimiademofajeaaGreatDoor.gmoHarts
