/- The law PpoFree returns true whatever it is handed; its row, its card. No condition beside what the row lists. -/
import Derived.Test.YtccdkkgimaajbaaDoorL22b
import Derived.Test.YtccdkkgimaajbaaDoorCards
import Derived.Test.YtccdkkgimaajbaaDoorTie
import Derived.LaidMore
import Derived.Lay
import Derived.SevenTiedAt
import Derived.Stop.Joined
set_option linter.unusedSimpArgs false
set_option linter.unusedVariables false
namespace Go.Proofs.YtccdkkgimaajbaaDoor.ppoFree
open Go Go.Vm Go.ChangeShapes Go.WideShapes Go.ChangeAt Go.RowKit
theorem own : ownKnob Tryd.prog.godebug = none := by kernel_rfl
abbrev laid : List (String × DataW Unit) := [("math/bits.deBruijn64tab", Rows.laid_math_bits_deBruijn64tab)]
theorem laid_eq : laid = [("math/bits.deBruijn64tab", .agg (Go.Proofs.YtccdkkgimaajbaaDoor.glN.map fun n => .lit (.int .u8 n)))] := rfl
theorem glob (W : World) (h : laidMetH Tryd.prog laid W) : GI Go.Proofs.YtccdkkgimaajbaaDoor.glT (Gh.imm fun _ b o => ∃ q ∈ Go.Proofs.YtccdkkgimaajbaaDoor.glT, q.1 = b ∧ o < q.2.length) W :=
  gi_of_laid (P := Tryd.prog) (name := "math/bits.deBruijn64tab") (g := 0) (t := 98) (e := 5) (ns := Go.Proofs.YtccdkkgimaajbaaDoor.glN) (by kernel_rfl) (by kernel_rfl) Tryd.underlying98 Tryd.underlying5 (by kernel_rfl) (laid_eq ▸ h)
set_option maxRecDepth 100000 in
theorem lifted (os : Os) (started : os.Started) (H : Type) (enc : TypeId × Value → H) :
    ReturnsInHanded {} Tryd.checked os 5 .any (fun w args => (Rows.ppoFreeSpec.pre enc Tryd.prog Tryd.f5 Rows.ppoFreeRow.domain false w args ∧ laidMetH Tryd.prog laid w) ∧ sizedMet enc Tryd.prog Tryd.f5 (OpenSpec.ofChange Rows.ppoFreeSpec) false w args)
      (Rows.ppoFreeSpec.post enc Tryd.prog Tryd.f5 false true false false) :=
  law_laid (C := Tryd.checked) (n := 8) (tb := 4) (gl := Go.Proofs.YtccdkkgimaajbaaDoor.glT) (laid := laid) os started own (by kernel_rfl) Tryd.func5 (by kernel_rfl) (tgP_ok Tryd.prog) (pgOf_ok Tryd.prog Go.Proofs.YtccdkkgimaajbaaDoor.hints Go.Proofs.YtccdkkgimaajbaaDoor.glT) (by kernel_rfl) (by kernel_rfl) (by kernel_rfl) Tryd.underlying4 rfl
    (fun ds h => by
      match ds, h with
      | [d1, d2, d3], _ => rfl)
    glob
    (ChangeSpec.witness_shaped (enc := enc) (C := Tryd.checked) (os := os) (X := fun w _ => laidMetH Tryd.prog laid w) false (World.laidAll Tryd.prog os laid) #[.int .u8 0, .slice none 0 0, .slice none 0 0] 8 (World.laidAll_os _ _ _)
      (World.shaped_of_ZipB (by kernel_rfl) (by kernel_rfl)) (by kernel_rfl) (by kernel_rfl) (by kernel_rfl)
      (by rw [MakeChecks.laidMetH_plain _ _ _ (by kernel_rfl)]; exact laidMet_laidAll _ (by kernel_rfl) (by kernel_rfl)))
    Go.Proofs.YtccdkkgimaajbaaDoor.law_free
theorem over : Rows.ppoFreeRow.holds Tryd.pinned (OpenSpec.ofChange Rows.ppoFreeSpec) :=
  OpenClaim.holds_of_wide 5 Tryd.f5 rfl rfl rfl rfl rfl rfl rfl ⟨rfl, rfl, rfl, rfl, rfl⟩ rfl rfl rfl rfl rfl (by kernel_rfl) Tryd.func5 (by kernel_rfl)
    (of_decide_eq_true (by kernel_rfl)) (by unfold Func.isWrapper; first | (rw [if_pos (by decide +kernel)]; kernel_rfl) | (rw [if_neg (by decide +kernel)]; exact ⟨rfl, rfl⟩))
    (fun os started H enc _ => lifted os started H enc)
/-- The statement. -/
theorem proved : Rows.PpoFreeCardSaid :=
  Claim7.holds_tied_plain_at .later [] [.data] true (true, "5eb0e8bdb8a748fb9074a0839297c8eac1d5cabb794b4474663b053a4aec61ca") false
    over (fun _ h => by cases h) (by kernel_rfl) (fun _ h => by cases h) ppoFree_row_tie rfl ⟨rfl, rfl⟩ (by kernel_rfl) rfl
    (fun f fn hf hfn => by
      obtain rfl : f = 5 := Option.some.inj ((show Tryd.prog.funcNamed "undertow/undertowlaw22.PpoFree" = some 5 by kernel_rfl).symm.trans hf) |>.symm
      obtain rfl : fn = Tryd.f5 := (Option.some.inj (Tryd.func5.symm.trans hfn)).symm
      exact ⟨by kernel_rfl, fun j t ht => by
        have hp : Tryd.f5.params = #[5, 22, 22] := by kernel_rfl
        rw [hp] at ht
        have hm : t ∈ [5, 22, 22] := by simpa using Array.mem_of_getElem? ht
        have hall : ([5, 22, 22].all fun u => !Tryd.prog.wantsStandIn u) = true := by kernel_rfl
        exact (show Tryd.prog.wantsStandIn t = false by simpa using List.all_eq_true.1 hall t hm)⟩)
    (by kernel_rfl)
end Go.Proofs.YtccdkkgimaajbaaDoor.ppoFree
