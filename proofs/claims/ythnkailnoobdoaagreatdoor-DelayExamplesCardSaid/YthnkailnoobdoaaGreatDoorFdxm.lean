/-
 DelayExamples returns true. The table of math/bits.TrailingZeros64 reads as the program's text lays it (tied).
-/
import Derived.Test.YthnkailnoobdoaaGreatDoorFexn
import Derived.Test.YthnkailnoobdoaaGreatDoorG69
import Derived.Test.YthnkailnoobdoaaGreatDoorOpn1
import Derived.Test.YthnkailnoobdoaaGreatDoorTie
import Derived.Test.YthnkailnoobdoaaGreatDoorCards
namespace Go.Proofs.YthnkailnoobdoaaGreatDoor
set_option linter.unusedVariables false
set_option linter.unusedSimpArgs false
open Go.ChangeShapes Go.WideShapes Go.ChangeAt Go.RowKit

theorem dxm_laid : Rows.delayExamplesRow.laid = Ou := by kernel_rfl
theorem dxm_door (os : Os) (args : Array Value) : laidMetH Tryz.prog Rows.delayExamplesRow.laid ((World.doorLaid Tryz.prog 400 os).forCall (fun _ _ => 0) ⟨#[], args, []⟩).memory :=
 laidMetH_of_parts3 (fuel := 8) (laidMet_of_run' 8 (by kernel_rfl) (by kernel_rfl)) (by kernel_rfl) (by kernel_rfl)
set_option maxRecDepth 100000 in
theorem dxm_lifted (os : Os) (started : os.Started) (H : Type) (enc : TypeId × Value -> H) :
  ReturnsInHanded {} Tryz.checked os 5 .any (fun w args => (Rows.delayExamplesSpec.pre enc Tryz.prog Tryz.f5 [] false w args /\ laidMetH Tryz.prog Rows.delayExamplesRow.laid w) /\ sizedMet enc Tryz.prog Tryz.f5 (OpenSpec.ofChange Rows.delayExamplesSpec) false w args)
   (Rows.delayExamplesSpec.post enc Tryz.prog Tryz.f5 false true false false) := by
 refine returnsInHanded_of_change_and (C := Tryz.checked) (X := fun w _ => laidMetH Tryz.prog Rows.delayExamplesRow.laid w) (fun _ _ _ hh h => h.of_heap hh) Vg started (by kernel_rfl) Tryz.func5
  (ChangeSpec.witness_shaped (enc := enc) (C := Tryz.checked) (os := os) (X := fun w _ => laidMetH Tryz.prog Rows.delayExamplesRow.laid w) false (World.doorLaid Tryz.prog 400 os) #[] 8 rfl (World.shaped_of_RefB (by kernel_rfl) (by kernel_rfl)) (by kernel_rfl) (by kernel_rfl) (by kernel_rfl) (dxm_door os _)) ?_
 intro W base args ds gs before hval0 hW _ _ hL _
 have hW' := hW
 obtain ⟨p, q, hA0, hV, rfl, hfz, hnd⟩ := hW
 have hA : DataW.TrodAll enc Tryz.prog W 0 (fun _ => true) true Tryz.f5.params.toList args.toList ds p := hA0
 rw [Tryz.params5] at hA
 obtain ⟨hargs, rfl, rfl⟩ := trodAll_nil hA
 obtain rfl : args = #[] := by cases args; simp_all
 obtain ⟨rfl, rfl⟩ := trodVars_none hV
 clear hA0 hval0
 rw [dxm_laid] at hL
 refine (To (Zf.mono fun r o h => by subst h; rfl) W (JK hL)).mono fun e W' ⟨he, hf⟩ => ?_
 subst he
 have bel := hf.below
 exact ⟨_, rfl, _, _, _, [], _, [], hW', trodAll_mk1 (shut_bool Tryz.underlying4 _), trodAll_mk0, rfl, bel.frame _, fun h => by cases h⟩
theorem dxm_over : Rows.delayExamplesRow.holds Tryz.pinned (OpenSpec.ofChange Rows.delayExamplesSpec) :=
 OpenClaim.holds_of_wide 5 Tryz.f5 rfl rfl rfl rfl rfl rfl rfl ⟨rfl, rfl, rfl, rfl, rfl⟩ rfl rfl rfl rfl rfl (by kernel_rfl) Tryz.func5 (by kernel_rfl)
  (gE4 (by kernel_rfl)) (by unfold Func.isWrapper; first | (rw [if_pos (by decide +kernel)]; kernel_rfl) | (rw [if_neg (by decide +kernel)]; exact ⟨rfl, rfl⟩))
  (fun os started H enc _ => dxm_lifted os started H enc)
theorem delayExamples_card_holds : Rows.DelayExamplesCardSaid :=
 Claim7.holds_tied_plain_at .later [] [.data] true _ _ dxm_over (fun _ h => by cases h) (by kernel_rfl) (fun _ h => by cases h) delayExamples_row_tie rfl ⟨rfl, rfl⟩ (by kernel_rfl) rfl
  (fun f fn hf hfn => by
   obtain rfl : f = 5 := Option.some.inj ((show Tryz.prog.funcNamed Rows.delayExamplesRow.func = some 5 by kernel_rfl).symm.trans hf) |>.symm
   obtain rfl : fn = Tryz.f5 := (Option.some.inj (Tryz.func5.symm.trans hfn)).symm
   exact ⟨by kernel_rfl, fun j t ht => by
    rw [Tryz.params5] at ht
    simp at ht⟩)
  (by kernel_rfl)
end Go.Proofs.YthnkailnoobdoaaGreatDoor
