/-
 PriorityExamples returns true. The table of math/bits.TrailingZeros64 reads as the program's text lays it (tied).
-/
import Derived.Test.YtjijjfkalheokaaDoorFexn
import Derived.Test.YtjijjfkalheokaaDoorG47
import Derived.Test.YtjijjfkalheokaaDoorOpn1
import Derived.Test.YtjijjfkalheokaaDoorTie
import Derived.Test.YtjijjfkalheokaaDoorCards
namespace Go.Proofs.YtjijjfkalheokaaDoor
set_option linter.unusedVariables false
set_option linter.unusedSimpArgs false
open Go.ChangeShapes Go.WideShapes Go.ChangeAt Go.RowKit

theorem pxm_laid : Rows.priorityExamplesRow.laid = MO := by kernel_rfl
theorem pxm_door (os : Os) (args : Array Value) : laidMetH Tryd.prog Rows.priorityExamplesRow.laid ((World.doorLaid Tryd.prog 400 os).forCall (fun _ _ => 0) ⟨#[], args, []⟩).memory :=
 laidMetH_of_parts3 (fuel := 8) (laidMet_of_run' 8 (by kernel_rfl) (by kernel_rfl)) (by kernel_rfl) (by kernel_rfl)
set_option maxRecDepth 100000 in
theorem pxm_lifted (os : Os) (started : os.Started) (H : Type) (enc : TypeId × Value -> H) :
  ReturnsInHanded {} Tryd.checked os 3 .any (fun w args => (Rows.priorityExamplesSpec.pre enc Tryd.prog Tryd.f3 [] false w args /\ laidMetH Tryd.prog Rows.priorityExamplesRow.laid w) /\ sizedMet enc Tryd.prog Tryd.f3 (OpenSpec.ofChange Rows.priorityExamplesSpec) false w args)
   (Rows.priorityExamplesSpec.post enc Tryd.prog Tryd.f3 false true false false) := by
 refine returnsInHanded_of_change_and (C := Tryd.checked) (X := fun w _ => laidMetH Tryd.prog Rows.priorityExamplesRow.laid w) (fun _ _ _ hh h => h.of_heap hh) T6 started (by kernel_rfl) Tryd.func3
  (ChangeSpec.witness_shaped (enc := enc) (C := Tryd.checked) (os := os) (X := fun w _ => laidMetH Tryd.prog Rows.priorityExamplesRow.laid w) false (World.doorLaid Tryd.prog 400 os) #[] 8 rfl (World.shaped_of_RefB (by kernel_rfl) (by kernel_rfl)) (by kernel_rfl) (by kernel_rfl) (by kernel_rfl) (pxm_door os _)) ?_
 intro W base args ds gs before hval0 hW _ _ hL _
 have hW' := hW
 obtain ⟨p, q, hA0, hV, rfl, hfz, hnd⟩ := hW
 have hA : DataW.TrodAll enc Tryd.prog W 0 (fun _ => true) true Tryd.f3.params.toList args.toList ds p := hA0
 rw [Tryd.params3] at hA
 obtain ⟨hargs, rfl, rfl⟩ := trodAll_nil hA
 obtain rfl : args = #[] := by cases args; simp_all
 obtain ⟨rfl, rfl⟩ := trodVars_none hV
 clear hA0 hval0
 rw [pxm_laid] at hL
 refine (I6 (QJ.mono fun r o h => by subst h; rfl) W (IA hL)).mono fun e W' ⟨he, hf⟩ => ?_
 subst he
 have bel := hf.below
 exact ⟨_, rfl, _, _, _, [], _, [], hW', trodAll_mk1 (shut_bool Tryd.underlying4 _), trodAll_mk0, rfl, bel.frame _, fun h => by cases h⟩
theorem pxm_over : Rows.priorityExamplesRow.holds Tryd.pinned (OpenSpec.ofChange Rows.priorityExamplesSpec) :=
 OpenClaim.holds_of_wide 3 Tryd.f3 rfl rfl rfl rfl rfl rfl rfl ⟨rfl, rfl, rfl, rfl, rfl⟩ rfl rfl rfl rfl rfl (by kernel_rfl) Tryd.func3 (by kernel_rfl)
  (gE4 (by kernel_rfl)) (by unfold Func.isWrapper; first | (rw [if_pos (by decide +kernel)]; kernel_rfl) | (rw [if_neg (by decide +kernel)]; exact ⟨rfl, rfl⟩))
  (fun os started H enc _ => pxm_lifted os started H enc)
theorem priorityExamples_card_holds : Rows.PriorityExamplesCardSaid :=
 Claim7.holds_tied_plain_at .later [] [.data] true _ _ pxm_over (fun _ h => by cases h) (by kernel_rfl) (fun _ h => by cases h) priorityExamples_row_tie rfl ⟨rfl, rfl⟩ (by kernel_rfl) rfl
  (fun f fn hf hfn => by
   obtain rfl : f = 3 := Option.some.inj ((show Tryd.prog.funcNamed Rows.priorityExamplesRow.func = some 3 by kernel_rfl).symm.trans hf) |>.symm
   obtain rfl : fn = Tryd.f3 := (Option.some.inj (Tryd.func3.symm.trans hfn)).symm
   exact ⟨by kernel_rfl, fun j t ht => by
    rw [Tryd.params3] at ht
    simp at ht⟩)
  (by kernel_rfl)
end Go.Proofs.YtjijjfkalheokaaDoor
