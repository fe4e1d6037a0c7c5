/-
  DERIVED. GIVEN WITH THE SEED: THE CARDS: each row of YthnkailnoobdoaaGreatDoorRows.lean that lists a variable, with what it lists TIED to the program's text (the seventh form; the later family's looks); each row that meets fmt, with fmt's text TOLD by the authors' own Lean function (tested against real Go, not proved from fmt's source: count such statements apart). THE CARD IS WHAT COUNTS. Prove the row's statement (the work); the ties are given (YthnkailnoobdoaaGreatDoorTie.lean); close each card by the builder's one call (the guide's Derived/Test/ToyasCard.lean, 'card_holds'). Laid BY PROGRAM, IN A SANDBOX (cutbox-door.mjs). By AI agents, Wed Nov 11 2026. No macro, syntax, notation, axiom, sorry.
-/
import Derived.Test.YthnkailnoobdoaaGreatDoorRows
import GoSem.ClaimSeven
namespace Go.Proofs.YthnkailnoobdoaaGreatDoor
namespace Rows

/-- THE TIED CARD OF 'cspchecklaw26.WeakClasses'. -/
def weakClassesCard : Claim7 := { stood := { row := weakClassesRow, standIns := [], harness := (true, "3fdbd15cbc6963a6c0da6e91bf7d1131ccfcf8b180bacc736d2064a7b91db141"), looks := false }, kinds := [], alts := [], laidByText := true, laidKinds := [.data], laidTests := true, laidLooks := .later }
def WeakClassesCardSaid : Prop := Claim7.holds Tryz.pinned (.plain (OpenSpec.ofChange weakClassesSpec)) weakClassesCard

/-- THE TIED CARD OF 'cspchecklaw26.WeakEqual'. -/
def weakEqualCard : Claim7 := { stood := { row := weakEqualRow, standIns := [], harness := (true, "3fdbd15cbc6963a6c0da6e91bf7d1131ccfcf8b180bacc736d2064a7b91db141"), looks := false }, kinds := [], alts := [], laidByText := true, laidKinds := [.data], laidTests := true, laidLooks := .later }
def WeakEqualCardSaid : Prop := Claim7.holds Tryz.pinned (.plain (OpenSpec.ofChange weakEqualSpec)) weakEqualCard

/-- THE TIED CARD OF 'cspchecklaw27.DelayExamples'. -/
def delayExamplesCard : Claim7 := { stood := { row := delayExamplesRow, standIns := [], harness := (true, "3fdbd15cbc6963a6c0da6e91bf7d1131ccfcf8b180bacc736d2064a7b91db141"), looks := false }, kinds := [], alts := [], laidByText := true, laidKinds := [.data], laidTests := true, laidLooks := .later }
def DelayExamplesCardSaid : Prop := Claim7.holds Tryz.pinned (.plain (OpenSpec.ofChange delayExamplesSpec)) delayExamplesCard

/-- THE SECOND FORM's CARD OF 'cspchecklaw26.WeakClasses'. -/
def weakClassesUptoCard : Claim7 := { stood := { row := weakClassesUptoRow, standIns := [], harness := (true, "3fdbd15cbc6963a6c0da6e91bf7d1131ccfcf8b180bacc736d2064a7b91db141"), looks := false }, kinds := [], alts := [], laidByText := true, laidKinds := [.data], laidTests := true, laidLooks := .later }
def WeakClassesUptoCardSaid : Prop := Claim7.holds Tryz.pinned (.plain (OpenSpec.upto weakClassesSpec)) weakClassesUptoCard

/-- THE SECOND FORM's CARD OF 'cspchecklaw26.WeakEqual'. -/
def weakEqualUptoCard : Claim7 := { stood := { row := weakEqualUptoRow, standIns := [], harness := (true, "3fdbd15cbc6963a6c0da6e91bf7d1131ccfcf8b180bacc736d2064a7b91db141"), looks := false }, kinds := [], alts := [], laidByText := true, laidKinds := [.data], laidTests := true, laidLooks := .later }
def WeakEqualUptoCardSaid : Prop := Claim7.holds Tryz.pinned (.plain (OpenSpec.upto weakEqualSpec)) weakEqualUptoCard

/-- THE SECOND FORM's CARD OF 'cspchecklaw27.DelayExamples'. -/
def delayExamplesUptoCard : Claim7 := { stood := { row := delayExamplesUptoRow, standIns := [], harness := (true, "3fdbd15cbc6963a6c0da6e91bf7d1131ccfcf8b180bacc736d2064a7b91db141"), looks := false }, kinds := [], alts := [], laidByText := true, laidKinds := [.data], laidTests := true, laidLooks := .later }
def DelayExamplesUptoCardSaid : Prop := Claim7.holds Tryz.pinned (.plain (OpenSpec.upto delayExamplesSpec)) delayExamplesUptoCard
end Rows
end Go.Proofs.YthnkailnoobdoaaGreatDoor
