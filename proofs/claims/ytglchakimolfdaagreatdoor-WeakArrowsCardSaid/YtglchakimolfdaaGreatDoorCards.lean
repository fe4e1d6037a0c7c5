/-
  DERIVED. GIVEN WITH THE SEED: THE CARDS: each row of YtglchakimolfdaaGreatDoorRows.lean that lists a variable, with what it lists TIED to the program's text (the seventh form; the later family's looks); each row that meets fmt, with fmt's text TOLD by the authors' own Lean function (tested against real Go, not proved from fmt's source: count such statements apart). THE CARD IS WHAT COUNTS. Prove the row's statement (the work); the ties are given (YtglchakimolfdaaGreatDoorTie.lean); close each card by the builder's one call (the guide's Derived/Test/ToyasCard.lean, 'card_holds'). Laid BY PROGRAM, IN A SANDBOX (cutbox-door.mjs). By AI agents, Wed Nov 11 2026. No macro, syntax, notation, axiom, sorry.
-/
import Derived.Test.YtglchakimolfdaaGreatDoorRows
import GoSem.ClaimSeven
namespace Go.Proofs.YtglchakimolfdaaGreatDoor
namespace Rows

/-- THE TIED CARD OF 'cspchecklaw26.WeakClasses'. -/
def weakClassesCard : Claim7 := { stood := { row := weakClassesRow, standIns := [], harness := (true, "c017d00e8eeec48b810ccbf8096f861f96aee0819199717d82b88ca972d7fff7"), looks := false }, kinds := [], alts := [], laidByText := true, laidKinds := [.data], laidTests := true, laidLooks := .later }
def WeakClassesCardSaid : Prop := Claim7.holds Tryz.pinned (.plain (OpenSpec.ofChange weakClassesSpec)) weakClassesCard

/-- THE TIED CARD OF 'cspchecklaw26.WeakQuotient'. -/
def weakQuotientCard : Claim7 := { stood := { row := weakQuotientRow, standIns := [], harness := (true, "c017d00e8eeec48b810ccbf8096f861f96aee0819199717d82b88ca972d7fff7"), looks := false }, kinds := [], alts := [], laidByText := true, laidKinds := [.data], laidTests := true, laidLooks := .later }
def WeakQuotientCardSaid : Prop := Claim7.holds Tryz.pinned (.plain (OpenSpec.ofChange weakQuotientSpec)) weakQuotientCard

/-- THE TIED CARD OF 'cspchecklaw26.WeakArrows'. -/
def weakArrowsCard : Claim7 := { stood := { row := weakArrowsRow, standIns := [], harness := (true, "c017d00e8eeec48b810ccbf8096f861f96aee0819199717d82b88ca972d7fff7"), looks := false }, kinds := [], alts := [], laidByText := true, laidKinds := [.data], laidTests := true, laidLooks := .later }
def WeakArrowsCardSaid : Prop := Claim7.holds Tryz.pinned (.plain (OpenSpec.ofChange weakArrowsSpec)) weakArrowsCard

/-- THE TIED CARD OF 'cspchecklaw27.DelayExamples'. -/
def delayExamplesCard : Claim7 := { stood := { row := delayExamplesRow, standIns := [], harness := (true, "c017d00e8eeec48b810ccbf8096f861f96aee0819199717d82b88ca972d7fff7"), looks := false }, kinds := [], alts := [], laidByText := true, laidKinds := [.data], laidTests := true, laidLooks := .later }
def DelayExamplesCardSaid : Prop := Claim7.holds Tryz.pinned (.plain (OpenSpec.ofChange delayExamplesSpec)) delayExamplesCard

/-- THE SECOND FORM's CARD OF 'cspchecklaw26.WeakClasses'. -/
def weakClassesUptoCard : Claim7 := { stood := { row := weakClassesUptoRow, standIns := [], harness := (true, "c017d00e8eeec48b810ccbf8096f861f96aee0819199717d82b88ca972d7fff7"), looks := false }, kinds := [], alts := [], laidByText := true, laidKinds := [.data], laidTests := true, laidLooks := .later }
def WeakClassesUptoCardSaid : Prop := Claim7.holds Tryz.pinned (.plain (OpenSpec.upto weakClassesSpec)) weakClassesUptoCard

/-- THE SECOND FORM's CARD OF 'cspchecklaw26.WeakQuotient'. -/
def weakQuotientUptoCard : Claim7 := { stood := { row := weakQuotientUptoRow, standIns := [], harness := (true, "c017d00e8eeec48b810ccbf8096f861f96aee0819199717d82b88ca972d7fff7"), looks := false }, kinds := [], alts := [], laidByText := true, laidKinds := [.data], laidTests := true, laidLooks := .later }
def WeakQuotientUptoCardSaid : Prop := Claim7.holds Tryz.pinned (.plain (OpenSpec.upto weakQuotientSpec)) weakQuotientUptoCard

/-- THE SECOND FORM's CARD OF 'cspchecklaw26.WeakArrows'. -/
def weakArrowsUptoCard : Claim7 := { stood := { row := weakArrowsUptoRow, standIns := [], harness := (true, "c017d00e8eeec48b810ccbf8096f861f96aee0819199717d82b88ca972d7fff7"), looks := false }, kinds := [], alts := [], laidByText := true, laidKinds := [.data], laidTests := true, laidLooks := .later }
def WeakArrowsUptoCardSaid : Prop := Claim7.holds Tryz.pinned (.plain (OpenSpec.upto weakArrowsSpec)) weakArrowsUptoCard

/-- THE SECOND FORM's CARD OF 'cspchecklaw27.DelayExamples'. -/
def delayExamplesUptoCard : Claim7 := { stood := { row := delayExamplesUptoRow, standIns := [], harness := (true, "c017d00e8eeec48b810ccbf8096f861f96aee0819199717d82b88ca972d7fff7"), looks := false }, kinds := [], alts := [], laidByText := true, laidKinds := [.data], laidTests := true, laidLooks := .later }
def DelayExamplesUptoCardSaid : Prop := Claim7.holds Tryz.pinned (.plain (OpenSpec.upto delayExamplesSpec)) delayExamplesUptoCard
end Rows
end Go.Proofs.YtglchakimolfdaaGreatDoor
