/-
  DERIVED. GIVEN WITH THE SEED: THE CARDS: each row of YtjijjfkalheokaaGreatDoorRows.lean that lists a variable, with what it lists TIED to the program's text (the seventh form; the later family's looks); each row that meets fmt, with fmt's text TOLD by the authors' own Lean function (tested against real Go, not proved from fmt's source: count such statements apart). THE CARD IS WHAT COUNTS. Prove the row's statement (the work); the ties are given (YtjijjfkalheokaaGreatDoorTie.lean); close each card by the builder's one call (the guide's Derived/Test/ToyasCard.lean, 'card_holds'). Laid BY PROGRAM, IN A SANDBOX (cutbox-door.mjs). By AI agents, Wed Nov 11 2026. No macro, syntax, notation, axiom, sorry.
-/
import Derived.Test.YtjijjfkalheokaaGreatDoorRows
import GoSem.ClaimSeven
namespace Go.Proofs.YtjijjfkalheokaaGreatDoor
namespace Rows

/-- THE TIED CARD OF 'cspchecklaw29.PriorityChase'. -/
def priorityChaseCard : Claim7 := { stood := { row := priorityChaseRow, standIns := [], harness := (true, "7b597a7488ea2ebb0ea20e3ef4c43676f26d9c79a609115a4087c660535a57a9"), looks := false }, kinds := [], alts := [], laidByText := true, laidKinds := [.data], laidTests := true, laidLooks := .later }
def PriorityChaseCardSaid : Prop := Claim7.holds Tryz.pinned (.plain (OpenSpec.ofChange priorityChaseSpec)) priorityChaseCard

/-- THE TIED CARD OF 'cspchecklaw29.PriorityInert'. -/
def priorityInertCard : Claim7 := { stood := { row := priorityInertRow, standIns := [], harness := (true, "7b597a7488ea2ebb0ea20e3ef4c43676f26d9c79a609115a4087c660535a57a9"), looks := false }, kinds := [], alts := [], laidByText := true, laidKinds := [.data], laidTests := true, laidLooks := .later }
def PriorityInertCardSaid : Prop := Claim7.holds Tryz.pinned (.plain (OpenSpec.ofChange priorityInertSpec)) priorityInertCard

/-- THE TIED CARD OF 'cspchecklaw26.WeakCoarser'. -/
def weakCoarserCard : Claim7 := { stood := { row := weakCoarserRow, standIns := [], harness := (true, "7b597a7488ea2ebb0ea20e3ef4c43676f26d9c79a609115a4087c660535a57a9"), looks := false }, kinds := [], alts := [], laidByText := true, laidKinds := [.data], laidTests := true, laidLooks := .later }
def WeakCoarserCardSaid : Prop := Claim7.holds Tryz.pinned (.plain (OpenSpec.ofChange weakCoarserSpec)) weakCoarserCard

/-- THE TIED CARD OF 'cspchecklaw27.DelayBetween'. -/
def delayBetweenCard : Claim7 := { stood := { row := delayBetweenRow, standIns := [], harness := (true, "7b597a7488ea2ebb0ea20e3ef4c43676f26d9c79a609115a4087c660535a57a9"), looks := false }, kinds := [], alts := [], laidByText := true, laidKinds := [.data], laidTests := true, laidLooks := .later }
def DelayBetweenCardSaid : Prop := Claim7.holds Tryz.pinned (.plain (OpenSpec.ofChange delayBetweenSpec)) delayBetweenCard

/-- THE SECOND FORM's CARD OF 'cspchecklaw29.PriorityChase'. -/
def priorityChaseUptoCard : Claim7 := { stood := { row := priorityChaseUptoRow, standIns := [], harness := (true, "7b597a7488ea2ebb0ea20e3ef4c43676f26d9c79a609115a4087c660535a57a9"), looks := false }, kinds := [], alts := [], laidByText := true, laidKinds := [.data], laidTests := true, laidLooks := .later }
def PriorityChaseUptoCardSaid : Prop := Claim7.holds Tryz.pinned (.plain (OpenSpec.upto priorityChaseSpec)) priorityChaseUptoCard

/-- THE SECOND FORM's CARD OF 'cspchecklaw29.PriorityInert'. -/
def priorityInertUptoCard : Claim7 := { stood := { row := priorityInertUptoRow, standIns := [], harness := (true, "7b597a7488ea2ebb0ea20e3ef4c43676f26d9c79a609115a4087c660535a57a9"), looks := false }, kinds := [], alts := [], laidByText := true, laidKinds := [.data], laidTests := true, laidLooks := .later }
def PriorityInertUptoCardSaid : Prop := Claim7.holds Tryz.pinned (.plain (OpenSpec.upto priorityInertSpec)) priorityInertUptoCard

/-- THE SECOND FORM's CARD OF 'cspchecklaw26.WeakCoarser'. -/
def weakCoarserUptoCard : Claim7 := { stood := { row := weakCoarserUptoRow, standIns := [], harness := (true, "7b597a7488ea2ebb0ea20e3ef4c43676f26d9c79a609115a4087c660535a57a9"), looks := false }, kinds := [], alts := [], laidByText := true, laidKinds := [.data], laidTests := true, laidLooks := .later }
def WeakCoarserUptoCardSaid : Prop := Claim7.holds Tryz.pinned (.plain (OpenSpec.upto weakCoarserSpec)) weakCoarserUptoCard

/-- THE SECOND FORM's CARD OF 'cspchecklaw27.DelayBetween'. -/
def delayBetweenUptoCard : Claim7 := { stood := { row := delayBetweenUptoRow, standIns := [], harness := (true, "7b597a7488ea2ebb0ea20e3ef4c43676f26d9c79a609115a4087c660535a57a9"), looks := false }, kinds := [], alts := [], laidByText := true, laidKinds := [.data], laidTests := true, laidLooks := .later }
def DelayBetweenUptoCardSaid : Prop := Claim7.holds Tryz.pinned (.plain (OpenSpec.upto delayBetweenSpec)) delayBetweenUptoCard
end Rows
end Go.Proofs.YtjijjfkalheokaaGreatDoor
