/-
  DERIVED. GIVEN WITH THE SEED: THE CARDS: each row of YtglchakimolfdaaDoorRows.lean that lists a variable, with what it lists TIED to the program's text (the seventh form; the later family's looks); each row that meets fmt, with fmt's text TOLD by the authors' own Lean function (tested against real Go, not proved from fmt's source: count such statements apart). THE CARD IS WHAT COUNTS. Prove the row's statement (the work); the ties are given (YtglchakimolfdaaDoorTie.lean); close each card by the builder's one call (the guide's Derived/Test/ToyasCard.lean, 'card_holds'). Laid BY PROGRAM, IN A SANDBOX (cutbox-door.mjs). By AI agents, Wed Nov 11 2026. No macro, syntax, notation, axiom, sorry.
-/
import Derived.Test.YtglchakimolfdaaDoorRows
import GoSem.ClaimSeven
namespace Go.Proofs.YtglchakimolfdaaDoor
namespace Rows

/-- THE TIED CARD OF 'cspchecklaw26.WeakExamples'. -/
def weakExamplesCard : Claim7 := { stood := { row := weakExamplesRow, standIns := [], harness := (true, "9706f8b7eb1e6ed181d142eca274c4dbdc9d9954c4e95c7e81911b88ed5c0e52"), looks := false }, kinds := [], alts := [], laidByText := true, laidKinds := [.data], laidTests := true, laidLooks := .later }
def WeakExamplesCardSaid : Prop := Claim7.holds Tryd.pinned (.plain (OpenSpec.ofChange weakExamplesSpec)) weakExamplesCard

/-- THE TIED CARD OF 'cspchecklaw29.PriorityExamples'. -/
def priorityExamplesCard : Claim7 := { stood := { row := priorityExamplesRow, standIns := [], harness := (true, "9706f8b7eb1e6ed181d142eca274c4dbdc9d9954c4e95c7e81911b88ed5c0e52"), looks := false }, kinds := [], alts := [], laidByText := true, laidKinds := [.data], laidTests := true, laidLooks := .later }
def PriorityExamplesCardSaid : Prop := Claim7.holds Tryd.pinned (.plain (OpenSpec.ofChange priorityExamplesSpec)) priorityExamplesCard

/-- THE SECOND FORM's CARD OF 'cspchecklaw26.WeakExamples'. -/
def weakExamplesUptoCard : Claim7 := { stood := { row := weakExamplesUptoRow, standIns := [], harness := (true, "9706f8b7eb1e6ed181d142eca274c4dbdc9d9954c4e95c7e81911b88ed5c0e52"), looks := false }, kinds := [], alts := [], laidByText := true, laidKinds := [.data], laidTests := true, laidLooks := .later }
def WeakExamplesUptoCardSaid : Prop := Claim7.holds Tryd.pinned (.plain (OpenSpec.upto weakExamplesSpec)) weakExamplesUptoCard

/-- THE SECOND FORM's CARD OF 'cspchecklaw29.PriorityExamples'. -/
def priorityExamplesUptoCard : Claim7 := { stood := { row := priorityExamplesUptoRow, standIns := [], harness := (true, "9706f8b7eb1e6ed181d142eca274c4dbdc9d9954c4e95c7e81911b88ed5c0e52"), looks := false }, kinds := [], alts := [], laidByText := true, laidKinds := [.data], laidTests := true, laidLooks := .later }
def PriorityExamplesUptoCardSaid : Prop := Claim7.holds Tryd.pinned (.plain (OpenSpec.upto priorityExamplesSpec)) priorityExamplesUptoCard
end Rows
end Go.Proofs.YtglchakimolfdaaDoor
