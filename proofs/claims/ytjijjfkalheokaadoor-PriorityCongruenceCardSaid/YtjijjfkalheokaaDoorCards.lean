/-
  DERIVED. GIVEN WITH THE SEED: THE CARDS: each row of YtjijjfkalheokaaDoorRows.lean that lists a variable, with what it lists TIED to the program's text (the seventh form; the later family's looks); each row that meets fmt, with fmt's text TOLD by the authors' own Lean function (tested against real Go, not proved from fmt's source: count such statements apart). THE CARD IS WHAT COUNTS. Prove the row's statement (the work); the ties are given (YtjijjfkalheokaaDoorTie.lean); close each card by the builder's one call (the guide's Derived/Test/ToyasCard.lean, 'card_holds'). Laid BY PROGRAM, IN A SANDBOX (cutbox-door.mjs). By AI agents, Wed Nov 11 2026. No macro, syntax, notation, axiom, sorry.
-/
import Derived.Test.YtjijjfkalheokaaDoorRows
import GoSem.ClaimSeven
namespace Go.Proofs.YtjijjfkalheokaaDoor
namespace Rows

/-- THE TIED CARD OF 'cspchecklaw29.PriorityExamples'. -/
def priorityExamplesCard : Claim7 := { stood := { row := priorityExamplesRow, standIns := [], harness := (true, "ee8bccf824c478f23d8933c32f7dc69df8032437bf03d088e2a56d47d04b1fa2"), looks := false }, kinds := [], alts := [], laidByText := true, laidKinds := [.data], laidTests := true, laidLooks := .later }
def PriorityExamplesCardSaid : Prop := Claim7.holds Tryd.pinned (.plain (OpenSpec.ofChange priorityExamplesSpec)) priorityExamplesCard

/-- THE TIED CARD OF 'cspchecklaw29.PriorityCongruence'. -/
def priorityCongruenceCard : Claim7 := { stood := { row := priorityCongruenceRow, standIns := [], harness := (true, "ee8bccf824c478f23d8933c32f7dc69df8032437bf03d088e2a56d47d04b1fa2"), looks := false }, kinds := [], alts := [], laidByText := true, laidKinds := [.data], laidTests := true, laidLooks := .later }
def PriorityCongruenceCardSaid : Prop := Claim7.holds Tryd.pinned (.plain (OpenSpec.ofChange priorityCongruenceSpec)) priorityCongruenceCard

/-- THE SECOND FORM's CARD OF 'cspchecklaw29.PriorityExamples'. -/
def priorityExamplesUptoCard : Claim7 := { stood := { row := priorityExamplesUptoRow, standIns := [], harness := (true, "ee8bccf824c478f23d8933c32f7dc69df8032437bf03d088e2a56d47d04b1fa2"), looks := false }, kinds := [], alts := [], laidByText := true, laidKinds := [.data], laidTests := true, laidLooks := .later }
def PriorityExamplesUptoCardSaid : Prop := Claim7.holds Tryd.pinned (.plain (OpenSpec.upto priorityExamplesSpec)) priorityExamplesUptoCard

/-- THE SECOND FORM's CARD OF 'cspchecklaw29.PriorityCongruence'. -/
def priorityCongruenceUptoCard : Claim7 := { stood := { row := priorityCongruenceUptoRow, standIns := [], harness := (true, "ee8bccf824c478f23d8933c32f7dc69df8032437bf03d088e2a56d47d04b1fa2"), looks := false }, kinds := [], alts := [], laidByText := true, laidKinds := [.data], laidTests := true, laidLooks := .later }
def PriorityCongruenceUptoCardSaid : Prop := Claim7.holds Tryd.pinned (.plain (OpenSpec.upto priorityCongruenceSpec)) priorityCongruenceUptoCard
end Rows
end Go.Proofs.YtjijjfkalheokaaDoor
