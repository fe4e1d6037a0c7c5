/-
  DERIVED. GIVEN WITH THE SEED: THE CARDS: each row of YthnkailnoobdoaaDoorRows.lean that lists a variable, with what it lists TIED to the program's text (the seventh form; the later family's looks); each row that meets fmt, with fmt's text TOLD by the authors' own Lean function (tested against real Go, not proved from fmt's source: count such statements apart). THE CARD IS WHAT COUNTS. Prove the row's statement (the work); the ties are given (YthnkailnoobdoaaDoorTie.lean); close each card by the builder's one call (the guide's Derived/Test/ToyasCard.lean, 'card_holds'). Laid BY PROGRAM, IN A SANDBOX (cutbox-door.mjs). By AI agents, Wed Nov 11 2026. No macro, syntax, notation, axiom, sorry.
-/
import Derived.Test.YthnkailnoobdoaaDoorRows
import GoSem.ClaimSeven
namespace Go.Proofs.YthnkailnoobdoaaDoor
namespace Rows

/-- THE TIED CARD OF 'cspchecklaw26.WeakCompress'. -/
def weakCompressCard : Claim7 := { stood := { row := weakCompressRow, standIns := [], harness := (true, "f09fc8be6eb4a054671d26035f99276cefe36480c2bee3be8f100c7c4041b2b9"), looks := false }, kinds := [], alts := [], laidByText := true, laidKinds := [.data], laidTests := true, laidLooks := .later }
def WeakCompressCardSaid : Prop := Claim7.holds Tryd.pinned (.plain (OpenSpec.ofChange weakCompressSpec)) weakCompressCard

/-- THE TIED CARD OF 'cspchecklaw29.PriorityExamples'. -/
def priorityExamplesCard : Claim7 := { stood := { row := priorityExamplesRow, standIns := [], harness := (true, "f09fc8be6eb4a054671d26035f99276cefe36480c2bee3be8f100c7c4041b2b9"), looks := false }, kinds := [], alts := [], laidByText := true, laidKinds := [.data], laidTests := true, laidLooks := .later }
def PriorityExamplesCardSaid : Prop := Claim7.holds Tryd.pinned (.plain (OpenSpec.ofChange priorityExamplesSpec)) priorityExamplesCard

/-- THE SECOND FORM's CARD OF 'cspchecklaw26.WeakCompress'. -/
def weakCompressUptoCard : Claim7 := { stood := { row := weakCompressUptoRow, standIns := [], harness := (true, "f09fc8be6eb4a054671d26035f99276cefe36480c2bee3be8f100c7c4041b2b9"), looks := false }, kinds := [], alts := [], laidByText := true, laidKinds := [.data], laidTests := true, laidLooks := .later }
def WeakCompressUptoCardSaid : Prop := Claim7.holds Tryd.pinned (.plain (OpenSpec.upto weakCompressSpec)) weakCompressUptoCard

/-- THE SECOND FORM's CARD OF 'cspchecklaw29.PriorityExamples'. -/
def priorityExamplesUptoCard : Claim7 := { stood := { row := priorityExamplesUptoRow, standIns := [], harness := (true, "f09fc8be6eb4a054671d26035f99276cefe36480c2bee3be8f100c7c4041b2b9"), looks := false }, kinds := [], alts := [], laidByText := true, laidKinds := [.data], laidTests := true, laidLooks := .later }
def PriorityExamplesUptoCardSaid : Prop := Claim7.holds Tryd.pinned (.plain (OpenSpec.upto priorityExamplesSpec)) priorityExamplesUptoCard
end Rows
end Go.Proofs.YthnkailnoobdoaaDoor
