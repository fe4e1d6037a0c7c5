/- The closed facts of PriorityInert's row. -/
import Derived.Test.YtjijjfkalheokaaGreatDoorRows
import Derived.Test.YtjijjfkalheokaaGreatDoorChecked
import Derived.ProofKit
import Derived.JoinedOf
namespace Go.Proofs.YtjijjfkalheokaaGreatDoor
set_option linter.unusedVariables false
set_option linter.unusedSimpArgs false
theorem pin_joined : joinedFacts Tryz.pinned.checked.prog 4 Tryz.f4 Rows.priorityInertSpec Rows.priorityInertRow = true := by kernel_rfl
end Go.Proofs.YtjijjfkalheokaaGreatDoor
