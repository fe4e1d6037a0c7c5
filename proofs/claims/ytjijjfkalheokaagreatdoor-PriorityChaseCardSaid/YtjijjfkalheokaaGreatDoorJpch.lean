/- The closed facts of PriorityChase's row. -/
import Derived.Test.YtjijjfkalheokaaGreatDoorRows
import Derived.Test.YtjijjfkalheokaaGreatDoorChecked
import Derived.ProofKit
import Derived.JoinedOf
namespace Go.Proofs.YtjijjfkalheokaaGreatDoor
set_option linter.unusedVariables false
set_option linter.unusedSimpArgs false
theorem pch_joined : joinedFacts Tryz.pinned.checked.prog 3 Tryz.f3 Rows.priorityChaseSpec Rows.priorityChaseRow = true := by kernel_rfl
end Go.Proofs.YtjijjfkalheokaaGreatDoor
