/- The closed facts of DelayBetween's row. -/
import Derived.Test.YtjijjfkalheokaaGreatDoorRows
import Derived.Test.YtjijjfkalheokaaGreatDoorChecked
import Derived.ProofKit
import Derived.JoinedOf
namespace Go.Proofs.YtjijjfkalheokaaGreatDoor
set_option linter.unusedVariables false
set_option linter.unusedSimpArgs false
theorem dbt_joined : joinedFacts Tryz.pinned.checked.prog 6 Tryz.f6 Rows.delayBetweenSpec Rows.delayBetweenRow = true := by kernel_rfl
end Go.Proofs.YtjijjfkalheokaaGreatDoor
