/- The closed facts of WeakCoarser's row. -/
import Derived.Test.YtjijjfkalheokaaGreatDoorRows
import Derived.Test.YtjijjfkalheokaaGreatDoorChecked
import Derived.ProofKit
import Derived.JoinedOf
namespace Go.Proofs.YtjijjfkalheokaaGreatDoor
set_option linter.unusedVariables false
set_option linter.unusedSimpArgs false
theorem wco_joined : joinedFacts Tryz.pinned.checked.prog 5 Tryz.f5 Rows.weakCoarserSpec Rows.weakCoarserRow = true := by kernel_rfl
end Go.Proofs.YtjijjfkalheokaaGreatDoor
