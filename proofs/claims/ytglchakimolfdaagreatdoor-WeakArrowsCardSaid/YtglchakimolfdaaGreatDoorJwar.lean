/- The closed facts of WeakArrows's row. -/
import Derived.Test.YtglchakimolfdaaGreatDoorRows
import Derived.Test.YtglchakimolfdaaGreatDoorChecked
import Derived.ProofKit
import Derived.JoinedOf
namespace Go.Proofs.YtglchakimolfdaaGreatDoor
set_option linter.unusedVariables false
set_option linter.unusedSimpArgs false
theorem war_joined : joinedFacts Tryz.pinned.checked.prog 5 Tryz.f5 Rows.weakArrowsSpec Rows.weakArrowsRow = true := by kernel_rfl
end Go.Proofs.YtglchakimolfdaaGreatDoor
