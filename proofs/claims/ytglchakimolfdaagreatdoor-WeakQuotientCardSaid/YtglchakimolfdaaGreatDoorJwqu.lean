/- The closed facts of WeakQuotient's row. -/
import Derived.Test.YtglchakimolfdaaGreatDoorRows
import Derived.Test.YtglchakimolfdaaGreatDoorChecked
import Derived.ProofKit
import Derived.JoinedOf
namespace Go.Proofs.YtglchakimolfdaaGreatDoor
set_option linter.unusedVariables false
set_option linter.unusedSimpArgs false
theorem wqu_joined : joinedFacts Tryz.pinned.checked.prog 4 Tryz.f4 Rows.weakQuotientSpec Rows.weakQuotientRow = true := by kernel_rfl
end Go.Proofs.YtglchakimolfdaaGreatDoor
