/- The closed facts of WeakEqual's row. -/
import Derived.Test.YthnkailnoobdoaaGreatDoorRows
import Derived.Test.YthnkailnoobdoaaGreatDoorChecked
import Derived.ProofKit
import Derived.JoinedOf
namespace Go.Proofs.YthnkailnoobdoaaGreatDoor
set_option linter.unusedVariables false
set_option linter.unusedSimpArgs false
theorem weq_joined : joinedFacts Tryz.pinned.checked.prog 4 Tryz.f4 Rows.weakEqualSpec Rows.weakEqualRow = true := by kernel_rfl
end Go.Proofs.YthnkailnoobdoaaGreatDoor
