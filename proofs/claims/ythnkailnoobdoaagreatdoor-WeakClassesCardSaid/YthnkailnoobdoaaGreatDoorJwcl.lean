/- The closed facts of WeakClasses's row. -/
import Derived.Test.YthnkailnoobdoaaGreatDoorRows
import Derived.Test.YthnkailnoobdoaaGreatDoorChecked
import Derived.ProofKit
import Derived.JoinedOf
namespace Go.Proofs.YthnkailnoobdoaaGreatDoor
set_option linter.unusedVariables false
set_option linter.unusedSimpArgs false
theorem wcl_joined : joinedFacts Tryz.pinned.checked.prog 3 Tryz.f3 Rows.weakClassesSpec Rows.weakClassesRow = true := by kernel_rfl
end Go.Proofs.YthnkailnoobdoaaGreatDoor
