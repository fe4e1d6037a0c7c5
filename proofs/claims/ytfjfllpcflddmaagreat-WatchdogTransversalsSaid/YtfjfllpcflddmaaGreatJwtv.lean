/- The closed facts of WatchdogTransversals's row. -/
import Derived.Test.YtfjfllpcflddmaaGreatRows
import Derived.Test.YtfjfllpcflddmaaGreatChecked
import Derived.ProofKit
import Derived.JoinedOf
namespace Go.Proofs.YtfjfllpcflddmaaGreat
set_option linter.unusedVariables false
set_option linter.unusedSimpArgs false
theorem wtv_joined : joinedFacts Tryz.pinned.checked.prog 4 Tryz.f4 Rows.watchdogTransversalsSpec Rows.watchdogTransversalsRow = true := by kernel_rfl
end Go.Proofs.YtfjfllpcflddmaaGreat
