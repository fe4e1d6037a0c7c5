/- The closed facts of WatchdogDual's row. -/
import Derived.Test.YtfjfllpcflddmaaGreatRows
import Derived.Test.YtfjfllpcflddmaaGreatChecked
import Derived.ProofKit
import Derived.JoinedOf
namespace Go.Proofs.YtfjfllpcflddmaaGreat
set_option linter.unusedVariables false
set_option linter.unusedSimpArgs false
theorem wdu_joined : joinedFacts Tryz.pinned.checked.prog 5 Tryz.f5 Rows.watchdogDualSpec Rows.watchdogDualRow = true := by kernel_rfl
end Go.Proofs.YtfjfllpcflddmaaGreat
