/- The closed facts of DiamondMinimal's row. -/
import Derived.Test.YtfjfllpcflddmaaGreatRows
import Derived.Test.YtfjfllpcflddmaaGreatChecked
import Derived.ProofKit
import Derived.JoinedOf
namespace Go.Proofs.YtfjfllpcflddmaaGreat
set_option linter.unusedVariables false
set_option linter.unusedSimpArgs false
theorem min_joined : joinedFacts Tryz.pinned.checked.prog 9 Tryz.f9 Rows.diamondMinimalSpec Rows.diamondMinimalRow = true := by kernel_rfl
end Go.Proofs.YtfjfllpcflddmaaGreat
