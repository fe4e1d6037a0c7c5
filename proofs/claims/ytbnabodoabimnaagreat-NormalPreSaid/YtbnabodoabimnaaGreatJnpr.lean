/- The closed facts of NormalPre's row. -/
import Derived.Test.YtbnabodoabimnaaGreatRows
import Derived.Test.YtbnabodoabimnaaGreatChecked
import Derived.ProofKit
import Derived.JoinedOf
namespace Go.Proofs.YtbnabodoabimnaaGreat
set_option linter.unusedVariables false
set_option linter.unusedSimpArgs false
theorem npr_joined : joinedFacts Tryz.pinned.checked.prog 5 Tryz.f5 Rows.normalPreSpec Rows.normalPreRow = true := by kernel_rfl
end Go.Proofs.YtbnabodoabimnaaGreat
