/- The closed facts of NormalExamples's row. -/
import Derived.Test.YtbnabodoabimnaaGreatRows
import Derived.Test.YtbnabodoabimnaaGreatChecked
import Derived.ProofKit
import Derived.JoinedOf
namespace Go.Proofs.YtbnabodoabimnaaGreat
set_option linter.unusedVariables false
set_option linter.unusedSimpArgs false
theorem nex_joined : joinedFacts Tryz.pinned.checked.prog 3 Tryz.f3 Rows.normalExamplesSpec Rows.normalExamplesRow = true := by kernel_rfl
end Go.Proofs.YtbnabodoabimnaaGreat
