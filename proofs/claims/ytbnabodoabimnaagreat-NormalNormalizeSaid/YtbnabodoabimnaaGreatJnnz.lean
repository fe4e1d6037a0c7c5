/- The closed facts of NormalNormalize's row. -/
import Derived.Test.YtbnabodoabimnaaGreatRows
import Derived.Test.YtbnabodoabimnaaGreatChecked
import Derived.ProofKit
import Derived.JoinedOf
namespace Go.Proofs.YtbnabodoabimnaaGreat
set_option linter.unusedVariables false
set_option linter.unusedSimpArgs false
theorem nnz_joined : joinedFacts Tryz.pinned.checked.prog 7 Tryz.f7 Rows.normalNormalizeSpec Rows.normalNormalizeRow = true := by kernel_rfl
end Go.Proofs.YtbnabodoabimnaaGreat
