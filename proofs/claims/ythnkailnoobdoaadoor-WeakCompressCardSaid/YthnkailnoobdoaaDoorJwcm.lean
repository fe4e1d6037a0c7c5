/- The closed facts of WeakCompress's row. -/
import Derived.Test.YthnkailnoobdoaaDoorRows
import Derived.Test.YthnkailnoobdoaaDoorChecked
import Derived.ProofKit
import Derived.JoinedOf
namespace Go.Proofs.YthnkailnoobdoaaDoor
set_option linter.unusedVariables false
set_option linter.unusedSimpArgs false
theorem wcm_joined : joinedFacts Tryd.pinned.checked.prog 3 Tryd.f3 Rows.weakCompressSpec Rows.weakCompressRow = true := by kernel_rfl
end Go.Proofs.YthnkailnoobdoaaDoor
