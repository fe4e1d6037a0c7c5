/- The closed facts of DiamondFlat's row. -/
import Derived.Test.YthlckclbjknldaaRows
import Derived.Test.YthlckclbjknldaaChecked
import Derived.ProofKit
import Derived.JoinedOf
namespace Go.Proofs.Ythlckclbjknldaa
set_option linter.unusedVariables false
set_option linter.unusedSimpArgs false
theorem dfl_joined : joinedFacts Try.pinned.checked.prog 3 Try.f3 Rows.diamondFlatSpec Rows.diamondFlatRow = true := by kernel_rfl
end Go.Proofs.Ythlckclbjknldaa
