/- The closed facts of DiamondTwice's row. -/
import Derived.Test.YthlckclbjknldaaRows
import Derived.Test.YthlckclbjknldaaChecked
import Derived.ProofKit
import Derived.JoinedOf
namespace Go.Proofs.Ythlckclbjknldaa
set_option linter.unusedVariables false
set_option linter.unusedSimpArgs false
theorem dtw_joined : joinedFacts Try.pinned.checked.prog 4 Try.f4 Rows.diamondTwiceSpec Rows.diamondTwiceRow = true := by kernel_rfl
end Go.Proofs.Ythlckclbjknldaa
