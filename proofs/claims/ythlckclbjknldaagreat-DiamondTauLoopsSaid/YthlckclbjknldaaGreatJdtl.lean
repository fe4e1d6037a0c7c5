/- The closed facts of DiamondTauLoops's row. -/
import Derived.Test.YthlckclbjknldaaGreatRows
import Derived.Test.YthlckclbjknldaaGreatChecked
import Derived.ProofKit
import Derived.JoinedOf
namespace Go.Proofs.YthlckclbjknldaaGreat
set_option linter.unusedVariables false
set_option linter.unusedSimpArgs false
theorem dtl_joined : joinedFacts Tryz.pinned.checked.prog 6 Tryz.f6 Rows.diamondTauLoopsSpec Rows.diamondTauLoopsRow = true := by kernel_rfl
end Go.Proofs.YthlckclbjknldaaGreat
