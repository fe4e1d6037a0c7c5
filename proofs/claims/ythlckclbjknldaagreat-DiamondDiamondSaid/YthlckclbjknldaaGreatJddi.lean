/- The closed facts of DiamondDiamond's row. -/
import Derived.Test.YthlckclbjknldaaGreatRows
import Derived.Test.YthlckclbjknldaaGreatChecked
import Derived.ProofKit
import Derived.JoinedOf
namespace Go.Proofs.YthlckclbjknldaaGreat
set_option linter.unusedVariables false
set_option linter.unusedSimpArgs false
theorem ddi_joined : joinedFacts Tryz.pinned.checked.prog 7 Tryz.f7 Rows.diamondDiamondSpec Rows.diamondDiamondRow = true := by kernel_rfl
end Go.Proofs.YthlckclbjknldaaGreat
