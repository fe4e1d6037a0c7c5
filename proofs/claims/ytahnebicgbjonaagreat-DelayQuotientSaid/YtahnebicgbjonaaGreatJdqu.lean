/- The closed facts of DelayQuotient's row. -/
import Derived.Test.YtahnebicgbjonaaGreatRows
import Derived.Test.YtahnebicgbjonaaGreatChecked
import Derived.ProofKit
import Derived.JoinedOf
namespace Go.Proofs.YtahnebicgbjonaaGreat
set_option linter.unusedVariables false
set_option linter.unusedSimpArgs false
theorem dqu_joined : joinedFacts Tryz.pinned.checked.prog 4 Tryz.f4 Rows.delayQuotientSpec Rows.delayQuotientRow = true := by kernel_rfl
end Go.Proofs.YtahnebicgbjonaaGreat
