/- The closed facts of DelayEqual's row. -/
import Derived.Test.YtahnebicgbjonaaGreatRows
import Derived.Test.YtahnebicgbjonaaGreatChecked
import Derived.ProofKit
import Derived.JoinedOf
namespace Go.Proofs.YtahnebicgbjonaaGreat
set_option linter.unusedVariables false
set_option linter.unusedSimpArgs false
theorem deq_joined : joinedFacts Tryz.pinned.checked.prog 5 Tryz.f5 Rows.delayEqualSpec Rows.delayEqualRow = true := by kernel_rfl
end Go.Proofs.YtahnebicgbjonaaGreat
