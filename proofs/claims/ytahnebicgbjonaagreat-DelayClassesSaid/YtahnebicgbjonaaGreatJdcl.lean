/- The closed facts of DelayClasses's row. -/
import Derived.Test.YtahnebicgbjonaaGreatRows
import Derived.Test.YtahnebicgbjonaaGreatChecked
import Derived.ProofKit
import Derived.JoinedOf
namespace Go.Proofs.YtahnebicgbjonaaGreat
set_option linter.unusedVariables false
set_option linter.unusedSimpArgs false
theorem dcl_joined : joinedFacts Tryz.pinned.checked.prog 3 Tryz.f3 Rows.delayClassesSpec Rows.delayClassesRow = true := by kernel_rfl
end Go.Proofs.YtahnebicgbjonaaGreat
