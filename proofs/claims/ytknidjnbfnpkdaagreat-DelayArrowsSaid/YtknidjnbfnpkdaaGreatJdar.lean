/- The closed facts of DelayArrows's row. -/
import Derived.Test.YtknidjnbfnpkdaaGreatRows
import Derived.Test.YtknidjnbfnpkdaaGreatChecked
import Derived.ProofKit
import Derived.JoinedOf
namespace Go.Proofs.YtknidjnbfnpkdaaGreat
set_option linter.unusedVariables false
set_option linter.unusedSimpArgs false
theorem dar_joined : joinedFacts Tryz.pinned.checked.prog 3 Tryz.f3 Rows.delayArrowsSpec Rows.delayArrowsRow = true := by kernel_rfl
end Go.Proofs.YtknidjnbfnpkdaaGreat
