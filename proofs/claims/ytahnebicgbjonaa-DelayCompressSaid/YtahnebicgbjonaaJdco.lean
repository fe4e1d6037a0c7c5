/- The closed facts of DelayCompress's row. -/
import Derived.Test.YtahnebicgbjonaaRows
import Derived.Test.YtahnebicgbjonaaChecked
import Derived.ProofKit
import Derived.JoinedOf
namespace Go.Proofs.Ytahnebicgbjonaa
set_option linter.unusedVariables false
set_option linter.unusedSimpArgs false
theorem dco_joined : joinedFacts Try.pinned.checked.prog 3 Try.f3 Rows.delayCompressSpec Rows.delayCompressRow = true := by kernel_rfl
end Go.Proofs.Ytahnebicgbjonaa
