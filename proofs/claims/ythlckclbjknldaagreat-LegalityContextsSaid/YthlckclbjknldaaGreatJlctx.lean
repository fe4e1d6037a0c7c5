/- The closed facts of LegalityContexts's row. -/
import Derived.Test.YthlckclbjknldaaGreatRows
import Derived.Test.YthlckclbjknldaaGreatChecked
import Derived.ProofKit
import Derived.JoinedOf
namespace Go.Proofs.YthlckclbjknldaaGreat
set_option linter.unusedVariables false
set_option linter.unusedSimpArgs false
theorem lctx_joined : joinedFacts Tryz.pinned.checked.prog 4 Tryz.f4 Rows.legalityContextsSpec Rows.legalityContextsRow = true := by kernel_rfl
end Go.Proofs.YthlckclbjknldaaGreat
