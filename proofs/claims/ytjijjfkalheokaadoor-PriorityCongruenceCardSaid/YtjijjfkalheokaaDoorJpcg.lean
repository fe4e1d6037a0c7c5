/- The closed facts of PriorityCongruence's row. -/
import Derived.Test.YtjijjfkalheokaaDoorRows
import Derived.Test.YtjijjfkalheokaaDoorChecked
import Derived.ProofKit
import Derived.JoinedOf
namespace Go.Proofs.YtjijjfkalheokaaDoor
set_option linter.unusedVariables false
set_option linter.unusedSimpArgs false
theorem pcg_joined : joinedFacts Tryd.pinned.checked.prog 4 Tryd.f4 Rows.priorityCongruenceSpec Rows.priorityCongruenceRow = true := by kernel_rfl
end Go.Proofs.YtjijjfkalheokaaDoor
