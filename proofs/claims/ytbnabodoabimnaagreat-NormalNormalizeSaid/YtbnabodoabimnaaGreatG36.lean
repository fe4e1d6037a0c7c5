/- Lemmas. -/
import Derived.Test.YtbnabodoabimnaaGreatG43
namespace Go.Proofs.YtbnabodoabimnaaGreat
set_option linter.unusedVariables false
set_option linter.unusedSimpArgs false
open Go.RowKit
set_option maxRecDepth 100000
attribute [local go_sem] gBj gBi gAV gAX gBp gBq gAs gAr C.pl C.one gAf gAh gA3
end Go.Proofs.YtbnabodoabimnaaGreat
