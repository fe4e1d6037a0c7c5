/- Lemmas. -/
import Derived.Test.YtjijjfkalheokaaDoorDl1
import Derived.Test.YtjijjfkalheokaaDoorG70
import Derived.Test.YtjijjfkalheokaaDoorG45
import Derived.Test.YtjijjfkalheokaaDoorMG
import Derived.Test.YtjijjfkalheokaaDoorG67
import Derived.Test.YtjijjfkalheokaaDoorMK
namespace Go.Proofs.YtjijjfkalheokaaDoor
set_option linter.unusedVariables false
set_option linter.unusedSimpArgs false
open Go.RowKit
set_option maxRecDepth 100000
attribute [local go_sem] lga C.pl C.one

def VJ (R : List (List Ar)) (c : List Int) : Prop := ∃ B, DvL R B /\ FxS (BE R) (Vb B R.length) c
end Go.Proofs.YtjijjfkalheokaaDoor
