/- Lemmas. -/
import Derived.Test.YtjijjfkalheokaaGreatDoorTl3
namespace Go.Proofs.YtjijjfkalheokaaGreatDoor
set_option linter.unusedVariables false
set_option linter.unusedSimpArgs false
open Go.RowKit
set_option maxRecDepth 100000
attribute [local go_sem] List.set_cons_zero List.set_cons_succ List.map_cons List.map_nil List.take_succ_cons List.take_zero List.drop_zero List.drop_succ_cons C.pl C.one List.all_cons List.all_nil Bool.and_true

end Go.Proofs.YtjijjfkalheokaaGreatDoor
