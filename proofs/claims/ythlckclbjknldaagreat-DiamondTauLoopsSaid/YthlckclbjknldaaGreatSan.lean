/- The laws' sane(): closed calls that answer true. -/
import Derived.Test.YthlckclbjknldaaGreatTb
import Derived.Test.YthlckclbjknldaaGreatMM
namespace Go.Proofs.YthlckclbjknldaaGreat
set_option linter.unusedVariables false
set_option linter.unusedSimpArgs false

def okS : AV → Bool
  | .a (.c (.v (.bool true))) => true
  | _ => false
theorem okS_eq {r : AV} (h : okS r = true) : r = .b true := by
  unfold okS at h
  split at h
  · rfl
  · cases h
theorem sane28_run : runF tb 100000 24 [] okS = .ok := by kernel_rfl
theorem sane28_fc : FC Tryz.prog 24 [] [] (fun r _ => r = .b true) := (runF_ok tbOk sane28_run).mono fun _ _ h => okS_eq h
end Go.Proofs.YthlckclbjknldaaGreat
