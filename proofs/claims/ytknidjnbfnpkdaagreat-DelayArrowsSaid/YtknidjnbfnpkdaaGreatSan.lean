/- The laws' sane(): closed calls that answer true. -/
import Derived.Test.YtknidjnbfnpkdaaGreatTb
import Derived.Test.YtknidjnbfnpkdaaGreatMM
namespace Go.Proofs.YtknidjnbfnpkdaaGreat
set_option linter.unusedVariables false
set_option linter.unusedSimpArgs false

def okS : AV → Bool
  | .a (.c (.v (.bool true))) => true
  | _ => false
theorem okS_eq {r : AV} (h : okS r = true) : r = .b true := by
  unfold okS at h
  split at h
  · rfl
  · cases h
theorem sane27_run : runF tb 100000 11 [] okS = .ok := by kernel_rfl
theorem sane27_fc : FC Tryz.prog 11 [] [] (fun r _ => r = .b true) := (runF_ok tbOk sane27_run).mono fun _ _ h => okS_eq h
end Go.Proofs.YtknidjnbfnpkdaaGreat
