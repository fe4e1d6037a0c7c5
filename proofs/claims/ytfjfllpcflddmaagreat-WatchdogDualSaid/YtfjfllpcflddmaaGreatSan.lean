/- The laws' sane(): closed calls that answer true. -/
import Derived.Test.YtfjfllpcflddmaaGreatTb
import Derived.Test.YtfjfllpcflddmaaGreatMM
namespace Go.Proofs.YtfjfllpcflddmaaGreat
set_option linter.unusedVariables false
set_option linter.unusedSimpArgs false

def okS : AV → Bool
  | .a (.c (.v (.bool true))) => true
  | _ => false
theorem okS_eq {r : AV} (h : okS r = true) : r = .b true := by
  unfold okS at h
  split at h
  · rfl
  · cases h
theorem sane41_run : runF tb 100000 22 [] okS = .ok := by kernel_rfl
theorem sane41_fc : FC Tryz.prog 22 [] [] (fun r _ => r = .b true) := (runF_ok tbOk sane41_run).mono fun _ _ h => okS_eq h
theorem sane28_run : runF tb 100000 38 [] okS = .ok := by kernel_rfl
theorem sane28_fc : FC Tryz.prog 38 [] [] (fun r _ => r = .b true) := (runF_ok tbOk sane28_run).mono fun _ _ h => okS_eq h
theorem sane31_run : runF tb 100000 32 [] okS = .ok := by kernel_rfl
theorem sane31_fc : FC Tryz.prog 32 [] [] (fun r _ => r = .b true) := (runF_ok tbOk sane31_run).mono fun _ _ h => okS_eq h
end Go.Proofs.YtfjfllpcflddmaaGreat
