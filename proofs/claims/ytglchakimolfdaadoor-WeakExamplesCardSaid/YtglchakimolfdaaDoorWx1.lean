/- weak.Classes at a choice, weak.Equal at two pairs of systems, by runs in the kernel. -/
import Derived.Test.YtglchakimolfdaaDoorTb
import Derived.Test.YtglchakimolfdaaDoorMrc
namespace Go.Proofs.YtglchakimolfdaaDoor
set_option linter.unusedVariables false
set_option linter.unusedSimpArgs false
open Go.RowKit
set_option maxRecDepth 100000
attribute [local go_sem] List.set_cons_zero List.set_cons_succ List.map_cons List.map_nil List.take_succ_cons List.take_zero List.drop_zero List.drop_succ_cons C.pl C.one List.all_cons List.all_nil Bool.and_true Nat.mul_one Int.toNat_natCast

def inCh : List Ob := [.r ⟨24, 1, true, [.s 1 2, .s 2 1, .s 3 1, .v (.slice none 0 0)]⟩, .r ⟨23, 2, true, [.v (.int .i64 0), .v (.int .i64 1), .v (.int .i64 0), .v (.int .i64 2)]⟩, .r ⟨23, 2, true, [.v (.int .i64 2), .v (.int .i64 3)]⟩, .r ⟨23, 2, true, [.v (.int .i64 3), .v (.int .i64 3)]⟩]
def ilCh : List Ob := [.r ⟨24, 1, true, [.s 1 2, .s 2 1, .s 3 1, .v (.slice none 0 0)]⟩, .r ⟨23, 2, true, [.v (.int .i64 0), .v (.int .i64 1), .v (.int .i64 0), .v (.int .i64 2)]⟩, .r ⟨23, 2, true, [.v (.int .i64 2), .v (.int .i64 3)]⟩, .r ⟨23, 2, true, [.v (.int .i64 3), .v (.int .i64 3)]⟩, .r ⟨27, 1, true, [.s 0 4]⟩]
def ouCh : List Ob := [.r ⟨24, 1, true, [.s 1 2, .s 2 1, .s 3 1, .v (.slice none 0 0)]⟩, .r ⟨23, 2, true, [.v (.int .i64 0), .v (.int .i64 1), .v (.int .i64 0), .v (.int .i64 2)]⟩, .r ⟨23, 2, true, [.v (.int .i64 2), .v (.int .i64 3)]⟩, .r ⟨23, 2, true, [.v (.int .i64 3), .v (.int .i64 3)]⟩, .r ⟨27, 1, true, [.s 0 4]⟩, .r ⟨57, 5, false, [.s 6 4, .s 10 4, .s 11 4, .s 12 4, .s 17 4]⟩, .r ⟨24, 1, true, [.s 7 2, .s 8 1, .s 9 1, .v (.slice none 0 0)]⟩, .r ⟨23, 2, true, [.v (.int .i64 0), .v (.int .i64 1), .v (.int .i64 0), .v (.int .i64 2)]⟩, .r ⟨23, 2, true, [.v (.int .i64 2), .v (.int .i64 3)]⟩, .r ⟨23, 2, true, [.v (.int .i64 3), .v (.int .i64 3)]⟩, .r ⟨3, 1, true, [.v (.int .i64 0), .v (.int .i64 1), .v (.int .i64 2), .v (.int .i64 3)]⟩, .r ⟨3, 1, true, [.v (.int .i64 1), .v (.int .i64 2), .v (.int .i64 3), .v (.int .i64 0)]⟩, .r ⟨30, 1, true, [.s 13 1, .s 14 1, .s 15 1, .s 16 1]⟩, .r ⟨3, 1, true, [.v (.int .i64 0)]⟩, .r ⟨3, 1, true, [.v (.int .i64 1)]⟩, .r ⟨3, 1, true, [.v (.int .i64 2)]⟩, .r ⟨3, 1, true, [.v (.int .i64 3)]⟩, .r ⟨4, 1, true, [.v (.bool false), .v (.bool false), .v (.bool false), .v (.bool false)]⟩]
theorem vaCh_fc : FC Tryd.prog 13 [.a (.g [.s 0 4])] inCh (fun r o => o = inCh ∧ r = .b true) :=
 runG_ok tbOk (n := 100000) (keep := [0, 1, 2, 3]) rfl rfl rfl (by kernel_rfl)
theorem nsCh_fc : FC Tryd.prog 14 [.a (.c (.s 4 1))] ilCh (fun r o => o = ouCh ∧ r = .a (.c (.p 5 0))) :=
 runG_ok tbOk (n := 100000) (keep := [0, 1, 2, 3, 4, 5, 20, 8, 12, 16, 61, 144, 145, 147, 149, 151, 153, 125]) rfl rfl rfl (by kernel_rfl)
theorem clCh_fc : FC Tryd.prog 15 [.a (.c (.p 5 0))] ouCh (fun r o => o = ouCh ∧ r = aInts [0, 1, 2, 3]) :=
 runC_ok tbOk (n := 100000) rfl rfl rfl rfl (by kernel_rfl)
end Go.Proofs.YtglchakimolfdaaDoor
