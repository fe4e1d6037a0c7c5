/- weak.Classes at a choice, weak.Equal at two pairs of systems, by runs in the kernel. -/
import Derived.Test.YtglchakimolfdaaDoorTb
import Derived.Test.YtglchakimolfdaaDoorMrc
namespace Go.Proofs.YtglchakimolfdaaDoor
set_option linter.unusedVariables false
set_option linter.unusedSimpArgs false
open Go.RowKit
set_option maxRecDepth 100000
attribute [local go_sem] List.set_cons_zero List.set_cons_succ List.map_cons List.map_nil List.take_succ_cons List.take_zero List.drop_zero List.drop_succ_cons C.pl C.one List.all_cons List.all_nil Bool.and_true Nat.mul_one Int.toNat_natCast

def inSs : List Ob := [.r ⟨24, 1, true, [.s 1 1, .v (.slice none 0 0)]⟩, .r ⟨23, 2, true, [.v (.int .i64 2), .v (.int .i64 1)]⟩]
def ilSs : List Ob := [.r ⟨24, 1, true, [.s 1 1, .v (.slice none 0 0)]⟩, .r ⟨23, 2, true, [.v (.int .i64 2), .v (.int .i64 1)]⟩, .r ⟨27, 1, true, [.s 0 2, .s 0 2]⟩]
def ouSs : List Ob := [.r ⟨24, 1, true, [.s 1 1, .v (.slice none 0 0)]⟩, .r ⟨23, 2, true, [.v (.int .i64 2), .v (.int .i64 1)]⟩, .r ⟨27, 1, true, [.s 0 2, .s 0 2]⟩, .r ⟨57, 5, false, [.s 4 4, .s 5 4, .s 6 4, .s 7 4, .s 8 4]⟩, .r ⟨24, 1, true, [.s 9 1, .v (.slice none 0 0), .s 10 1, .v (.slice none 0 0)]⟩, .r ⟨3, 1, true, [.v (.int .i64 0), .v (.int .i64 1), .v (.int .i64 2), .v (.int .i64 3)]⟩, .r ⟨3, 1, true, [.v (.int .i64 0), .v (.int .i64 1), .v (.int .i64 2), .v (.int .i64 3)]⟩, .r ⟨30, 1, true, [.s 11 1, .s 12 1, .s 13 1, .s 14 1]⟩, .r ⟨4, 1, true, [.v (.bool false), .v (.bool false), .v (.bool false), .v (.bool false)]⟩, .r ⟨23, 2, true, [.v (.int .i64 2), .v (.int .i64 1)]⟩, .r ⟨23, 2, true, [.v (.int .i64 2), .v (.int .i64 3)]⟩, .r ⟨3, 1, true, [.v (.int .i64 0)]⟩, .r ⟨3, 1, true, [.v (.int .i64 1)]⟩, .r ⟨3, 1, true, [.v (.int .i64 2)]⟩, .r ⟨3, 1, true, [.v (.int .i64 3)]⟩]
theorem vaSs_fc : FC Tryd.prog 13 [.a (.g [.s 0 2])] inSs (fun r o => o = inSs ∧ r = .b true) :=
 runG_ok tbOk (n := 100000) (keep := [0, 1]) rfl rfl rfl (by kernel_rfl)
theorem nsSs_fc : FC Tryd.prog 14 [.a (.c (.s 2 2))] ilSs (fun r o => o = ouSs ∧ r = .a (.c (.p 3 0))) :=
 runG_ok tbOk (n := 100000) (keep := [0, 1, 2, 3, 73, 95, 142, 143, 129, 6, 69, 145, 147, 149, 151]) rfl rfl rfl (by kernel_rfl)
theorem clSs_fc : FC Tryd.prog 15 [.a (.c (.p 3 0))] ouSs (fun r o => o = ouSs ∧ r = aInts [0, 1, 0, 1]) :=
 runC_ok tbOk (n := 100000) rfl rfl rfl rfl (by kernel_rfl)
end Go.Proofs.YtglchakimolfdaaDoor
