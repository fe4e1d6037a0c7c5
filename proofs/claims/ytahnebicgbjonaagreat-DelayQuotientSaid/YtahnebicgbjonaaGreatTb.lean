/- The runner's tables for this seat. The laws' sane(): closed calls that answer true. -/
import Derived.Test.YtahnebicgbjonaaGreatMK
import Derived.Test.YtahnebicgbjonaaGreatTy
import Derived.Test.YtahnebicgbjonaaGreatMM
namespace Go.Proofs.YtahnebicgbjonaaGreat
set_option maxRecDepth 100000
noncomputable def tbTy : List (Nat × Ty) := [(0, ⟨1, 0, false, [.tuple { toList := [] }], 0, 0, []⟩),
 (1, ⟨1, 8, false, [.nilFunc], 0, 0, []⟩),
 (2, ⟨1, 8, false, [.int .i64 0], 5, 0, []⟩),
 (3, ⟨1, 8, false, [.int .i64 0], 5, 0, []⟩),
 (4, ⟨1, 1, false, [.bool false], 0, 0, []⟩),
 (5, ⟨1, 1, false, [.int .u8 0], 5, 0, []⟩),
 (6, ⟨1, 1, false, [.int .u8 0], 5, 0, []⟩),
 (7, ⟨4, 24, true, [.int .i64 0, .int .i64 0, .bool false, .int .u8 0], 2, 0, [(0, 1, false), (1, 1, false), (2, 1, false), (3, 1, false)]⟩),
 (8, ⟨4, 24, true, [.int .i64 0, .int .i64 0, .bool false, .int .u8 0], 2, 0, [(0, 1, false), (1, 1, false), (2, 1, false), (3, 1, false)]⟩),
 (9, ⟨1, 16, false, [.string { data := { toList := [] } }], 4, 0, []⟩),
 (11, ⟨1, 16, false, [.string { data := { toList := [] } }], 4, 0, []⟩),
 (12, ⟨1, 8, false, [.int .u64 0], 5, 0, []⟩),
 (20, ⟨1, 16, false, [.nilIface], 0, 0, []⟩),
 (22, ⟨1, 24, false, [.slice none 0 0], 1, 3, []⟩),
 (23, ⟨1, 24, false, [.slice none 0 0], 1, 45, []⟩),
 (25, ⟨1, 24, true, [.slice none 0 0], 2, 0, [(0, 1, false)]⟩),
 (26, ⟨1, 8, false, [.pointer none], 0, 0, []⟩),
 (27, ⟨1, 8, false, [.nilFunc], 0, 0, []⟩),
 (28, ⟨1, 8, false, [.nilFunc], 0, 0, []⟩),
 (31, ⟨1, 8, false, [.nilFunc], 0, 0, []⟩),
 (32, ⟨1, 8, false, [.nilFunc], 0, 0, []⟩),
 (33, ⟨1, 8, false, [.nilFunc], 0, 0, []⟩),
 (34, ⟨1, 8, false, [.nilFunc], 0, 0, []⟩),
 (37, ⟨1, 8, false, [.nilFunc], 0, 0, []⟩),
 (38, ⟨1, 8, false, [.nilFunc], 0, 0, []⟩),
 (39, ⟨1, 8, false, [.nilFunc], 0, 0, []⟩),
 (40, ⟨1, 8, false, [.nilFunc], 0, 0, []⟩),
 (41, ⟨1, 8, false, [.nilFunc], 0, 0, []⟩),
 (42, ⟨2, 32, true, [.slice none 0 0, .int .i64 0], 2, 0, [(0, 1, false), (1, 1, false)]⟩),
 (43, ⟨2, 32, true, [.slice none 0 0, .int .i64 0], 2, 0, [(0, 1, false), (1, 1, false)]⟩),
 (44, ⟨1, 8, false, [.nilFunc], 0, 0, []⟩),
 (45, ⟨1, 24, false, [.slice none 0 0], 1, 49, []⟩),
 (46, ⟨1, 8, false, [.nilFunc], 0, 0, []⟩),
 (49, ⟨2, 16, true, [.int .i64 0, .int .i64 0], 2, 0, [(0, 1, false), (1, 1, false)]⟩),
 (50, ⟨1, 8, false, [.pointer none], 0, 0, []⟩),
 (51, ⟨1, 24, false, [.slice none 0 0], 1, 4, []⟩),
 (53, ⟨4, 96, true, [.slice none 0 0, .slice none 0 0, .slice none 0 0, .slice none 0 0], 2, 0, [(0, 1, true), (1, 1, false), (2, 1, false), (3, 1, false)]⟩),
 (54, ⟨1, 8, false, [.nilFunc], 0, 0, []⟩),
 (55, ⟨1, 8, false, [.nilFunc], 0, 0, []⟩),
 (56, ⟨1, 8, false, [.nilFunc], 0, 0, []⟩),
 (57, ⟨1, 8, false, [.int .i64 0], 5, 0, []⟩),
 (58, ⟨1, 0, false, [.tuple { toList := [.agg { toList := [.slice none 0 0] }, .int .i64 0] }], 0, 0, []⟩),
 (59, ⟨1, 8, false, [.nilFunc], 0, 0, []⟩),
 (60, ⟨1, 8, false, [.nilFunc], 0, 0, []⟩),
 (61, ⟨1, 8, false, [.nilFunc], 0, 0, []⟩),
 (62, ⟨1, 8, false, [.nilFunc], 0, 0, []⟩),
 (63, ⟨1, 8, false, [.nilFunc], 0, 0, []⟩),
 (66, ⟨1, 24, false, [.slice none 0 0], 1, 9, []⟩),
 (67, ⟨1, 0, false, [.tuple { toList := [.slice none 0 0, .int .i64 0] }], 0, 0, []⟩),
 (69, ⟨1, 24, false, [.slice none 0 0], 1, 71, []⟩),
 (71, ⟨1, 24, false, [.slice none 0 0], 1, 73, []⟩),
 (72, ⟨2, 16, true, [.int .i64 0, .int .i64 0], 2, 0, [(0, 1, false), (1, 1, false)]⟩),
 (73, ⟨2, 16, true, [.int .i64 0, .int .i64 0], 2, 0, [(0, 1, false), (1, 1, false)]⟩),
 (74, ⟨1, 8, false, [.nilFunc], 0, 0, []⟩),
 (75, ⟨1, 24, false, [.slice none 0 0], 1, 22, []⟩),
 (76, ⟨1, 8, false, [.nilFunc], 0, 0, []⟩),
 (77, ⟨1, 8, false, [.nilFunc], 0, 0, []⟩),
 (78, ⟨1, 8, false, [.nilFunc], 0, 0, []⟩),
 (83, ⟨1, 8, false, [.nilFunc], 0, 0, []⟩),
 (84, ⟨1, 8, false, [.nilFunc], 0, 0, []⟩),
 (85, ⟨1, 8, false, [.nilFunc], 0, 0, []⟩),
 (86, ⟨1, 24, false, [.slice none 0 0], 1, 88, []⟩),
 (87, ⟨2, 16, true, [.int .i64 0, .int .i64 0], 2, 0, [(0, 1, false), (1, 1, false)]⟩),
 (88, ⟨2, 16, true, [.int .i64 0, .int .i64 0], 2, 0, [(0, 1, false), (1, 1, false)]⟩),
 (89, ⟨1, 8, false, [.pointer none], 0, 0, []⟩),
 (90, ⟨1, 8, false, [.nilFunc], 0, 0, []⟩),
 (91, ⟨1, 8, false, [.nilFunc], 0, 0, []⟩),
 (92, ⟨1, 8, false, [.nilFunc], 0, 0, []⟩),
 (93, ⟨1, 8, false, [.nilFunc], 0, 0, []⟩),
 (94, ⟨1, 8, false, [.map none], 3, 3, []⟩),
 (95, ⟨1, 0, false, [.tuple { toList := [.int .i64 0, .bool false] }], 0, 0, []⟩),
 (96, ⟨1, 8, false, [.nilFunc], 0, 0, []⟩),
 (97, ⟨1, 8, false, [.nilFunc], 0, 0, []⟩),
 (98, ⟨1, 8, false, [.nilFunc], 0, 0, []⟩),
 (99, ⟨1, 24, false, [.slice none 0 0], 1, 5, []⟩),
 (100, ⟨1, 8, false, [.int .u64 0], 5, 0, []⟩),
 (101, ⟨1, 8, false, [.nilFunc], 0, 0, []⟩),
 (102, ⟨1, 8, false, [.nilFunc], 0, 0, []⟩),
 (103, ⟨1, 8, false, [.nilFunc], 0, 0, []⟩),
 (104, ⟨1, 8, false, [.nilFunc], 0, 0, []⟩),
 (105, ⟨1, 0, false, [.tuple { toList := [.agg { toList := [.slice none 0 0] }, .bool false] }], 0, 0, []⟩),
 (106, ⟨1, 8, false, [.nilFunc], 0, 0, []⟩),
 (107, ⟨1, 8, false, [.nilFunc], 0, 0, []⟩),
 (108, ⟨1, 0, false, [.tuple { toList := [.int .u64 0, .int .u64 0] }], 0, 0, []⟩),
 (109, ⟨1, 8, false, [.nilFunc], 0, 0, []⟩),
 (110, ⟨1, 8, false, [.nilFunc], 0, 0, []⟩),
 (111, ⟨1, 8, false, [.nilFunc], 0, 0, []⟩),
 (112, ⟨1, 8, false, [.nilFunc], 0, 0, []⟩),
 (113, ⟨1, 8, false, [.nilFunc], 0, 0, []⟩),
 (114, ⟨1, 8, false, [.nilFunc], 0, 0, []⟩),
 (115, ⟨1, 8, false, [.nilFunc], 0, 0, []⟩),
 (116, ⟨1, 4, false, [.int .u32 0], 5, 0, []⟩),
 (117, ⟨1, 0, false, [.tuple { toList := [.int .u32 0, .int .u32 0] }], 0, 0, []⟩),
 (118, ⟨1, 8, false, [.nilFunc], 0, 0, []⟩),
 (119, ⟨1, 8, false, [.int .u64 0], 5, 0, []⟩),
 (120, ⟨1, 0, false, [.tuple { toList := [.int .u64 0, .int .u64 0] }], 0, 0, []⟩),
 (121, ⟨1, 8, false, [.nilFunc], 0, 0, []⟩),
 (123, ⟨1, 8, false, [.int .i64 0], 5, 0, []⟩),
 (124, ⟨1, 0, false, [.tuple { toList := [.int .i64 0, .int .i64 0] }], 0, 0, []⟩),
 (133, ⟨1, 8, false, [.int .u64 0], 5, 0, []⟩),
 (137, ⟨1, 8, false, [.pointer none], 0, 0, []⟩),
 (144, ⟨1, 8, false, [.pointer none], 0, 0, []⟩),
 (145, ⟨1, 0, false, [.tuple { toList := [.int .i64 0, .int .i64 0] }], 0, 0, []⟩)]
noncomputable def tbIk : List (Nat × IntKind) := [(2, .i64), (3, .i64), (5, .u8), (6, .u8), (12, .u64), (57, .i64), (100, .u64), (116, .u32), (119, .u64), (123, .i64), (133, .u64)]
noncomputable def tbFn : List (Nat × Func) := [(11, Tryz.f11), (12, Tryz.f12), (15, Tryz.f15), (26, Tryz.f26), (27, Tryz.f27), (28, Tryz.f28), (31, Tryz.f31), (32, Tryz.f32), (33, Tryz.f33), (34, Tryz.f34), (37, Tryz.f37), (38, Tryz.f38), (39, Tryz.f39), (40, Tryz.f40), (41, Tryz.f41), (42, Tryz.f42), (43, Tryz.f43), (44, Tryz.f44), (49, Tryz.f49), (50, Tryz.f50), (54, Tryz.f54), (55, Tryz.f55), (56, Tryz.f56), (57, Tryz.f57), (58, Tryz.f58), (59, Tryz.f59), (60, Tryz.f60), (61, Tryz.f61), (62, Tryz.f62), (63, Tryz.f63), (71, Tryz.f71), (72, Tryz.f72), (73, Tryz.f73), (74, Tryz.f74), (75, Tryz.f75), (76, Tryz.f76), (77, Tryz.f77), (78, Tryz.f78), (83, Tryz.f83), (84, Tryz.f84), (85, Tryz.f85), (86, Tryz.f86), (87, Tryz.f87), (88, Tryz.f88), (89, Tryz.f89), (90, Tryz.f90), (91, Tryz.f91), (92, Tryz.f92), (93, Tryz.f93), (94, Tryz.f94), (95, Tryz.f95), (96, Tryz.f96), (97, Tryz.f97), (98, Tryz.f98), (100, Tryz.f100), (101, Tryz.f101), (102, Tryz.f102), (103, Tryz.f103), (104, Tryz.f104), (105, Tryz.f105), (106, Tryz.f106), (107, Tryz.f107), (108, Tryz.f108), (109, Tryz.f109), (110, Tryz.f110), (111, Tryz.f111), (112, Tryz.f112), (113, Tryz.f113), (114, Tryz.f114), (115, Tryz.f115), (116, Tryz.f116), (117, Tryz.f117), (118, Tryz.f118)]
noncomputable def tbAe : List (Nat × Nat) := [(49, 2), (72, 2), (73, 2), (87, 2), (88, 2)]
def tbBl : List (Nat × Bool) := [(4, true)]
theorem bl4 : Tryz.prog.underlying 4 = some .bool := by kernel_rfl
def tbMp : List (Nat × (Ks × Value)) := [(94, (.ks, .int .i64 0))]
noncomputable def tb : Tb := ⟨tbTy, tbIk, tbFn, tbAe, orcs, tbMp, tbBl⟩
theorem ik2 : Tryz.prog.underlying 2 = some (.int .i64) := by kernel_rfl
theorem ik3 : Tryz.prog.underlying 3 = some (.int .i64) := by kernel_rfl
theorem ik5 : Tryz.prog.underlying 5 = some (.int .u8) := by kernel_rfl
theorem ik6 : Tryz.prog.underlying 6 = some (.int .u8) := by kernel_rfl
theorem ik12 : Tryz.prog.underlying 12 = some (.int .u64) := by kernel_rfl
theorem ik57 : Tryz.prog.underlying 57 = some (.int .i64) := by kernel_rfl
theorem ik100 : Tryz.prog.underlying 100 = some (.int .u64) := by kernel_rfl
theorem ik116 : Tryz.prog.underlying 116 = some (.int .u32) := by kernel_rfl
theorem ik119 : Tryz.prog.underlying 119 = some (.int .u64) := by kernel_rfl
theorem ik123 : Tryz.prog.underlying 123 = some (.int .i64) := by kernel_rfl
theorem ik133 : Tryz.prog.underlying 133 = some (.int .u64) := by kernel_rfl
def fkS (i : Nat) (f : Func) : Prop := Tryz.prog.funcs[i]? = some f ∧ callable Tryz.prog i = true
theorem fk11 : fkS 11 Tryz.f11 := ⟨Tryz.func11, by kernel_rfl⟩
theorem fk12 : fkS 12 Tryz.f12 := ⟨Tryz.func12, by kernel_rfl⟩
theorem fk15 : fkS 15 Tryz.f15 := ⟨Tryz.func15, by kernel_rfl⟩
theorem fk26 : fkS 26 Tryz.f26 := ⟨Tryz.func26, by kernel_rfl⟩
theorem fk27 : fkS 27 Tryz.f27 := ⟨Tryz.func27, by kernel_rfl⟩
theorem fk28 : fkS 28 Tryz.f28 := ⟨Tryz.func28, by kernel_rfl⟩
theorem fk31 : fkS 31 Tryz.f31 := ⟨Tryz.func31, by kernel_rfl⟩
theorem fk32 : fkS 32 Tryz.f32 := ⟨Tryz.func32, by kernel_rfl⟩
theorem fk33 : fkS 33 Tryz.f33 := ⟨Tryz.func33, by kernel_rfl⟩
theorem fk34 : fkS 34 Tryz.f34 := ⟨Tryz.func34, by kernel_rfl⟩
theorem fk37 : fkS 37 Tryz.f37 := ⟨Tryz.func37, by kernel_rfl⟩
theorem fk38 : fkS 38 Tryz.f38 := ⟨Tryz.func38, by kernel_rfl⟩
theorem fk39 : fkS 39 Tryz.f39 := ⟨Tryz.func39, by kernel_rfl⟩
theorem fk40 : fkS 40 Tryz.f40 := ⟨Tryz.func40, by kernel_rfl⟩
theorem fk41 : fkS 41 Tryz.f41 := ⟨Tryz.func41, by kernel_rfl⟩
theorem fk42 : fkS 42 Tryz.f42 := ⟨Tryz.func42, by kernel_rfl⟩
theorem fk43 : fkS 43 Tryz.f43 := ⟨Tryz.func43, by kernel_rfl⟩
theorem fk44 : fkS 44 Tryz.f44 := ⟨Tryz.func44, by kernel_rfl⟩
theorem fk49 : fkS 49 Tryz.f49 := ⟨Tryz.func49, by kernel_rfl⟩
theorem fk50 : fkS 50 Tryz.f50 := ⟨Tryz.func50, by kernel_rfl⟩
theorem fk54 : fkS 54 Tryz.f54 := ⟨Tryz.func54, by kernel_rfl⟩
theorem fk55 : fkS 55 Tryz.f55 := ⟨Tryz.func55, by kernel_rfl⟩
theorem fk56 : fkS 56 Tryz.f56 := ⟨Tryz.func56, by kernel_rfl⟩
theorem fk57 : fkS 57 Tryz.f57 := ⟨Tryz.func57, by kernel_rfl⟩
theorem fk58 : fkS 58 Tryz.f58 := ⟨Tryz.func58, by kernel_rfl⟩
theorem fk59 : fkS 59 Tryz.f59 := ⟨Tryz.func59, by kernel_rfl⟩
theorem fk60 : fkS 60 Tryz.f60 := ⟨Tryz.func60, by kernel_rfl⟩
theorem fk61 : fkS 61 Tryz.f61 := ⟨Tryz.func61, by kernel_rfl⟩
theorem fk62 : fkS 62 Tryz.f62 := ⟨Tryz.func62, by kernel_rfl⟩
theorem fk63 : fkS 63 Tryz.f63 := ⟨Tryz.func63, by kernel_rfl⟩
theorem fk71 : fkS 71 Tryz.f71 := ⟨Tryz.func71, by kernel_rfl⟩
theorem fk72 : fkS 72 Tryz.f72 := ⟨Tryz.func72, by kernel_rfl⟩
theorem fk73 : fkS 73 Tryz.f73 := ⟨Tryz.func73, by kernel_rfl⟩
theorem fk74 : fkS 74 Tryz.f74 := ⟨Tryz.func74, by kernel_rfl⟩
theorem fk75 : fkS 75 Tryz.f75 := ⟨Tryz.func75, by kernel_rfl⟩
theorem fk76 : fkS 76 Tryz.f76 := ⟨Tryz.func76, by kernel_rfl⟩
theorem fk77 : fkS 77 Tryz.f77 := ⟨Tryz.func77, by kernel_rfl⟩
theorem fk78 : fkS 78 Tryz.f78 := ⟨Tryz.func78, by kernel_rfl⟩
theorem fk83 : fkS 83 Tryz.f83 := ⟨Tryz.func83, by kernel_rfl⟩
theorem fk84 : fkS 84 Tryz.f84 := ⟨Tryz.func84, by kernel_rfl⟩
theorem fk85 : fkS 85 Tryz.f85 := ⟨Tryz.func85, by kernel_rfl⟩
theorem fk86 : fkS 86 Tryz.f86 := ⟨Tryz.func86, by kernel_rfl⟩
theorem fk87 : fkS 87 Tryz.f87 := ⟨Tryz.func87, by kernel_rfl⟩
theorem fk88 : fkS 88 Tryz.f88 := ⟨Tryz.func88, by kernel_rfl⟩
theorem fk89 : fkS 89 Tryz.f89 := ⟨Tryz.func89, by kernel_rfl⟩
theorem fk90 : fkS 90 Tryz.f90 := ⟨Tryz.func90, by kernel_rfl⟩
theorem fk91 : fkS 91 Tryz.f91 := ⟨Tryz.func91, by kernel_rfl⟩
theorem fk92 : fkS 92 Tryz.f92 := ⟨Tryz.func92, by kernel_rfl⟩
theorem fk93 : fkS 93 Tryz.f93 := ⟨Tryz.func93, by kernel_rfl⟩
theorem fk94 : fkS 94 Tryz.f94 := ⟨Tryz.func94, by kernel_rfl⟩
theorem fk95 : fkS 95 Tryz.f95 := ⟨Tryz.func95, by kernel_rfl⟩
theorem fk96 : fkS 96 Tryz.f96 := ⟨Tryz.func96, by kernel_rfl⟩
theorem fk97 : fkS 97 Tryz.f97 := ⟨Tryz.func97, by kernel_rfl⟩
theorem fk98 : fkS 98 Tryz.f98 := ⟨Tryz.func98, by kernel_rfl⟩
theorem fk100 : fkS 100 Tryz.f100 := ⟨Tryz.func100, by kernel_rfl⟩
theorem fk101 : fkS 101 Tryz.f101 := ⟨Tryz.func101, by kernel_rfl⟩
theorem fk102 : fkS 102 Tryz.f102 := ⟨Tryz.func102, by kernel_rfl⟩
theorem fk103 : fkS 103 Tryz.f103 := ⟨Tryz.func103, by kernel_rfl⟩
theorem fk104 : fkS 104 Tryz.f104 := ⟨Tryz.func104, by kernel_rfl⟩
theorem fk105 : fkS 105 Tryz.f105 := ⟨Tryz.func105, by kernel_rfl⟩
theorem fk106 : fkS 106 Tryz.f106 := ⟨Tryz.func106, by kernel_rfl⟩
theorem fk107 : fkS 107 Tryz.f107 := ⟨Tryz.func107, by kernel_rfl⟩
theorem fk108 : fkS 108 Tryz.f108 := ⟨Tryz.func108, by kernel_rfl⟩
theorem fk109 : fkS 109 Tryz.f109 := ⟨Tryz.func109, by kernel_rfl⟩
theorem fk110 : fkS 110 Tryz.f110 := ⟨Tryz.func110, by kernel_rfl⟩
theorem fk111 : fkS 111 Tryz.f111 := ⟨Tryz.func111, by kernel_rfl⟩
theorem fk112 : fkS 112 Tryz.f112 := ⟨Tryz.func112, by kernel_rfl⟩
theorem fk113 : fkS 113 Tryz.f113 := ⟨Tryz.func113, by kernel_rfl⟩
theorem fk114 : fkS 114 Tryz.f114 := ⟨Tryz.func114, by kernel_rfl⟩
theorem fk115 : fkS 115 Tryz.f115 := ⟨Tryz.func115, by kernel_rfl⟩
theorem fk116 : fkS 116 Tryz.f116 := ⟨Tryz.func116, by kernel_rfl⟩
theorem fk117 : fkS 117 Tryz.f117 := ⟨Tryz.func117, by kernel_rfl⟩
theorem fk118 : fkS 118 Tryz.f118 := ⟨Tryz.func118, by kernel_rfl⟩
theorem ae49 : AeOk Tryz.prog 49 2 := aeOk2 Tryz.underlying49 (by kernel_rfl) (by kernel_rfl) (by decide) (by decide) rfl rfl (by kernel_rfl) (by kernel_rfl)
theorem ae72 : AeOk Tryz.prog 72 2 := aeOk2 Tryz.underlying72 (by kernel_rfl) (by kernel_rfl) (by decide) (by decide) rfl rfl (by kernel_rfl) (by kernel_rfl)
theorem ae73 : AeOk Tryz.prog 73 2 := aeOk2 Tryz.underlying73 (by kernel_rfl) (by kernel_rfl) (by decide) (by decide) rfl rfl (by kernel_rfl) (by kernel_rfl)
theorem ae87 : AeOk Tryz.prog 87 2 := aeOk2 Tryz.underlying87 (by kernel_rfl) (by kernel_rfl) (by decide) (by decide) rfl rfl (by kernel_rfl) (by kernel_rfl)
theorem ae88 : AeOk Tryz.prog 88 2 := aeOk2 Tryz.underlying88 (by kernel_rfl) (by kernel_rfl) (by decide) (by decide) rfl rfl (by kernel_rfl) (by kernel_rfl)
theorem tbOk : TbOk Tryz.prog tb :=
 ⟨⟨ty0, ty1, ty2, ty3, ty4, ty5, ty6, ty7, ty8, ty9, ty11, ty12, ty20, ty22, ty23, ty25, ty26, ty27, ty28, ty31, ty32, ty33, ty34, ty37, ty38, ty39, ty40, ty41, ty42, ty43, ty44, ty45, ty46, ty49, ty50, ty51, ty53, ty54, ty55, ty56, ty57, ty58, ty59, ty60, ty61, ty62, ty63, ty66, ty67, ty69, ty71, ty72, ty73, ty74, ty75, ty76, ty77, ty78, ty83, ty84, ty85, ty86, ty87, ty88, ty89, ty90, ty91, ty92, ty93, ty94, ty95, ty96, ty97, ty98, ty99, ty100, ty101, ty102, ty103, ty104, ty105, ty106, ty107, ty108, ty109, ty110, ty111, ty112, ty113, ty114, ty115, ty116, ty117, ty118, ty119, ty120, ty121, ty123, ty124, ty133, ty137, ty144, ty145, trivial⟩,
 ⟨ik2, ik3, ik5, ik6, ik12, ik57, ik100, ik116, ik119, ik123, ik133, trivial⟩,
 ⟨fk11, fk12, fk15, fk26, fk27, fk28, fk31, fk32, fk33, fk34, fk37, fk38, fk39, fk40, fk41, fk42, fk43, fk44, fk49, fk50, fk54, fk55, fk56, fk57, fk58, fk59, fk60, fk61, fk62, fk63, fk71, fk72, fk73, fk74, fk75, fk76, fk77, fk78, fk83, fk84, fk85, fk86, fk87, fk88, fk89, fk90, fk91, fk92, fk93, fk94, fk95, fk96, fk97, fk98, fk100, fk101, fk102, fk103, fk104, fk105, fk106, fk107, fk108, fk109, fk110, fk111, fk112, fk113, fk114, fk115, fk116, fk117, fk118, trivial⟩,
 ⟨ae49, ae72, ae73, ae87, ae88, trivial⟩, orcsOk, ⟨⟨_, _, Tryz.underlying94, keyOk_s Tryz.underlying9, by kernel_rfl⟩, trivial⟩, ⟨bl4, trivial⟩, by kernel_rfl⟩
set_option linter.unusedVariables false
set_option linter.unusedSimpArgs false
def okS : AV → Bool
 | .a (.c (.v (.bool true))) => true
 | _ => false
theorem okS_eq {r : AV} (h : okS r = true) : r = .b true := by
 unfold okS at h
 split at h
 ·rfl
 ·cases h
theorem sane27_run : runF tb 100000 15 [] okS = .ok := by kernel_rfl
theorem sane27_fc : FC Tryz.prog 15 [] [] (fun r _ => r = .b true) := (runF_ok tbOk sane27_run).mono fun _ _ h => okS_eq h
end Go.Proofs.YtahnebicgbjonaaGreat
