/- The runner's tables for this seat. -/
import Derived.Test.YtglchakimolfdaaDoorMK
import Derived.Test.YtglchakimolfdaaDoorTy
namespace Go.Proofs.YtglchakimolfdaaDoor
set_option maxRecDepth 100000
noncomputable def tbTy : List (Nat × Ty) := [(0, ⟨1, 0, false, [.tuple { toList := [] }], 0, 0, []⟩),
 (1, ⟨1, 8, false, [.nilFunc], 0, 0, []⟩),
 (2, ⟨1, 8, false, [.int .i64 0], 5, 0, []⟩),
 (3, ⟨1, 8, false, [.int .i64 0], 5, 0, []⟩),
 (4, ⟨1, 1, false, [.bool false], 0, 0, []⟩),
 (5, ⟨1, 1, false, [.int .u8 0], 5, 0, []⟩),
 (6, ⟨1, 1, false, [.int .u8 0], 5, 0, []⟩),
 (7, ⟨4, 24, true, [.int .i64 0, .int .i64 0, .bool false, .int .u8 0], 2, 0, [(0, 1, false), (1, 1, false), (2, 1, false), (3, 1, false)]⟩),
 (8, ⟨4, 24, true, [.int .i64 0, .int .i64 0, .bool false, .int .u8 0], 2, 0, [(0, 1, false), (1, 1, false), (2, 1, false), (3, 1, false)]⟩),
 (9, ⟨1, 16, false, [.string { data := { toList := [] } }], 4, 0, []⟩),
 (10, ⟨1, 16, false, [.string { data := { toList := [] } }], 4, 0, []⟩),
 (11, ⟨1, 16, false, [.string { data := { toList := [] } }], 4, 0, []⟩),
 (12, ⟨1, 8, false, [.int .u64 0], 5, 0, []⟩),
 (13, ⟨2, 24, true, [.string { data := { toList := [] } }, .int .u64 0], 2, 0, [(0, 1, false), (1, 1, false)]⟩),
 (14, ⟨2, 24, true, [.string { data := { toList := [] } }, .int .u64 0], 2, 0, [(0, 1, false), (1, 1, false)]⟩),
 (15, ⟨1, 8, false, [.pointer none], 0, 0, []⟩),
 (16, ⟨1, 8, false, [.pointer none], 0, 0, []⟩),
 (17, ⟨1, 8, false, [.pointer none], 0, 0, []⟩),
 (18, ⟨1, 8, true, [.pointer none], 2, 0, [(0, 1, false)]⟩),
 (19, ⟨1, 8, true, [.pointer none], 2, 0, [(0, 1, false)]⟩),
 (20, ⟨1, 16, false, [.nilIface], 0, 0, []⟩),
 (21, ⟨1, 4, false, [.int .i32 0], 5, 0, []⟩),
 (22, ⟨2, 16, true, [.int .i64 0, .int .i64 0], 2, 0, [(0, 1, false), (1, 1, false)]⟩),
 (23, ⟨2, 16, true, [.int .i64 0, .int .i64 0], 2, 0, [(0, 1, false), (1, 1, false)]⟩),
 (24, ⟨1, 24, false, [.slice none 0 0], 1, 23, []⟩),
 (25, ⟨1, 24, false, [.slice none 0 0], 1, 24, []⟩),
 (26, ⟨1, 24, true, [.slice none 0 0], 2, 0, [(0, 1, false)]⟩),
 (27, ⟨1, 24, true, [.slice none 0 0], 2, 0, [(0, 1, false)]⟩),
 (28, ⟨1, 8, false, [.nilFunc], 0, 0, []⟩),
 (29, ⟨1, 8, false, [.nilFunc], 0, 0, []⟩),
 (30, ⟨1, 24, false, [.slice none 0 0], 1, 3, []⟩),
 (31, ⟨1, 8, false, [.nilFunc], 0, 0, []⟩),
 (32, ⟨1, 8, false, [.nilFunc], 0, 0, []⟩),
 (33, ⟨1, 8, false, [.int .i64 0], 5, 0, []⟩),
 (34, ⟨1, 0, false, [.tuple { toList := [.agg { toList := [.slice none 0 0] }, .int .i64 0] }], 0, 0, []⟩),
 (35, ⟨1, 8, false, [.nilFunc], 0, 0, []⟩),
 (36, ⟨1, 8, false, [.nilFunc], 0, 0, []⟩),
 (37, ⟨1, 8, false, [.pointer none], 0, 0, []⟩),
 (38, ⟨1, 8, false, [.nilFunc], 0, 0, []⟩),
 (39, ⟨1, 8, false, [.nilFunc], 0, 0, []⟩),
 (40, ⟨1, 8, false, [.nilFunc], 0, 0, []⟩),
 (41, ⟨1, 8, false, [.nilFunc], 0, 0, []⟩),
 (42, ⟨1, 8, false, [.nilFunc], 0, 0, []⟩),
 (43, ⟨1, 0, false, [.tuple { toList := [.agg { toList := [.slice none 0 0] }, .slice none 0 0, .int .i64 0] }], 0, 0, []⟩),
 (44, ⟨1, 8, false, [.nilFunc], 0, 0, []⟩),
 (45, ⟨1, 24, false, [.slice none 0 0], 1, 4, []⟩),
 (46, ⟨1, 8, false, [.nilFunc], 0, 0, []⟩),
 (47, ⟨1, 8, false, [.nilFunc], 0, 0, []⟩),
 (48, ⟨1, 8, false, [.nilFunc], 0, 0, []⟩),
 (49, ⟨2, 16, true, [.int .i64 0, .int .i64 0], 2, 0, [(0, 1, false), (1, 1, false)]⟩),
 (50, ⟨2, 16, true, [.int .i64 0, .int .i64 0], 2, 0, [(0, 1, false), (1, 1, false)]⟩),
 (51, ⟨1, 24, false, [.slice none 0 0], 1, 50, []⟩),
 (52, ⟨1, 8, false, [.nilFunc], 0, 0, []⟩),
 (53, ⟨1, 8, false, [.nilFunc], 0, 0, []⟩),
 (54, ⟨1, 24, false, [.slice none 0 0], 1, 27, []⟩),
 (55, ⟨1, 24, false, [.slice none 0 0], 1, 30, []⟩),
 (56, ⟨5, 120, true, [.slice none 0 0, .slice none 0 0, .slice none 0 0, .slice none 0 0, .slice none 0 0], 2, 0, [(0, 1, true), (1, 1, false), (2, 1, false), (3, 1, false), (4, 1, false)]⟩),
 (57, ⟨5, 120, true, [.slice none 0 0, .slice none 0 0, .slice none 0 0, .slice none 0 0, .slice none 0 0], 2, 0, [(0, 1, true), (1, 1, false), (2, 1, false), (3, 1, false), (4, 1, false)]⟩),
 (58, ⟨1, 8, false, [.nilFunc], 0, 0, []⟩),
 (59, ⟨1, 8, false, [.nilFunc], 0, 0, []⟩),
 (60, ⟨1, 8, false, [.nilFunc], 0, 0, []⟩),
 (61, ⟨1, 24, false, [.slice none 0 0], 1, 9, []⟩),
 (62, ⟨1, 0, false, [.tuple { toList := [.slice none 0 0, .int .i64 0] }], 0, 0, []⟩),
 (63, ⟨1, 8, false, [.nilFunc], 0, 0, []⟩),
 (64, ⟨1, 8, false, [.pointer none], 0, 0, []⟩),
 (65, ⟨1, 8, false, [.nilFunc], 0, 0, []⟩),
 (66, ⟨1, 8, false, [.nilFunc], 0, 0, []⟩),
 (67, ⟨1, 8, false, [.nilFunc], 0, 0, []⟩),
 (68, ⟨1, 8, false, [.nilFunc], 0, 0, []⟩),
 (69, ⟨1, 8, false, [.nilFunc], 0, 0, []⟩),
 (70, ⟨1, 8, false, [.nilFunc], 0, 0, []⟩),
 (71, ⟨1, 8, false, [.nilFunc], 0, 0, []⟩),
 (72, ⟨1, 8, false, [.nilFunc], 0, 0, []⟩),
 (73, ⟨1, 8, false, [.pointer none], 0, 0, []⟩),
 (74, ⟨1, 8, false, [.nilFunc], 0, 0, []⟩),
 (75, ⟨1, 8, false, [.nilFunc], 0, 0, []⟩),
 (76, ⟨1, 8, false, [.nilFunc], 0, 0, []⟩),
 (77, ⟨1, 8, false, [.nilFunc], 0, 0, []⟩),
 (78, ⟨1, 8, false, [.nilFunc], 0, 0, []⟩),
 (79, ⟨1, 8, false, [.nilFunc], 0, 0, []⟩),
 (80, ⟨1, 8, false, [.nilFunc], 0, 0, []⟩),
 (81, ⟨1, 8, false, [.nilFunc], 0, 0, []⟩),
 (82, ⟨1, 8, false, [.nilFunc], 0, 0, []⟩),
 (83, ⟨1, 24, false, [.slice none 0 0], 1, 85, []⟩),
 (84, ⟨2, 16, true, [.int .i64 0, .int .i64 0], 2, 0, [(0, 1, false), (1, 1, false)]⟩),
 (85, ⟨2, 16, true, [.int .i64 0, .int .i64 0], 2, 0, [(0, 1, false), (1, 1, false)]⟩),
 (86, ⟨1, 8, false, [.pointer none], 0, 0, []⟩),
 (87, ⟨1, 8, false, [.nilFunc], 0, 0, []⟩),
 (88, ⟨1, 8, false, [.nilFunc], 0, 0, []⟩),
 (89, ⟨1, 8, false, [.map none], 3, 3, []⟩),
 (90, ⟨1, 0, false, [.tuple { toList := [.int .i64 0, .bool false] }], 0, 0, []⟩),
 (91, ⟨1, 24, false, [.slice none 0 0], 1, 96, []⟩),
 (92, ⟨1, 24, false, [.slice none 0 0], 1, 99, []⟩),
 (93, ⟨2, 48, true, [.slice none 0 0, .slice none 0 0], 2, 0, [(0, 1, false), (1, 1, false)]⟩),
 (94, ⟨2, 48, true, [.slice none 0 0, .slice none 0 0], 2, 0, [(0, 1, false), (1, 1, false)]⟩),
 (95, ⟨1, 24, false, [.slice none 0 0], 1, 118, []⟩),
 (96, ⟨1, 24, false, [.slice none 0 0], 1, 118, []⟩),
 (97, ⟨1, 8, false, [.nilFunc], 0, 0, []⟩),
 (98, ⟨1, 8, false, [.nilFunc], 0, 0, []⟩),
 (99, ⟨1, 8, false, [.map none], 3, 96, []⟩),
 (100, ⟨1, 8, false, [.nilFunc], 0, 0, []⟩),
 (101, ⟨1, 8, false, [.nilFunc], 0, 0, []⟩),
 (102, ⟨1, 8, false, [.nilFunc], 0, 0, []⟩),
 (103, ⟨1, 8, false, [.nilFunc], 0, 0, []⟩),
 (104, ⟨1, 8, false, [.nilFunc], 0, 0, []⟩),
 (105, ⟨1, 0, false, [.tuple { toList := [.agg { toList := [.slice none 0 0] }, .bool false] }], 0, 0, []⟩),
 (106, ⟨1, 8, false, [.nilFunc], 0, 0, []⟩),
 (107, ⟨1, 8, false, [.int .u64 0], 5, 0, []⟩),
 (108, ⟨1, 0, false, [.tuple { toList := [.int .u64 0, .int .u64 0] }], 0, 0, []⟩),
 (109, ⟨1, 8, false, [.nilFunc], 0, 0, []⟩),
 (110, ⟨1, 8, false, [.nilFunc], 0, 0, []⟩),
 (111, ⟨1, 8, false, [.nilFunc], 0, 0, []⟩),
 (112, ⟨3, 56, true, [.slice none 0 0, .slice none 0 0, .int .i64 0], 2, 0, [(0, 1, true), (1, 1, false), (2, 1, false)]⟩),
 (113, ⟨3, 56, true, [.slice none 0 0, .slice none 0 0, .int .i64 0], 2, 0, [(0, 1, true), (1, 1, false), (2, 1, false)]⟩),
 (114, ⟨1, 8, false, [.nilFunc], 0, 0, []⟩),
 (115, ⟨1, 8, false, [.nilFunc], 0, 0, []⟩),
 (116, ⟨1, 8, false, [.nilFunc], 0, 0, []⟩),
 (117, ⟨1, 8, false, [.nilFunc], 0, 0, []⟩),
 (118, ⟨1, 8, false, [.int .u64 0], 5, 0, []⟩),
 (119, ⟨1, 8, false, [.nilFunc], 0, 0, []⟩),
 (120, ⟨1, 8, false, [.nilFunc], 0, 0, []⟩),
 (121, ⟨1, 24, false, [.slice none 0 0], 1, 5, []⟩),
 (122, ⟨1, 4, false, [.int .u32 0], 5, 0, []⟩),
 (123, ⟨1, 0, false, [.tuple { toList := [.int .u32 0, .int .u32 0] }], 0, 0, []⟩),
 (124, ⟨1, 8, false, [.nilFunc], 0, 0, []⟩),
 (125, ⟨1, 0, false, [.tuple { toList := [.int .u64 0, .int .u64 0] }], 0, 0, []⟩),
 (126, ⟨1, 8, false, [.nilFunc], 0, 0, []⟩),
 (127, ⟨1, 8, false, [.nilFunc], 0, 0, []⟩),
 (128, ⟨1, 8, false, [.int .i64 0], 5, 0, []⟩),
 (129, ⟨1, 0, false, [.tuple { toList := [.int .i64 0, .int .i64 0] }], 0, 0, []⟩),
 (130, ⟨1, 8, false, [.nilFunc], 0, 0, []⟩),
 (131, ⟨1, 8, false, [.nilFunc], 0, 0, []⟩),
 (132, ⟨1, 8, false, [.nilFunc], 0, 0, []⟩),
 (133, ⟨1, 8, false, [.nilFunc], 0, 0, []⟩),
 (134, ⟨1, 8, false, [.nilFunc], 0, 0, []⟩),
 (135, ⟨1, 8, false, [.nilFunc], 0, 0, []⟩),
 (137, ⟨1, 8, false, [.nilFunc], 0, 0, []⟩),
 (138, ⟨1, 8, false, [.nilFunc], 0, 0, []⟩),
 (139, ⟨1, 8, false, [.nilFunc], 0, 0, []⟩),
 (140, ⟨1, 8, false, [.nilFunc], 0, 0, []⟩),
 (141, ⟨1, 8, false, [.nilFunc], 0, 0, []⟩),
 (142, ⟨1, 8, false, [.nilFunc], 0, 0, []⟩),
 (143, ⟨1, 8, false, [.int .u64 0], 5, 0, []⟩),
 (144, ⟨1, 8, false, [.nilFunc], 0, 0, []⟩),
 (145, ⟨1, 8, false, [.nilFunc], 0, 0, []⟩),
 (146, ⟨1, 8, false, [.nilFunc], 0, 0, []⟩),
 (147, ⟨1, 8, false, [.pointer none], 0, 0, []⟩),
 (148, ⟨1, 8, false, [.nilFunc], 0, 0, []⟩),
 (149, ⟨1, 8, false, [.nilFunc], 0, 0, []⟩),
 (150, ⟨1, 8, false, [.nilFunc], 0, 0, []⟩),
 (151, ⟨1, 8, false, [.pointer none], 0, 0, []⟩),
 (152, ⟨1, 0, false, [.tuple { toList := [.int .i64 0, .int .i64 0] }], 0, 0, []⟩),
 (153, ⟨1, 8, false, [.nilFunc], 0, 0, []⟩),
 (154, ⟨1, 8, false, [.nilFunc], 0, 0, []⟩),
 (155, ⟨1, 8, false, [.nilFunc], 0, 0, []⟩),
 (156, ⟨4, 40, true, [.pointer none, .pointer none, .pointer none, .string { data := { toList := [] } }], 2, 0, [(0, 1, false), (1, 1, false), (2, 1, false), (3, 1, false)]⟩),
 (157, ⟨4, 40, true, [.pointer none, .pointer none, .pointer none, .string { data := { toList := [] } }], 2, 0, [(0, 1, false), (1, 1, false), (2, 1, false), (3, 1, false)]⟩),
 (158, ⟨0, 0, true, [], 0, 0, []⟩),
 (159, ⟨0, 0, true, [], 2, 0, [(0, 0, true)]⟩),
 (160, ⟨0, 0, true, [], 2, 0, [(0, 0, true)]⟩),
 (161, ⟨1, 8, false, [.nilFunc], 0, 0, []⟩),
 (162, ⟨1, 1, false, [.int .u8 0], 5, 0, []⟩),
 (163, ⟨1, 1, false, [.int .u8 0], 5, 0, []⟩),
 (164, ⟨1, 8, false, [.nilFunc], 0, 0, []⟩),
 (165, ⟨1, 8, false, [.pointer none], 0, 0, []⟩),
 (166, ⟨1, 4, false, [.int .i32 0], 5, 0, []⟩),
 (167, ⟨1, 4, false, [.int .i32 0], 5, 0, []⟩),
 (168, ⟨11, 48, true, [.int .u64 0, .int .u64 0, .int .u32 0, .int .u8 0, .int .u8 0, .int .u8 0, .int .u8 0, .nilFunc, .pointer none, .int .i32 0, .int .i32 0], 2, 0, [(0, 1, false), (1, 1, false), (2, 1, false), (3, 1, false), (4, 1, false), (5, 1, false), (6, 1, false), (7, 1, false), (8, 1, false), (9, 1, false), (10, 1, false)]⟩),
 (169, ⟨11, 48, true, [.int .u64 0, .int .u64 0, .int .u32 0, .int .u8 0, .int .u8 0, .int .u8 0, .int .u8 0, .nilFunc, .pointer none, .int .i32 0, .int .i32 0], 2, 0, [(0, 1, false), (1, 1, false), (2, 1, false), (3, 1, false), (4, 1, false), (5, 1, false), (6, 1, false), (7, 1, false), (8, 1, false), (9, 1, false), (10, 1, false)]⟩),
 (170, ⟨1, 8, false, [.nilFunc], 0, 0, []⟩),
 (171, ⟨1, 8, false, [.pointer none], 0, 0, []⟩)]
noncomputable def tbIk : List (Nat × IntKind) := [(2, .i64), (3, .i64), (5, .u8), (6, .u8), (12, .u64), (21, .i32), (33, .i64), (107, .u64), (118, .u64), (122, .u32), (128, .i64), (143, .u64), (162, .u8), (163, .u8), (166, .i32), (167, .i32)]
noncomputable def tbFn : List (Nat × Func) := [(2, Tryd.f2), (3, Tryd.f3), (4, Tryd.f4), (5, Tryd.f5), (6, Tryd.f6), (7, Tryd.f7), (8, Tryd.f8), (9, Tryd.f9), (10, Tryd.f10), (11, Tryd.f11), (12, Tryd.f12), (13, Tryd.f13), (14, Tryd.f14), (15, Tryd.f15), (16, Tryd.f16), (17, Tryd.f17), (18, Tryd.f18), (19, Tryd.f19), (20, Tryd.f20), (21, Tryd.f21), (22, Tryd.f22), (23, Tryd.f23), (24, Tryd.f24), (25, Tryd.f25), (26, Tryd.f26), (27, Tryd.f27), (28, Tryd.f28), (29, Tryd.f29), (30, Tryd.f30), (31, Tryd.f31), (32, Tryd.f32), (33, Tryd.f33), (34, Tryd.f34), (35, Tryd.f35), (36, Tryd.f36), (37, Tryd.f37), (38, Tryd.f38), (39, Tryd.f39), (40, Tryd.f40), (41, Tryd.f41), (42, Tryd.f42), (43, Tryd.f43), (44, Tryd.f44), (45, Tryd.f45), (46, Tryd.f46), (47, Tryd.f47), (48, Tryd.f48), (49, Tryd.f49), (50, Tryd.f50), (51, Tryd.f51), (52, Tryd.f52), (53, Tryd.f53), (54, Tryd.f54), (55, Tryd.f55), (56, Tryd.f56), (57, Tryd.f57), (58, Tryd.f58), (59, Tryd.f59), (60, Tryd.f60), (61, Tryd.f61), (62, Tryd.f62), (63, Tryd.f63), (64, Tryd.f64), (65, Tryd.f65), (66, Tryd.f66), (67, Tryd.f67), (68, Tryd.f68), (69, Tryd.f69), (70, Tryd.f70), (71, Tryd.f71), (72, Tryd.f72), (73, Tryd.f73), (74, Tryd.f74), (75, Tryd.f75), (76, Tryd.f76), (77, Tryd.f77), (78, Tryd.f78), (79, Tryd.f79), (80, Tryd.f80), (81, Tryd.f81), (82, Tryd.f82), (83, Tryd.f83), (84, Tryd.f84), (85, Tryd.f85), (86, Tryd.f86), (87, Tryd.f87), (88, Tryd.f88), (89, Tryd.f89), (90, Tryd.f90), (91, Tryd.f91), (92, Tryd.f92), (93, Tryd.f93), (94, Tryd.f94), (95, Tryd.f95), (96, Tryd.f96), (97, Tryd.f97), (98, Tryd.f98), (99, Tryd.f99), (100, Tryd.f100), (101, Tryd.f101), (102, Tryd.f102), (103, Tryd.f103), (104, Tryd.f104), (105, Tryd.f105), (106, Tryd.f106), (127, Tryd.f127)]
noncomputable def tbAe : List (Nat × Nat) := [(22, 2), (23, 2), (49, 2), (50, 2), (84, 2), (85, 2)]
def tbBl : List (Nat × Bool) := [(4, true)]
theorem bl4 : Tryd.prog.underlying 4 = some .bool := by kernel_rfl
def tbMp : List (Nat × (Ks × Value)) := [(89, (.ks, .int .i64 0)), (99, (.ki, .slice none 0 0))]
noncomputable def tb : Tb := ⟨tbTy, tbIk, tbFn, tbAe, orcs, tbMp, tbBl⟩
theorem ik2 : Tryd.prog.underlying 2 = some (.int .i64) := by kernel_rfl
theorem ik3 : Tryd.prog.underlying 3 = some (.int .i64) := by kernel_rfl
theorem ik5 : Tryd.prog.underlying 5 = some (.int .u8) := by kernel_rfl
theorem ik6 : Tryd.prog.underlying 6 = some (.int .u8) := by kernel_rfl
theorem ik12 : Tryd.prog.underlying 12 = some (.int .u64) := by kernel_rfl
theorem ik21 : Tryd.prog.underlying 21 = some (.int .i32) := by kernel_rfl
theorem ik33 : Tryd.prog.underlying 33 = some (.int .i64) := by kernel_rfl
theorem ik107 : Tryd.prog.underlying 107 = some (.int .u64) := by kernel_rfl
theorem ik118 : Tryd.prog.underlying 118 = some (.int .u64) := by kernel_rfl
theorem ik122 : Tryd.prog.underlying 122 = some (.int .u32) := by kernel_rfl
theorem ik128 : Tryd.prog.underlying 128 = some (.int .i64) := by kernel_rfl
theorem ik143 : Tryd.prog.underlying 143 = some (.int .u64) := by kernel_rfl
theorem ik162 : Tryd.prog.underlying 162 = some (.int .u8) := by kernel_rfl
theorem ik163 : Tryd.prog.underlying 163 = some (.int .u8) := by kernel_rfl
theorem ik166 : Tryd.prog.underlying 166 = some (.int .i32) := by kernel_rfl
theorem ik167 : Tryd.prog.underlying 167 = some (.int .i32) := by kernel_rfl
def fkS (i : Nat) (f : Func) : Prop := Tryd.prog.funcs[i]? = some f ∧ callable Tryd.prog i = true
theorem fk2 : fkS 2 Tryd.f2 := ⟨Tryd.func2, by kernel_rfl⟩
theorem fk3 : fkS 3 Tryd.f3 := ⟨Tryd.func3, by kernel_rfl⟩
theorem fk4 : fkS 4 Tryd.f4 := ⟨Tryd.func4, by kernel_rfl⟩
theorem fk5 : fkS 5 Tryd.f5 := ⟨Tryd.func5, by kernel_rfl⟩
theorem fk6 : fkS 6 Tryd.f6 := ⟨Tryd.func6, by kernel_rfl⟩
theorem fk7 : fkS 7 Tryd.f7 := ⟨Tryd.func7, by kernel_rfl⟩
theorem fk8 : fkS 8 Tryd.f8 := ⟨Tryd.func8, by kernel_rfl⟩
theorem fk9 : fkS 9 Tryd.f9 := ⟨Tryd.func9, by kernel_rfl⟩
theorem fk10 : fkS 10 Tryd.f10 := ⟨Tryd.func10, by kernel_rfl⟩
theorem fk11 : fkS 11 Tryd.f11 := ⟨Tryd.func11, by kernel_rfl⟩
theorem fk12 : fkS 12 Tryd.f12 := ⟨Tryd.func12, by kernel_rfl⟩
theorem fk13 : fkS 13 Tryd.f13 := ⟨Tryd.func13, by kernel_rfl⟩
theorem fk14 : fkS 14 Tryd.f14 := ⟨Tryd.func14, by kernel_rfl⟩
theorem fk15 : fkS 15 Tryd.f15 := ⟨Tryd.func15, by kernel_rfl⟩
theorem fk16 : fkS 16 Tryd.f16 := ⟨Tryd.func16, by kernel_rfl⟩
theorem fk17 : fkS 17 Tryd.f17 := ⟨Tryd.func17, by kernel_rfl⟩
theorem fk18 : fkS 18 Tryd.f18 := ⟨Tryd.func18, by kernel_rfl⟩
theorem fk19 : fkS 19 Tryd.f19 := ⟨Tryd.func19, by kernel_rfl⟩
theorem fk20 : fkS 20 Tryd.f20 := ⟨Tryd.func20, by kernel_rfl⟩
theorem fk21 : fkS 21 Tryd.f21 := ⟨Tryd.func21, by kernel_rfl⟩
theorem fk22 : fkS 22 Tryd.f22 := ⟨Tryd.func22, by kernel_rfl⟩
theorem fk23 : fkS 23 Tryd.f23 := ⟨Tryd.func23, by kernel_rfl⟩
theorem fk24 : fkS 24 Tryd.f24 := ⟨Tryd.func24, by kernel_rfl⟩
theorem fk25 : fkS 25 Tryd.f25 := ⟨Tryd.func25, by kernel_rfl⟩
theorem fk26 : fkS 26 Tryd.f26 := ⟨Tryd.func26, by kernel_rfl⟩
theorem fk27 : fkS 27 Tryd.f27 := ⟨Tryd.func27, by kernel_rfl⟩
theorem fk28 : fkS 28 Tryd.f28 := ⟨Tryd.func28, by kernel_rfl⟩
theorem fk29 : fkS 29 Tryd.f29 := ⟨Tryd.func29, by kernel_rfl⟩
theorem fk30 : fkS 30 Tryd.f30 := ⟨Tryd.func30, by kernel_rfl⟩
theorem fk31 : fkS 31 Tryd.f31 := ⟨Tryd.func31, by kernel_rfl⟩
theorem fk32 : fkS 32 Tryd.f32 := ⟨Tryd.func32, by kernel_rfl⟩
theorem fk33 : fkS 33 Tryd.f33 := ⟨Tryd.func33, by kernel_rfl⟩
theorem fk34 : fkS 34 Tryd.f34 := ⟨Tryd.func34, by kernel_rfl⟩
theorem fk35 : fkS 35 Tryd.f35 := ⟨Tryd.func35, by kernel_rfl⟩
theorem fk36 : fkS 36 Tryd.f36 := ⟨Tryd.func36, by kernel_rfl⟩
theorem fk37 : fkS 37 Tryd.f37 := ⟨Tryd.func37, by kernel_rfl⟩
theorem fk38 : fkS 38 Tryd.f38 := ⟨Tryd.func38, by kernel_rfl⟩
theorem fk39 : fkS 39 Tryd.f39 := ⟨Tryd.func39, by kernel_rfl⟩
theorem fk40 : fkS 40 Tryd.f40 := ⟨Tryd.func40, by kernel_rfl⟩
theorem fk41 : fkS 41 Tryd.f41 := ⟨Tryd.func41, by kernel_rfl⟩
theorem fk42 : fkS 42 Tryd.f42 := ⟨Tryd.func42, by kernel_rfl⟩
theorem fk43 : fkS 43 Tryd.f43 := ⟨Tryd.func43, by kernel_rfl⟩
theorem fk44 : fkS 44 Tryd.f44 := ⟨Tryd.func44, by kernel_rfl⟩
theorem fk45 : fkS 45 Tryd.f45 := ⟨Tryd.func45, by kernel_rfl⟩
theorem fk46 : fkS 46 Tryd.f46 := ⟨Tryd.func46, by kernel_rfl⟩
theorem fk47 : fkS 47 Tryd.f47 := ⟨Tryd.func47, by kernel_rfl⟩
theorem fk48 : fkS 48 Tryd.f48 := ⟨Tryd.func48, by kernel_rfl⟩
theorem fk49 : fkS 49 Tryd.f49 := ⟨Tryd.func49, by kernel_rfl⟩
theorem fk50 : fkS 50 Tryd.f50 := ⟨Tryd.func50, by kernel_rfl⟩
theorem fk51 : fkS 51 Tryd.f51 := ⟨Tryd.func51, by kernel_rfl⟩
theorem fk52 : fkS 52 Tryd.f52 := ⟨Tryd.func52, by kernel_rfl⟩
theorem fk53 : fkS 53 Tryd.f53 := ⟨Tryd.func53, by kernel_rfl⟩
theorem fk54 : fkS 54 Tryd.f54 := ⟨Tryd.func54, by kernel_rfl⟩
theorem fk55 : fkS 55 Tryd.f55 := ⟨Tryd.func55, by kernel_rfl⟩
theorem fk56 : fkS 56 Tryd.f56 := ⟨Tryd.func56, by kernel_rfl⟩
theorem fk57 : fkS 57 Tryd.f57 := ⟨Tryd.func57, by kernel_rfl⟩
theorem fk58 : fkS 58 Tryd.f58 := ⟨Tryd.func58, by kernel_rfl⟩
theorem fk59 : fkS 59 Tryd.f59 := ⟨Tryd.func59, by kernel_rfl⟩
theorem fk60 : fkS 60 Tryd.f60 := ⟨Tryd.func60, by kernel_rfl⟩
theorem fk61 : fkS 61 Tryd.f61 := ⟨Tryd.func61, by kernel_rfl⟩
theorem fk62 : fkS 62 Tryd.f62 := ⟨Tryd.func62, by kernel_rfl⟩
theorem fk63 : fkS 63 Tryd.f63 := ⟨Tryd.func63, by kernel_rfl⟩
theorem fk64 : fkS 64 Tryd.f64 := ⟨Tryd.func64, by kernel_rfl⟩
theorem fk65 : fkS 65 Tryd.f65 := ⟨Tryd.func65, by kernel_rfl⟩
theorem fk66 : fkS 66 Tryd.f66 := ⟨Tryd.func66, by kernel_rfl⟩
theorem fk67 : fkS 67 Tryd.f67 := ⟨Tryd.func67, by kernel_rfl⟩
theorem fk68 : fkS 68 Tryd.f68 := ⟨Tryd.func68, by kernel_rfl⟩
theorem fk69 : fkS 69 Tryd.f69 := ⟨Tryd.func69, by kernel_rfl⟩
theorem fk70 : fkS 70 Tryd.f70 := ⟨Tryd.func70, by kernel_rfl⟩
theorem fk71 : fkS 71 Tryd.f71 := ⟨Tryd.func71, by kernel_rfl⟩
theorem fk72 : fkS 72 Tryd.f72 := ⟨Tryd.func72, by kernel_rfl⟩
theorem fk73 : fkS 73 Tryd.f73 := ⟨Tryd.func73, by kernel_rfl⟩
theorem fk74 : fkS 74 Tryd.f74 := ⟨Tryd.func74, by kernel_rfl⟩
theorem fk75 : fkS 75 Tryd.f75 := ⟨Tryd.func75, by kernel_rfl⟩
theorem fk76 : fkS 76 Tryd.f76 := ⟨Tryd.func76, by kernel_rfl⟩
theorem fk77 : fkS 77 Tryd.f77 := ⟨Tryd.func77, by kernel_rfl⟩
theorem fk78 : fkS 78 Tryd.f78 := ⟨Tryd.func78, by kernel_rfl⟩
theorem fk79 : fkS 79 Tryd.f79 := ⟨Tryd.func79, by kernel_rfl⟩
theorem fk80 : fkS 80 Tryd.f80 := ⟨Tryd.func80, by kernel_rfl⟩
theorem fk81 : fkS 81 Tryd.f81 := ⟨Tryd.func81, by kernel_rfl⟩
theorem fk82 : fkS 82 Tryd.f82 := ⟨Tryd.func82, by kernel_rfl⟩
theorem fk83 : fkS 83 Tryd.f83 := ⟨Tryd.func83, by kernel_rfl⟩
theorem fk84 : fkS 84 Tryd.f84 := ⟨Tryd.func84, by kernel_rfl⟩
theorem fk85 : fkS 85 Tryd.f85 := ⟨Tryd.func85, by kernel_rfl⟩
theorem fk86 : fkS 86 Tryd.f86 := ⟨Tryd.func86, by kernel_rfl⟩
theorem fk87 : fkS 87 Tryd.f87 := ⟨Tryd.func87, by kernel_rfl⟩
theorem fk88 : fkS 88 Tryd.f88 := ⟨Tryd.func88, by kernel_rfl⟩
theorem fk89 : fkS 89 Tryd.f89 := ⟨Tryd.func89, by kernel_rfl⟩
theorem fk90 : fkS 90 Tryd.f90 := ⟨Tryd.func90, by kernel_rfl⟩
theorem fk91 : fkS 91 Tryd.f91 := ⟨Tryd.func91, by kernel_rfl⟩
theorem fk92 : fkS 92 Tryd.f92 := ⟨Tryd.func92, by kernel_rfl⟩
theorem fk93 : fkS 93 Tryd.f93 := ⟨Tryd.func93, by kernel_rfl⟩
theorem fk94 : fkS 94 Tryd.f94 := ⟨Tryd.func94, by kernel_rfl⟩
theorem fk95 : fkS 95 Tryd.f95 := ⟨Tryd.func95, by kernel_rfl⟩
theorem fk96 : fkS 96 Tryd.f96 := ⟨Tryd.func96, by kernel_rfl⟩
theorem fk97 : fkS 97 Tryd.f97 := ⟨Tryd.func97, by kernel_rfl⟩
theorem fk98 : fkS 98 Tryd.f98 := ⟨Tryd.func98, by kernel_rfl⟩
theorem fk99 : fkS 99 Tryd.f99 := ⟨Tryd.func99, by kernel_rfl⟩
theorem fk100 : fkS 100 Tryd.f100 := ⟨Tryd.func100, by kernel_rfl⟩
theorem fk101 : fkS 101 Tryd.f101 := ⟨Tryd.func101, by kernel_rfl⟩
theorem fk102 : fkS 102 Tryd.f102 := ⟨Tryd.func102, by kernel_rfl⟩
theorem fk103 : fkS 103 Tryd.f103 := ⟨Tryd.func103, by kernel_rfl⟩
theorem fk104 : fkS 104 Tryd.f104 := ⟨Tryd.func104, by kernel_rfl⟩
theorem fk105 : fkS 105 Tryd.f105 := ⟨Tryd.func105, by kernel_rfl⟩
theorem fk106 : fkS 106 Tryd.f106 := ⟨Tryd.func106, by kernel_rfl⟩
theorem fk127 : fkS 127 Tryd.f127 := ⟨Tryd.func127, by kernel_rfl⟩
theorem ae22 : AeOk Tryd.prog 22 2 := aeOk2 Tryd.underlying22 (by kernel_rfl) (by kernel_rfl) (by decide) (by decide) rfl rfl (by kernel_rfl) (by kernel_rfl)
theorem ae23 : AeOk Tryd.prog 23 2 := aeOk2 Tryd.underlying23 (by kernel_rfl) (by kernel_rfl) (by decide) (by decide) rfl rfl (by kernel_rfl) (by kernel_rfl)
theorem ae49 : AeOk Tryd.prog 49 2 := aeOk2 Tryd.underlying49 (by kernel_rfl) (by kernel_rfl) (by decide) (by decide) rfl rfl (by kernel_rfl) (by kernel_rfl)
theorem ae50 : AeOk Tryd.prog 50 2 := aeOk2 Tryd.underlying50 (by kernel_rfl) (by kernel_rfl) (by decide) (by decide) rfl rfl (by kernel_rfl) (by kernel_rfl)
theorem ae84 : AeOk Tryd.prog 84 2 := aeOk2 Tryd.underlying84 (by kernel_rfl) (by kernel_rfl) (by decide) (by decide) rfl rfl (by kernel_rfl) (by kernel_rfl)
theorem ae85 : AeOk Tryd.prog 85 2 := aeOk2 Tryd.underlying85 (by kernel_rfl) (by kernel_rfl) (by decide) (by decide) rfl rfl (by kernel_rfl) (by kernel_rfl)
theorem tbOk : TbOk Tryd.prog tb :=
 ⟨⟨ty0, ty1, ty2, ty3, ty4, ty5, ty6, ty7, ty8, ty9, ty10, ty11, ty12, ty13, ty14, ty15, ty16, ty17, ty18, ty19, ty20, ty21, ty22, ty23, ty24, ty25, ty26, ty27, ty28, ty29, ty30, ty31, ty32, ty33, ty34, ty35, ty36, ty37, ty38, ty39, ty40, ty41, ty42, ty43, ty44, ty45, ty46, ty47, ty48, ty49, ty50, ty51, ty52, ty53, ty54, ty55, ty56, ty57, ty58, ty59, ty60, ty61, ty62, ty63, ty64, ty65, ty66, ty67, ty68, ty69, ty70, ty71, ty72, ty73, ty74, ty75, ty76, ty77, ty78, ty79, ty80, ty81, ty82, ty83, ty84, ty85, ty86, ty87, ty88, ty89, ty90, ty91, ty92, ty93, ty94, ty95, ty96, ty97, ty98, ty99, ty100, ty101, ty102, ty103, ty104, ty105, ty106, ty107, ty108, ty109, ty110, ty111, ty112, ty113, ty114, ty115, ty116, ty117, ty118, ty119, ty120, ty121, ty122, ty123, ty124, ty125, ty126, ty127, ty128, ty129, ty130, ty131, ty132, ty133, ty134, ty135, ty137, ty138, ty139, ty140, ty141, ty142, ty143, ty144, ty145, ty146, ty147, ty148, ty149, ty150, ty151, ty152, ty153, ty154, ty155, ty156, ty157, ty158, ty159, ty160, ty161, ty162, ty163, ty164, ty165, ty166, ty167, ty168, ty169, ty170, ty171, trivial⟩,
 ⟨ik2, ik3, ik5, ik6, ik12, ik21, ik33, ik107, ik118, ik122, ik128, ik143, ik162, ik163, ik166, ik167, trivial⟩,
 ⟨fk2, fk3, fk4, fk5, fk6, fk7, fk8, fk9, fk10, fk11, fk12, fk13, fk14, fk15, fk16, fk17, fk18, fk19, fk20, fk21, fk22, fk23, fk24, fk25, fk26, fk27, fk28, fk29, fk30, fk31, fk32, fk33, fk34, fk35, fk36, fk37, fk38, fk39, fk40, fk41, fk42, fk43, fk44, fk45, fk46, fk47, fk48, fk49, fk50, fk51, fk52, fk53, fk54, fk55, fk56, fk57, fk58, fk59, fk60, fk61, fk62, fk63, fk64, fk65, fk66, fk67, fk68, fk69, fk70, fk71, fk72, fk73, fk74, fk75, fk76, fk77, fk78, fk79, fk80, fk81, fk82, fk83, fk84, fk85, fk86, fk87, fk88, fk89, fk90, fk91, fk92, fk93, fk94, fk95, fk96, fk97, fk98, fk99, fk100, fk101, fk102, fk103, fk104, fk105, fk106, fk127, trivial⟩,
 ⟨ae22, ae23, ae49, ae50, ae84, ae85, trivial⟩, orcsOk, ⟨⟨_, _, Tryd.underlying89, keyOk_s Tryd.underlying9, by kernel_rfl⟩, ⟨_, _, Tryd.underlying99, keyOk_i Tryd.underlying3, by kernel_rfl⟩, trivial⟩, ⟨bl4, trivial⟩, by kernel_rfl⟩
end Go.Proofs.YtglchakimolfdaaDoor
