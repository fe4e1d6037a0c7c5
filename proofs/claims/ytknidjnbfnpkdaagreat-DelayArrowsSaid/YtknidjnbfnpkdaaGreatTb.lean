/- The runner's tables for this seat. -/
import Derived.Test.YtknidjnbfnpkdaaGreatMK
import Derived.Test.YtknidjnbfnpkdaaGreatTy
namespace Go.Proofs.YtknidjnbfnpkdaaGreat
set_option maxRecDepth 100000
noncomputable def tbTy : List (Nat × Ty) := [(0, ⟨1, 0, false, [.tuple { toList := [] }], 0, 0, []⟩),
  (1, ⟨1, 8, false, [.nilFunc], 0, 0, []⟩),
  (2, ⟨1, 8, false, [.int .i64 0], 5, 0, []⟩),
  (3, ⟨1, 8, false, [.int .i64 0], 5, 0, []⟩),
  (4, ⟨1, 1, false, [.bool false], 0, 0, []⟩),
  (5, ⟨1, 1, false, [.int .u8 0], 5, 0, []⟩),
  (6, ⟨1, 1, false, [.int .u8 0], 5, 0, []⟩),
  (7, ⟨4, 24, true, [.int .i64 0, .int .i64 0, .bool false, .int .u8 0], 2, 0, [(0, 1, false), (1, 1, false), (2, 1, false), (3, 1, false)]⟩),
  (8, ⟨4, 24, true, [.int .i64 0, .int .i64 0, .bool false, .int .u8 0], 2, 0, [(0, 1, false), (1, 1, false), (2, 1, false), (3, 1, false)]⟩),
  (9, ⟨1, 16, false, [.string { data := { toList := [] } }], 4, 0, []⟩),
  (10, ⟨1, 16, false, [.string { data := { toList := [] } }], 4, 0, []⟩),
  (11, ⟨1, 16, false, [.string { data := { toList := [] } }], 4, 0, []⟩),
  (12, ⟨1, 8, false, [.int .u64 0], 5, 0, []⟩),
  (13, ⟨2, 24, true, [.string { data := { toList := [] } }, .int .u64 0], 2, 0, [(0, 1, false), (1, 1, false)]⟩),
  (14, ⟨2, 24, true, [.string { data := { toList := [] } }, .int .u64 0], 2, 0, [(0, 1, false), (1, 1, false)]⟩),
  (15, ⟨1, 8, false, [.pointer none], 0, 0, []⟩),
  (16, ⟨1, 8, false, [.pointer none], 0, 0, []⟩),
  (17, ⟨1, 8, false, [.pointer none], 0, 0, []⟩),
  (18, ⟨1, 8, true, [.pointer none], 2, 0, [(0, 1, false)]⟩),
  (19, ⟨1, 8, true, [.pointer none], 2, 0, [(0, 1, false)]⟩),
  (20, ⟨1, 16, false, [.nilIface], 0, 0, []⟩),
  (21, ⟨1, 4, false, [.int .i32 0], 5, 0, []⟩),
  (22, ⟨1, 24, false, [.slice none 0 0], 1, 3, []⟩),
  (23, ⟨1, 24, false, [.slice none 0 0], 1, 38, []⟩),
  (24, ⟨1, 24, true, [.slice none 0 0], 2, 0, [(0, 1, false)]⟩),
  (25, ⟨1, 24, true, [.slice none 0 0], 2, 0, [(0, 1, false)]⟩),
  (26, ⟨1, 8, false, [.pointer none], 0, 0, []⟩),
  (27, ⟨1, 8, false, [.nilFunc], 0, 0, []⟩),
  (28, ⟨1, 8, false, [.nilFunc], 0, 0, []⟩),
  (29, ⟨1, 8, false, [.nilFunc], 0, 0, []⟩),
  (30, ⟨1, 8, false, [.nilFunc], 0, 0, []⟩),
  (31, ⟨1, 8, false, [.nilFunc], 0, 0, []⟩),
  (32, ⟨1, 8, false, [.nilFunc], 0, 0, []⟩),
  (33, ⟨1, 8, false, [.nilFunc], 0, 0, []⟩),
  (34, ⟨1, 8, false, [.nilFunc], 0, 0, []⟩),
  (35, ⟨1, 8, false, [.nilFunc], 0, 0, []⟩),
  (36, ⟨2, 32, true, [.slice none 0 0, .int .i64 0], 2, 0, [(0, 1, false), (1, 1, false)]⟩),
  (37, ⟨2, 32, true, [.slice none 0 0, .int .i64 0], 2, 0, [(0, 1, false), (1, 1, false)]⟩),
  (38, ⟨1, 24, false, [.slice none 0 0], 1, 41, []⟩),
  (39, ⟨1, 8, false, [.nilFunc], 0, 0, []⟩),
  (40, ⟨2, 16, true, [.int .i64 0, .int .i64 0], 2, 0, [(0, 1, false), (1, 1, false)]⟩),
  (41, ⟨2, 16, true, [.int .i64 0, .int .i64 0], 2, 0, [(0, 1, false), (1, 1, false)]⟩),
  (42, ⟨1, 8, false, [.nilFunc], 0, 0, []⟩),
  (43, ⟨1, 8, false, [.nilFunc], 0, 0, []⟩),
  (44, ⟨1, 8, false, [.int .i64 0], 5, 0, []⟩),
  (45, ⟨1, 0, false, [.tuple { toList := [.agg { toList := [.slice none 0 0] }, .int .i64 0] }], 0, 0, []⟩),
  (46, ⟨1, 8, false, [.nilFunc], 0, 0, []⟩),
  (47, ⟨1, 8, false, [.nilFunc], 0, 0, []⟩),
  (48, ⟨1, 8, false, [.nilFunc], 0, 0, []⟩),
  (49, ⟨1, 8, false, [.nilFunc], 0, 0, []⟩),
  (50, ⟨1, 8, false, [.nilFunc], 0, 0, []⟩),
  (51, ⟨1, 8, false, [.pointer none], 0, 0, []⟩),
  (52, ⟨1, 8, false, [.nilFunc], 0, 0, []⟩),
  (53, ⟨1, 8, false, [.nilFunc], 0, 0, []⟩),
  (54, ⟨1, 8, false, [.nilFunc], 0, 0, []⟩),
  (55, ⟨1, 8, false, [.nilFunc], 0, 0, []⟩),
  (56, ⟨1, 8, false, [.nilFunc], 0, 0, []⟩),
  (57, ⟨1, 8, false, [.pointer none], 0, 0, []⟩),
  (58, ⟨1, 24, false, [.slice none 0 0], 1, 4, []⟩),
  (59, ⟨4, 96, true, [.slice none 0 0, .slice none 0 0, .slice none 0 0, .slice none 0 0], 2, 0, [(0, 1, true), (1, 1, false), (2, 1, false), (3, 1, false)]⟩),
  (60, ⟨4, 96, true, [.slice none 0 0, .slice none 0 0, .slice none 0 0, .slice none 0 0], 2, 0, [(0, 1, true), (1, 1, false), (2, 1, false), (3, 1, false)]⟩),
  (61, ⟨1, 8, false, [.nilFunc], 0, 0, []⟩),
  (62, ⟨1, 8, false, [.nilFunc], 0, 0, []⟩),
  (63, ⟨1, 8, false, [.nilFunc], 0, 0, []⟩),
  (64, ⟨1, 8, false, [.nilFunc], 0, 0, []⟩),
  (65, ⟨3, 56, true, [.slice none 0 0, .slice none 0 0, .int .i64 0], 2, 0, [(0, 1, true), (1, 1, false), (2, 1, false)]⟩),
  (66, ⟨3, 56, true, [.slice none 0 0, .slice none 0 0, .int .i64 0], 2, 0, [(0, 1, true), (1, 1, false), (2, 1, false)]⟩),
  (67, ⟨1, 8, false, [.nilFunc], 0, 0, []⟩),
  (68, ⟨1, 8, false, [.nilFunc], 0, 0, []⟩),
  (69, ⟨1, 8, false, [.nilFunc], 0, 0, []⟩),
  (70, ⟨1, 8, false, [.nilFunc], 0, 0, []⟩),
  (71, ⟨1, 8, false, [.nilFunc], 0, 0, []⟩),
  (72, ⟨1, 24, false, [.slice none 0 0], 1, 9, []⟩),
  (73, ⟨1, 0, false, [.tuple { toList := [.slice none 0 0, .int .i64 0] }], 0, 0, []⟩),
  (74, ⟨1, 8, false, [.nilFunc], 0, 0, []⟩),
  (75, ⟨1, 24, false, [.slice none 0 0], 1, 77, []⟩),
  (76, ⟨1, 8, false, [.nilFunc], 0, 0, []⟩),
  (77, ⟨1, 24, false, [.slice none 0 0], 1, 79, []⟩),
  (78, ⟨2, 16, true, [.int .i64 0, .int .i64 0], 2, 0, [(0, 1, false), (1, 1, false)]⟩),
  (79, ⟨2, 16, true, [.int .i64 0, .int .i64 0], 2, 0, [(0, 1, false), (1, 1, false)]⟩),
  (80, ⟨1, 8, false, [.nilFunc], 0, 0, []⟩),
  (81, ⟨1, 8, false, [.nilFunc], 0, 0, []⟩),
  (82, ⟨1, 8, false, [.nilFunc], 0, 0, []⟩),
  (83, ⟨1, 8, false, [.nilFunc], 0, 0, []⟩),
  (84, ⟨1, 8, false, [.nilFunc], 0, 0, []⟩),
  (85, ⟨1, 8, false, [.int .u64 0], 5, 0, []⟩),
  (86, ⟨1, 8, false, [.nilFunc], 0, 0, []⟩),
  (87, ⟨1, 8, false, [.nilFunc], 0, 0, []⟩),
  (88, ⟨1, 0, false, [.tuple { toList := [.agg { toList := [.slice none 0 0] }, .bool false] }], 0, 0, []⟩),
  (89, ⟨1, 8, false, [.nilFunc], 0, 0, []⟩),
  (90, ⟨1, 24, false, [.slice none 0 0], 1, 92, []⟩),
  (91, ⟨2, 16, true, [.int .i64 0, .int .i64 0], 2, 0, [(0, 1, false), (1, 1, false)]⟩),
  (92, ⟨2, 16, true, [.int .i64 0, .int .i64 0], 2, 0, [(0, 1, false), (1, 1, false)]⟩),
  (93, ⟨1, 8, false, [.pointer none], 0, 0, []⟩),
  (94, ⟨1, 8, false, [.nilFunc], 0, 0, []⟩),
  (95, ⟨1, 8, false, [.nilFunc], 0, 0, []⟩),
  (96, ⟨1, 8, false, [.nilFunc], 0, 0, []⟩),
  (97, ⟨1, 8, false, [.nilFunc], 0, 0, []⟩),
  (98, ⟨1, 24, false, [.slice none 0 0], 1, 22, []⟩),
  (99, ⟨1, 8, false, [.map none], 3, 3, []⟩),
  (100, ⟨1, 0, false, [.tuple { toList := [.int .i64 0, .bool false] }], 0, 0, []⟩),
  (101, ⟨1, 8, false, [.nilFunc], 0, 0, []⟩),
  (102, ⟨1, 8, false, [.nilFunc], 0, 0, []⟩),
  (103, ⟨1, 8, false, [.nilFunc], 0, 0, []⟩),
  (104, ⟨1, 24, false, [.slice none 0 0], 1, 5, []⟩),
  (105, ⟨1, 8, false, [.nilFunc], 0, 0, []⟩),
  (106, ⟨1, 8, false, [.nilFunc], 0, 0, []⟩),
  (107, ⟨1, 8, false, [.int .i64 0], 5, 0, []⟩),
  (108, ⟨1, 0, false, [.tuple { toList := [.int .i64 0, .int .i64 0] }], 0, 0, []⟩),
  (109, ⟨1, 8, false, [.nilFunc], 0, 0, []⟩),
  (110, ⟨1, 8, false, [.nilFunc], 0, 0, []⟩),
  (111, ⟨1, 8, false, [.nilFunc], 0, 0, []⟩),
  (112, ⟨1, 8, false, [.nilFunc], 0, 0, []⟩),
  (113, ⟨1, 8, false, [.nilFunc], 0, 0, []⟩),
  (114, ⟨1, 8, false, [.nilFunc], 0, 0, []⟩),
  (115, ⟨1, 4, false, [.int .u32 0], 5, 0, []⟩),
  (116, ⟨1, 8, false, [.nilFunc], 0, 0, []⟩),
  (117, ⟨1, 8, false, [.int .u64 0], 5, 0, []⟩),
  (118, ⟨1, 8, false, [.nilFunc], 0, 0, []⟩),
  (119, ⟨1, 8, false, [.nilFunc], 0, 0, []⟩),
  (120, ⟨1, 0, false, [.tuple { toList := [.int .u64 0, .int .u64 0] }], 0, 0, []⟩),
  (121, ⟨1, 8, false, [.nilFunc], 0, 0, []⟩),
  (122, ⟨1, 8, false, [.nilFunc], 0, 0, []⟩),
  (123, ⟨1, 8, false, [.int .u64 0], 5, 0, []⟩),
  (124, ⟨1, 8, false, [.nilFunc], 0, 0, []⟩),
  (125, ⟨1, 8, false, [.nilFunc], 0, 0, []⟩),
  (126, ⟨1, 8, false, [.nilFunc], 0, 0, []⟩),
  (127, ⟨1, 8, false, [.pointer none], 0, 0, []⟩),
  (128, ⟨1, 8, false, [.nilFunc], 0, 0, []⟩),
  (129, ⟨1, 8, false, [.nilFunc], 0, 0, []⟩),
  (130, ⟨1, 0, false, [.tuple { toList := [.int .u32 0, .int .u32 0] }], 0, 0, []⟩),
  (131, ⟨1, 8, false, [.nilFunc], 0, 0, []⟩),
  (132, ⟨1, 0, false, [.tuple { toList := [.int .u64 0, .int .u64 0] }], 0, 0, []⟩),
  (133, ⟨1, 8, false, [.nilFunc], 0, 0, []⟩),
  (134, ⟨1, 8, false, [.nilFunc], 0, 0, []⟩),
  (135, ⟨1, 8, false, [.nilFunc], 0, 0, []⟩),
  (136, ⟨1, 8, false, [.nilFunc], 0, 0, []⟩),
  (137, ⟨1, 8, false, [.nilFunc], 0, 0, []⟩),
  (138, ⟨1, 8, false, [.nilFunc], 0, 0, []⟩),
  (139, ⟨1, 8, false, [.pointer none], 0, 0, []⟩),
  (140, ⟨1, 0, false, [.tuple { toList := [.int .i64 0, .int .i64 0] }], 0, 0, []⟩),
  (141, ⟨1, 8, false, [.nilFunc], 0, 0, []⟩),
  (142, ⟨1, 8, false, [.nilFunc], 0, 0, []⟩),
  (143, ⟨1, 8, false, [.nilFunc], 0, 0, []⟩),
  (144, ⟨1, 8, false, [.nilFunc], 0, 0, []⟩),
  (145, ⟨1, 8, false, [.nilFunc], 0, 0, []⟩),
  (146, ⟨1, 8, false, [.nilFunc], 0, 0, []⟩),
  (147, ⟨1, 8, false, [.nilFunc], 0, 0, []⟩),
  (148, ⟨1, 8, false, [.nilFunc], 0, 0, []⟩),
  (149, ⟨1, 8, false, [.nilFunc], 0, 0, []⟩),
  (150, ⟨1, 8, false, [.nilFunc], 0, 0, []⟩),
  (151, ⟨1, 8, false, [.nilFunc], 0, 0, []⟩),
  (152, ⟨1, 8, false, [.nilFunc], 0, 0, []⟩),
  (153, ⟨1, 8, false, [.nilFunc], 0, 0, []⟩),
  (154, ⟨4, 40, true, [.pointer none, .pointer none, .pointer none, .string { data := { toList := [] } }], 2, 0, [(0, 1, false), (1, 1, false), (2, 1, false), (3, 1, false)]⟩),
  (155, ⟨4, 40, true, [.pointer none, .pointer none, .pointer none, .string { data := { toList := [] } }], 2, 0, [(0, 1, false), (1, 1, false), (2, 1, false), (3, 1, false)]⟩),
  (156, ⟨0, 0, true, [], 0, 0, []⟩),
  (157, ⟨0, 0, true, [], 2, 0, [(0, 0, true)]⟩),
  (158, ⟨0, 0, true, [], 2, 0, [(0, 0, true)]⟩),
  (159, ⟨1, 1, false, [.int .u8 0], 5, 0, []⟩),
  (160, ⟨1, 1, false, [.int .u8 0], 5, 0, []⟩),
  (161, ⟨1, 8, false, [.nilFunc], 0, 0, []⟩),
  (162, ⟨1, 8, false, [.pointer none], 0, 0, []⟩),
  (163, ⟨1, 4, false, [.int .i32 0], 5, 0, []⟩),
  (164, ⟨1, 4, false, [.int .i32 0], 5, 0, []⟩),
  (165, ⟨11, 48, true, [.int .u64 0, .int .u64 0, .int .u32 0, .int .u8 0, .int .u8 0, .int .u8 0, .int .u8 0, .nilFunc, .pointer none, .int .i32 0, .int .i32 0], 2, 0, [(0, 1, false), (1, 1, false), (2, 1, false), (3, 1, false), (4, 1, false), (5, 1, false), (6, 1, false), (7, 1, false), (8, 1, false), (9, 1, false), (10, 1, false)]⟩),
  (166, ⟨11, 48, true, [.int .u64 0, .int .u64 0, .int .u32 0, .int .u8 0, .int .u8 0, .int .u8 0, .int .u8 0, .nilFunc, .pointer none, .int .i32 0, .int .i32 0], 2, 0, [(0, 1, false), (1, 1, false), (2, 1, false), (3, 1, false), (4, 1, false), (5, 1, false), (6, 1, false), (7, 1, false), (8, 1, false), (9, 1, false), (10, 1, false)]⟩),
  (167, ⟨1, 8, false, [.nilFunc], 0, 0, []⟩),
  (168, ⟨1, 8, false, [.pointer none], 0, 0, []⟩)]
noncomputable def tbIk : List (Nat × IntKind) := [(2, .i64), (3, .i64), (5, .u8), (6, .u8), (12, .u64), (21, .i32), (44, .i64), (85, .u64), (107, .i64), (115, .u32), (117, .u64), (123, .u64), (159, .u8), (160, .u8), (163, .i32), (164, .i32)]
noncomputable def tbFn : List (Nat × Func) := [(2, Tryz.f2), (3, Tryz.f3), (4, Tryz.f4), (5, Tryz.f5), (6, Tryz.f6), (7, Tryz.f7), (8, Tryz.f8), (9, Tryz.f9), (10, Tryz.f10), (11, Tryz.f11), (12, Tryz.f12), (13, Tryz.f13), (14, Tryz.f14), (15, Tryz.f15), (16, Tryz.f16), (17, Tryz.f17), (18, Tryz.f18), (19, Tryz.f19), (20, Tryz.f20), (21, Tryz.f21), (22, Tryz.f22), (23, Tryz.f23), (24, Tryz.f24), (25, Tryz.f25), (26, Tryz.f26), (27, Tryz.f27), (28, Tryz.f28), (29, Tryz.f29), (30, Tryz.f30), (31, Tryz.f31), (32, Tryz.f32), (33, Tryz.f33), (34, Tryz.f34), (35, Tryz.f35), (36, Tryz.f36), (37, Tryz.f37), (38, Tryz.f38), (39, Tryz.f39), (40, Tryz.f40), (41, Tryz.f41), (42, Tryz.f42), (43, Tryz.f43), (44, Tryz.f44), (45, Tryz.f45), (46, Tryz.f46), (47, Tryz.f47), (48, Tryz.f48), (49, Tryz.f49), (50, Tryz.f50), (51, Tryz.f51), (52, Tryz.f52), (53, Tryz.f53), (54, Tryz.f54), (55, Tryz.f55), (56, Tryz.f56), (57, Tryz.f57), (58, Tryz.f58), (59, Tryz.f59), (60, Tryz.f60), (61, Tryz.f61), (62, Tryz.f62), (63, Tryz.f63), (64, Tryz.f64), (65, Tryz.f65), (66, Tryz.f66), (67, Tryz.f67), (68, Tryz.f68), (69, Tryz.f69), (70, Tryz.f70), (71, Tryz.f71), (72, Tryz.f72), (73, Tryz.f73), (74, Tryz.f74), (75, Tryz.f75), (76, Tryz.f76), (77, Tryz.f77), (78, Tryz.f78), (79, Tryz.f79), (80, Tryz.f80), (81, Tryz.f81), (82, Tryz.f82), (83, Tryz.f83), (84, Tryz.f84), (85, Tryz.f85), (86, Tryz.f86), (87, Tryz.f87), (88, Tryz.f88), (89, Tryz.f89), (90, Tryz.f90), (91, Tryz.f91), (92, Tryz.f92), (93, Tryz.f93), (94, Tryz.f94), (95, Tryz.f95), (96, Tryz.f96), (97, Tryz.f97), (98, Tryz.f98), (99, Tryz.f99), (100, Tryz.f100), (101, Tryz.f101), (102, Tryz.f102), (103, Tryz.f103), (104, Tryz.f104), (105, Tryz.f105), (106, Tryz.f106), (107, Tryz.f107), (108, Tryz.f108), (109, Tryz.f109), (110, Tryz.f110), (111, Tryz.f111), (112, Tryz.f112)]
noncomputable def tbAe : List (Nat × Nat) := [(40, 2), (41, 2), (78, 2), (79, 2), (91, 2), (92, 2)]
def tbBl : List (Nat × Bool) := [(4, true)]
theorem bl4 : Tryz.prog.underlying 4 = some .bool := by kernel_rfl
def tbMp : List (Nat × (Ks × Value)) := [(99, (.ks, .int .i64 0))]
noncomputable def tb : Tb := ⟨tbTy, tbIk, tbFn, tbAe, orcs, tbMp, tbBl⟩
theorem ik2 : Tryz.prog.underlying 2 = some (.int .i64) := by kernel_rfl
theorem ik3 : Tryz.prog.underlying 3 = some (.int .i64) := by kernel_rfl
theorem ik5 : Tryz.prog.underlying 5 = some (.int .u8) := by kernel_rfl
theorem ik6 : Tryz.prog.underlying 6 = some (.int .u8) := by kernel_rfl
theorem ik12 : Tryz.prog.underlying 12 = some (.int .u64) := by kernel_rfl
theorem ik21 : Tryz.prog.underlying 21 = some (.int .i32) := by kernel_rfl
theorem ik44 : Tryz.prog.underlying 44 = some (.int .i64) := by kernel_rfl
theorem ik85 : Tryz.prog.underlying 85 = some (.int .u64) := by kernel_rfl
theorem ik107 : Tryz.prog.underlying 107 = some (.int .i64) := by kernel_rfl
theorem ik115 : Tryz.prog.underlying 115 = some (.int .u32) := by kernel_rfl
theorem ik117 : Tryz.prog.underlying 117 = some (.int .u64) := by kernel_rfl
theorem ik123 : Tryz.prog.underlying 123 = some (.int .u64) := by kernel_rfl
theorem ik159 : Tryz.prog.underlying 159 = some (.int .u8) := by kernel_rfl
theorem ik160 : Tryz.prog.underlying 160 = some (.int .u8) := by kernel_rfl
theorem ik163 : Tryz.prog.underlying 163 = some (.int .i32) := by kernel_rfl
theorem ik164 : Tryz.prog.underlying 164 = some (.int .i32) := by kernel_rfl
def fkS (i : Nat) (f : Func) : Prop := Tryz.prog.funcs[i]? = some f ∧ callable Tryz.prog i = true
theorem fk2 : fkS 2 Tryz.f2 := ⟨Tryz.func2, by kernel_rfl⟩
theorem fk3 : fkS 3 Tryz.f3 := ⟨Tryz.func3, by kernel_rfl⟩
theorem fk4 : fkS 4 Tryz.f4 := ⟨Tryz.func4, by kernel_rfl⟩
theorem fk5 : fkS 5 Tryz.f5 := ⟨Tryz.func5, by kernel_rfl⟩
theorem fk6 : fkS 6 Tryz.f6 := ⟨Tryz.func6, by kernel_rfl⟩
theorem fk7 : fkS 7 Tryz.f7 := ⟨Tryz.func7, by kernel_rfl⟩
theorem fk8 : fkS 8 Tryz.f8 := ⟨Tryz.func8, by kernel_rfl⟩
theorem fk9 : fkS 9 Tryz.f9 := ⟨Tryz.func9, by kernel_rfl⟩
theorem fk10 : fkS 10 Tryz.f10 := ⟨Tryz.func10, by kernel_rfl⟩
theorem fk11 : fkS 11 Tryz.f11 := ⟨Tryz.func11, by kernel_rfl⟩
theorem fk12 : fkS 12 Tryz.f12 := ⟨Tryz.func12, by kernel_rfl⟩
theorem fk13 : fkS 13 Tryz.f13 := ⟨Tryz.func13, by kernel_rfl⟩
theorem fk14 : fkS 14 Tryz.f14 := ⟨Tryz.func14, by kernel_rfl⟩
theorem fk15 : fkS 15 Tryz.f15 := ⟨Tryz.func15, by kernel_rfl⟩
theorem fk16 : fkS 16 Tryz.f16 := ⟨Tryz.func16, by kernel_rfl⟩
theorem fk17 : fkS 17 Tryz.f17 := ⟨Tryz.func17, by kernel_rfl⟩
theorem fk18 : fkS 18 Tryz.f18 := ⟨Tryz.func18, by kernel_rfl⟩
theorem fk19 : fkS 19 Tryz.f19 := ⟨Tryz.func19, by kernel_rfl⟩
theorem fk20 : fkS 20 Tryz.f20 := ⟨Tryz.func20, by kernel_rfl⟩
theorem fk21 : fkS 21 Tryz.f21 := ⟨Tryz.func21, by kernel_rfl⟩
theorem fk22 : fkS 22 Tryz.f22 := ⟨Tryz.func22, by kernel_rfl⟩
theorem fk23 : fkS 23 Tryz.f23 := ⟨Tryz.func23, by kernel_rfl⟩
theorem fk24 : fkS 24 Tryz.f24 := ⟨Tryz.func24, by kernel_rfl⟩
theorem fk25 : fkS 25 Tryz.f25 := ⟨Tryz.func25, by kernel_rfl⟩
theorem fk26 : fkS 26 Tryz.f26 := ⟨Tryz.func26, by kernel_rfl⟩
theorem fk27 : fkS 27 Tryz.f27 := ⟨Tryz.func27, by kernel_rfl⟩
theorem fk28 : fkS 28 Tryz.f28 := ⟨Tryz.func28, by kernel_rfl⟩
theorem fk29 : fkS 29 Tryz.f29 := ⟨Tryz.func29, by kernel_rfl⟩
theorem fk30 : fkS 30 Tryz.f30 := ⟨Tryz.func30, by kernel_rfl⟩
theorem fk31 : fkS 31 Tryz.f31 := ⟨Tryz.func31, by kernel_rfl⟩
theorem fk32 : fkS 32 Tryz.f32 := ⟨Tryz.func32, by kernel_rfl⟩
theorem fk33 : fkS 33 Tryz.f33 := ⟨Tryz.func33, by kernel_rfl⟩
theorem fk34 : fkS 34 Tryz.f34 := ⟨Tryz.func34, by kernel_rfl⟩
theorem fk35 : fkS 35 Tryz.f35 := ⟨Tryz.func35, by kernel_rfl⟩
theorem fk36 : fkS 36 Tryz.f36 := ⟨Tryz.func36, by kernel_rfl⟩
theorem fk37 : fkS 37 Tryz.f37 := ⟨Tryz.func37, by kernel_rfl⟩
theorem fk38 : fkS 38 Tryz.f38 := ⟨Tryz.func38, by kernel_rfl⟩
theorem fk39 : fkS 39 Tryz.f39 := ⟨Tryz.func39, by kernel_rfl⟩
theorem fk40 : fkS 40 Tryz.f40 := ⟨Tryz.func40, by kernel_rfl⟩
theorem fk41 : fkS 41 Tryz.f41 := ⟨Tryz.func41, by kernel_rfl⟩
theorem fk42 : fkS 42 Tryz.f42 := ⟨Tryz.func42, by kernel_rfl⟩
theorem fk43 : fkS 43 Tryz.f43 := ⟨Tryz.func43, by kernel_rfl⟩
theorem fk44 : fkS 44 Tryz.f44 := ⟨Tryz.func44, by kernel_rfl⟩
theorem fk45 : fkS 45 Tryz.f45 := ⟨Tryz.func45, by kernel_rfl⟩
theorem fk46 : fkS 46 Tryz.f46 := ⟨Tryz.func46, by kernel_rfl⟩
theorem fk47 : fkS 47 Tryz.f47 := ⟨Tryz.func47, by kernel_rfl⟩
theorem fk48 : fkS 48 Tryz.f48 := ⟨Tryz.func48, by kernel_rfl⟩
theorem fk49 : fkS 49 Tryz.f49 := ⟨Tryz.func49, by kernel_rfl⟩
theorem fk50 : fkS 50 Tryz.f50 := ⟨Tryz.func50, by kernel_rfl⟩
theorem fk51 : fkS 51 Tryz.f51 := ⟨Tryz.func51, by kernel_rfl⟩
theorem fk52 : fkS 52 Tryz.f52 := ⟨Tryz.func52, by kernel_rfl⟩
theorem fk53 : fkS 53 Tryz.f53 := ⟨Tryz.func53, by kernel_rfl⟩
theorem fk54 : fkS 54 Tryz.f54 := ⟨Tryz.func54, by kernel_rfl⟩
theorem fk55 : fkS 55 Tryz.f55 := ⟨Tryz.func55, by kernel_rfl⟩
theorem fk56 : fkS 56 Tryz.f56 := ⟨Tryz.func56, by kernel_rfl⟩
theorem fk57 : fkS 57 Tryz.f57 := ⟨Tryz.func57, by kernel_rfl⟩
theorem fk58 : fkS 58 Tryz.f58 := ⟨Tryz.func58, by kernel_rfl⟩
theorem fk59 : fkS 59 Tryz.f59 := ⟨Tryz.func59, by kernel_rfl⟩
theorem fk60 : fkS 60 Tryz.f60 := ⟨Tryz.func60, by kernel_rfl⟩
theorem fk61 : fkS 61 Tryz.f61 := ⟨Tryz.func61, by kernel_rfl⟩
theorem fk62 : fkS 62 Tryz.f62 := ⟨Tryz.func62, by kernel_rfl⟩
theorem fk63 : fkS 63 Tryz.f63 := ⟨Tryz.func63, by kernel_rfl⟩
theorem fk64 : fkS 64 Tryz.f64 := ⟨Tryz.func64, by kernel_rfl⟩
theorem fk65 : fkS 65 Tryz.f65 := ⟨Tryz.func65, by kernel_rfl⟩
theorem fk66 : fkS 66 Tryz.f66 := ⟨Tryz.func66, by kernel_rfl⟩
theorem fk67 : fkS 67 Tryz.f67 := ⟨Tryz.func67, by kernel_rfl⟩
theorem fk68 : fkS 68 Tryz.f68 := ⟨Tryz.func68, by kernel_rfl⟩
theorem fk69 : fkS 69 Tryz.f69 := ⟨Tryz.func69, by kernel_rfl⟩
theorem fk70 : fkS 70 Tryz.f70 := ⟨Tryz.func70, by kernel_rfl⟩
theorem fk71 : fkS 71 Tryz.f71 := ⟨Tryz.func71, by kernel_rfl⟩
theorem fk72 : fkS 72 Tryz.f72 := ⟨Tryz.func72, by kernel_rfl⟩
theorem fk73 : fkS 73 Tryz.f73 := ⟨Tryz.func73, by kernel_rfl⟩
theorem fk74 : fkS 74 Tryz.f74 := ⟨Tryz.func74, by kernel_rfl⟩
theorem fk75 : fkS 75 Tryz.f75 := ⟨Tryz.func75, by kernel_rfl⟩
theorem fk76 : fkS 76 Tryz.f76 := ⟨Tryz.func76, by kernel_rfl⟩
theorem fk77 : fkS 77 Tryz.f77 := ⟨Tryz.func77, by kernel_rfl⟩
theorem fk78 : fkS 78 Tryz.f78 := ⟨Tryz.func78, by kernel_rfl⟩
theorem fk79 : fkS 79 Tryz.f79 := ⟨Tryz.func79, by kernel_rfl⟩
theorem fk80 : fkS 80 Tryz.f80 := ⟨Tryz.func80, by kernel_rfl⟩
theorem fk81 : fkS 81 Tryz.f81 := ⟨Tryz.func81, by kernel_rfl⟩
theorem fk82 : fkS 82 Tryz.f82 := ⟨Tryz.func82, by kernel_rfl⟩
theorem fk83 : fkS 83 Tryz.f83 := ⟨Tryz.func83, by kernel_rfl⟩
theorem fk84 : fkS 84 Tryz.f84 := ⟨Tryz.func84, by kernel_rfl⟩
theorem fk85 : fkS 85 Tryz.f85 := ⟨Tryz.func85, by kernel_rfl⟩
theorem fk86 : fkS 86 Tryz.f86 := ⟨Tryz.func86, by kernel_rfl⟩
theorem fk87 : fkS 87 Tryz.f87 := ⟨Tryz.func87, by kernel_rfl⟩
theorem fk88 : fkS 88 Tryz.f88 := ⟨Tryz.func88, by kernel_rfl⟩
theorem fk89 : fkS 89 Tryz.f89 := ⟨Tryz.func89, by kernel_rfl⟩
theorem fk90 : fkS 90 Tryz.f90 := ⟨Tryz.func90, by kernel_rfl⟩
theorem fk91 : fkS 91 Tryz.f91 := ⟨Tryz.func91, by kernel_rfl⟩
theorem fk92 : fkS 92 Tryz.f92 := ⟨Tryz.func92, by kernel_rfl⟩
theorem fk93 : fkS 93 Tryz.f93 := ⟨Tryz.func93, by kernel_rfl⟩
theorem fk94 : fkS 94 Tryz.f94 := ⟨Tryz.func94, by kernel_rfl⟩
theorem fk95 : fkS 95 Tryz.f95 := ⟨Tryz.func95, by kernel_rfl⟩
theorem fk96 : fkS 96 Tryz.f96 := ⟨Tryz.func96, by kernel_rfl⟩
theorem fk97 : fkS 97 Tryz.f97 := ⟨Tryz.func97, by kernel_rfl⟩
theorem fk98 : fkS 98 Tryz.f98 := ⟨Tryz.func98, by kernel_rfl⟩
theorem fk99 : fkS 99 Tryz.f99 := ⟨Tryz.func99, by kernel_rfl⟩
theorem fk100 : fkS 100 Tryz.f100 := ⟨Tryz.func100, by kernel_rfl⟩
theorem fk101 : fkS 101 Tryz.f101 := ⟨Tryz.func101, by kernel_rfl⟩
theorem fk102 : fkS 102 Tryz.f102 := ⟨Tryz.func102, by kernel_rfl⟩
theorem fk103 : fkS 103 Tryz.f103 := ⟨Tryz.func103, by kernel_rfl⟩
theorem fk104 : fkS 104 Tryz.f104 := ⟨Tryz.func104, by kernel_rfl⟩
theorem fk105 : fkS 105 Tryz.f105 := ⟨Tryz.func105, by kernel_rfl⟩
theorem fk106 : fkS 106 Tryz.f106 := ⟨Tryz.func106, by kernel_rfl⟩
theorem fk107 : fkS 107 Tryz.f107 := ⟨Tryz.func107, by kernel_rfl⟩
theorem fk108 : fkS 108 Tryz.f108 := ⟨Tryz.func108, by kernel_rfl⟩
theorem fk109 : fkS 109 Tryz.f109 := ⟨Tryz.func109, by kernel_rfl⟩
theorem fk110 : fkS 110 Tryz.f110 := ⟨Tryz.func110, by kernel_rfl⟩
theorem fk111 : fkS 111 Tryz.f111 := ⟨Tryz.func111, by kernel_rfl⟩
theorem fk112 : fkS 112 Tryz.f112 := ⟨Tryz.func112, by kernel_rfl⟩
theorem ae40 : AeOk Tryz.prog 40 2 := aeOk2 Tryz.underlying40 (by kernel_rfl) (by kernel_rfl) (by decide) (by decide) rfl rfl (by kernel_rfl) (by kernel_rfl)
theorem ae41 : AeOk Tryz.prog 41 2 := aeOk2 Tryz.underlying41 (by kernel_rfl) (by kernel_rfl) (by decide) (by decide) rfl rfl (by kernel_rfl) (by kernel_rfl)
theorem ae78 : AeOk Tryz.prog 78 2 := aeOk2 Tryz.underlying78 (by kernel_rfl) (by kernel_rfl) (by decide) (by decide) rfl rfl (by kernel_rfl) (by kernel_rfl)
theorem ae79 : AeOk Tryz.prog 79 2 := aeOk2 Tryz.underlying79 (by kernel_rfl) (by kernel_rfl) (by decide) (by decide) rfl rfl (by kernel_rfl) (by kernel_rfl)
theorem ae91 : AeOk Tryz.prog 91 2 := aeOk2 Tryz.underlying91 (by kernel_rfl) (by kernel_rfl) (by decide) (by decide) rfl rfl (by kernel_rfl) (by kernel_rfl)
theorem ae92 : AeOk Tryz.prog 92 2 := aeOk2 Tryz.underlying92 (by kernel_rfl) (by kernel_rfl) (by decide) (by decide) rfl rfl (by kernel_rfl) (by kernel_rfl)
theorem tbOk : TbOk Tryz.prog tb :=
  ⟨⟨ty0, ty1, ty2, ty3, ty4, ty5, ty6, ty7, ty8, ty9, ty10, ty11, ty12, ty13, ty14, ty15, ty16, ty17, ty18, ty19, ty20, ty21, ty22, ty23, ty24, ty25, ty26, ty27, ty28, ty29, ty30, ty31, ty32, ty33, ty34, ty35, ty36, ty37, ty38, ty39, ty40, ty41, ty42, ty43, ty44, ty45, ty46, ty47, ty48, ty49, ty50, ty51, ty52, ty53, ty54, ty55, ty56, ty57, ty58, ty59, ty60, ty61, ty62, ty63, ty64, ty65, ty66, ty67, ty68, ty69, ty70, ty71, ty72, ty73, ty74, ty75, ty76, ty77, ty78, ty79, ty80, ty81, ty82, ty83, ty84, ty85, ty86, ty87, ty88, ty89, ty90, ty91, ty92, ty93, ty94, ty95, ty96, ty97, ty98, ty99, ty100, ty101, ty102, ty103, ty104, ty105, ty106, ty107, ty108, ty109, ty110, ty111, ty112, ty113, ty114, ty115, ty116, ty117, ty118, ty119, ty120, ty121, ty122, ty123, ty124, ty125, ty126, ty127, ty128, ty129, ty130, ty131, ty132, ty133, ty134, ty135, ty136, ty137, ty138, ty139, ty140, ty141, ty142, ty143, ty144, ty145, ty146, ty147, ty148, ty149, ty150, ty151, ty152, ty153, ty154, ty155, ty156, ty157, ty158, ty159, ty160, ty161, ty162, ty163, ty164, ty165, ty166, ty167, ty168, trivial⟩,
  ⟨ik2, ik3, ik5, ik6, ik12, ik21, ik44, ik85, ik107, ik115, ik117, ik123, ik159, ik160, ik163, ik164, trivial⟩,
  ⟨fk2, fk3, fk4, fk5, fk6, fk7, fk8, fk9, fk10, fk11, fk12, fk13, fk14, fk15, fk16, fk17, fk18, fk19, fk20, fk21, fk22, fk23, fk24, fk25, fk26, fk27, fk28, fk29, fk30, fk31, fk32, fk33, fk34, fk35, fk36, fk37, fk38, fk39, fk40, fk41, fk42, fk43, fk44, fk45, fk46, fk47, fk48, fk49, fk50, fk51, fk52, fk53, fk54, fk55, fk56, fk57, fk58, fk59, fk60, fk61, fk62, fk63, fk64, fk65, fk66, fk67, fk68, fk69, fk70, fk71, fk72, fk73, fk74, fk75, fk76, fk77, fk78, fk79, fk80, fk81, fk82, fk83, fk84, fk85, fk86, fk87, fk88, fk89, fk90, fk91, fk92, fk93, fk94, fk95, fk96, fk97, fk98, fk99, fk100, fk101, fk102, fk103, fk104, fk105, fk106, fk107, fk108, fk109, fk110, fk111, fk112, trivial⟩,
  ⟨ae40, ae41, ae78, ae79, ae91, ae92, trivial⟩, orcsOk, ⟨⟨_, _, Tryz.underlying99, keyOk_s Tryz.underlying9, by kernel_rfl⟩, trivial⟩, ⟨bl4, trivial⟩, by kernel_rfl⟩
end Go.Proofs.YtknidjnbfnpkdaaGreat
