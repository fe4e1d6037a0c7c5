/- The runner's tables for this seat. -/
import Derived.Test.YtgclmlbaodcccaaAe
import Derived.Test.YtgclmlbaodcccaaAm33
import Derived.Test.YtgclmlbaodcccaaCmq
import Derived.Test.YtgclmlbaodcccaaTy
namespace Go.Proofs.Ytgclmlbaodcccaa
set_option maxRecDepth 100000
noncomputable def tbTy : List (Nat × Ty) := [(0, ⟨1, 0, false, [.tuple { toList := [] }], 0, 0, []⟩),
  (1, ⟨1, 8, false, [.nilFunc], 0, 0, []⟩),
  (2, ⟨1, 8, false, [.int .i64 0], 5, 0, []⟩),
  (3, ⟨1, 8, false, [.int .i64 0], 5, 0, []⟩),
  (4, ⟨1, 1, false, [.bool false], 0, 0, []⟩),
  (5, ⟨1, 1, false, [.int .u8 0], 5, 0, []⟩),
  (6, ⟨1, 1, false, [.int .u8 0], 5, 0, []⟩),
  (7, ⟨4, 24, true, [.int .i64 0, .int .i64 0, .bool false, .int .u8 0], 2, 0, [(0, 1, false), (1, 1, false), (2, 1, false), (3, 1, false)]⟩),
  (8, ⟨4, 24, true, [.int .i64 0, .int .i64 0, .bool false, .int .u8 0], 2, 0, [(0, 1, false), (1, 1, false), (2, 1, false), (3, 1, false)]⟩),
  (9, ⟨1, 16, false, [.string { data := { toList := [] } }], 4, 0, []⟩),
  (10, ⟨1, 16, false, [.string { data := { toList := [] } }], 4, 0, []⟩),
  (11, ⟨1, 16, false, [.string { data := { toList := [] } }], 4, 0, []⟩),
  (12, ⟨1, 8, false, [.int .u64 0], 5, 0, []⟩),
  (13, ⟨2, 24, true, [.string { data := { toList := [] } }, .int .u64 0], 2, 0, [(0, 1, false), (1, 1, false)]⟩),
  (14, ⟨2, 24, true, [.string { data := { toList := [] } }, .int .u64 0], 2, 0, [(0, 1, false), (1, 1, false)]⟩),
  (15, ⟨1, 8, false, [.pointer none], 0, 0, []⟩),
  (16, ⟨1, 8, false, [.pointer none], 0, 0, []⟩),
  (17, ⟨1, 8, false, [.pointer none], 0, 0, []⟩),
  (18, ⟨1, 8, true, [.pointer none], 2, 0, [(0, 1, false)]⟩),
  (19, ⟨1, 8, true, [.pointer none], 2, 0, [(0, 1, false)]⟩),
  (20, ⟨1, 16, false, [.nilIface], 0, 0, []⟩),
  (21, ⟨1, 4, false, [.int .i32 0], 5, 0, []⟩),
  (22, ⟨1, 24, false, [.slice none 0 0], 1, 3, []⟩),
  (23, ⟨1, 24, false, [.slice none 0 0], 1, 32, []⟩),
  (24, ⟨1, 24, false, [.slice none 0 0], 1, 105, []⟩),
  (25, ⟨1, 24, false, [.slice none 0 0], 1, 23, []⟩),
  (26, ⟨1, 24, true, [.slice none 0 0], 2, 0, [(0, 1, false)]⟩),
  (27, ⟨1, 24, true, [.slice none 0 0], 2, 0, [(0, 1, false)]⟩),
  (28, ⟨5, 104, true, [.int .i64 0, .slice none 0 0, .slice none 0 0, .slice none 0 0, .slice none 0 0], 2, 0, [(0, 1, false), (1, 1, false), (2, 1, false), (3, 1, false), (4, 1, true)]⟩),
  (29, ⟨5, 104, true, [.int .i64 0, .slice none 0 0, .slice none 0 0, .slice none 0 0, .slice none 0 0], 2, 0, [(0, 1, false), (1, 1, false), (2, 1, false), (3, 1, false), (4, 1, true)]⟩),
  (30, ⟨1, 24, false, [.slice none 0 0], 1, 29, []⟩),
  (31, ⟨2, 16, true, [.int .i64 0, .int .i64 0], 2, 0, [(0, 1, false), (1, 1, false)]⟩),
  (32, ⟨2, 16, true, [.int .i64 0, .int .i64 0], 2, 0, [(0, 1, false), (1, 1, false)]⟩),
  (33, ⟨1, 8, false, [.int .i64 0], 5, 0, []⟩),
  (34, ⟨1, 0, false, [.tuple { toList := [.agg { toList := [.slice none 0 0] }, .int .i64 0] }], 0, 0, []⟩),
  (35, ⟨1, 8, false, [.nilFunc], 0, 0, []⟩),
  (36, ⟨1, 8, false, [.nilFunc], 0, 0, []⟩),
  (37, ⟨1, 8, false, [.nilFunc], 0, 0, []⟩),
  (38, ⟨1, 8, false, [.nilFunc], 0, 0, []⟩),
  (39, ⟨1, 8, false, [.nilFunc], 0, 0, []⟩),
  (40, ⟨1, 24, false, [.slice none 0 0], 1, 22, []⟩),
  (41, ⟨1, 8, false, [.nilFunc], 0, 0, []⟩),
  (42, ⟨1, 8, false, [.nilFunc], 0, 0, []⟩),
  (43, ⟨1, 8, false, [.nilFunc], 0, 0, []⟩),
  (44, ⟨1, 8, false, [.nilFunc], 0, 0, []⟩),
  (45, ⟨1, 8, false, [.pointer none], 0, 0, []⟩),
  (46, ⟨1, 8, false, [.nilFunc], 0, 0, []⟩),
  (47, ⟨8, 160, true, [.slice none 0 0, .slice none 0 0, .nilFunc, .int .i64 0, .slice none 0 0, .slice none 0 0, .slice none 0 0, .slice none 0 0], 2, 0, [(0, 1, true), (1, 1, true), (2, 1, false), (3, 5, true)]⟩),
  (48, ⟨8, 160, true, [.slice none 0 0, .slice none 0 0, .nilFunc, .int .i64 0, .slice none 0 0, .slice none 0 0, .slice none 0 0, .slice none 0 0], 2, 0, [(0, 1, true), (1, 1, true), (2, 1, false), (3, 5, true)]⟩),
  (49, ⟨1, 8, false, [.nilFunc], 0, 0, []⟩),
  (50, ⟨1, 8, false, [.nilFunc], 0, 0, []⟩),
  (51, ⟨1, 8, false, [.nilFunc], 0, 0, []⟩),
  (52, ⟨1, 8, false, [.nilFunc], 0, 0, []⟩),
  (53, ⟨1, 8, false, [.nilFunc], 0, 0, []⟩),
  (54, ⟨1, 8, false, [.nilFunc], 0, 0, []⟩),
  (55, ⟨1, 8, false, [.nilFunc], 0, 0, []⟩),
  (56, ⟨1, 0, false, [.tuple { toList := [.agg { toList := [.slice none 0 0] }, .slice none 0 0, .int .i64 0] }], 0, 0, []⟩),
  (57, ⟨1, 8, false, [.nilFunc], 0, 0, []⟩),
  (58, ⟨1, 8, false, [.nilFunc], 0, 0, []⟩),
  (59, ⟨1, 8, false, [.nilFunc], 0, 0, []⟩),
  (60, ⟨1, 8, false, [.nilFunc], 0, 0, []⟩),
  (61, ⟨1, 8, false, [.nilFunc], 0, 0, []⟩),
  (62, ⟨1, 8, false, [.nilFunc], 0, 0, []⟩),
  (63, ⟨1, 8, false, [.nilFunc], 0, 0, []⟩),
  (64, ⟨1, 8, false, [.nilFunc], 0, 0, []⟩),
  (65, ⟨1, 8, false, [.nilFunc], 0, 0, []⟩),
  (66, ⟨1, 8, false, [.nilFunc], 0, 0, []⟩),
  (67, ⟨3, 24, true, [.int .i64 0, .int .i64 0, .int .i64 0], 2, 0, [(0, 1, false), (1, 1, false), (2, 1, false)]⟩),
  (68, ⟨3, 24, true, [.int .i64 0, .int .i64 0, .int .i64 0], 2, 0, [(0, 1, false), (1, 1, false), (2, 1, false)]⟩),
  (69, ⟨1, 24, false, [.slice none 0 0], 1, 72, []⟩),
  (70, ⟨1, 8, false, [.nilFunc], 0, 0, []⟩),
  (71, ⟨4, 32, true, [.int .i64 0, .int .i64 0, .int .i64 0, .int .i64 0], 2, 0, [(0, 1, false), (1, 3, true)]⟩),
  (72, ⟨4, 32, true, [.int .i64 0, .int .i64 0, .int .i64 0, .int .i64 0], 2, 0, [(0, 1, false), (1, 3, true)]⟩),
  (73, ⟨1, 8, false, [.nilFunc], 0, 0, []⟩),
  (74, ⟨1, 8, false, [.nilFunc], 0, 0, []⟩),
  (75, ⟨1, 8, false, [.nilFunc], 0, 0, []⟩),
  (76, ⟨1, 8, false, [.nilFunc], 0, 0, []⟩),
  (77, ⟨1, 8, false, [.nilFunc], 0, 0, []⟩),
  (78, ⟨1, 8, false, [.nilFunc], 0, 0, []⟩),
  (79, ⟨1, 8, false, [.map none], 3, 3, []⟩),
  (80, ⟨1, 24, false, [.slice none 0 0], 1, 68, []⟩),
  (81, ⟨1, 8, false, [.nilFunc], 0, 0, []⟩),
  (82, ⟨1, 8, false, [.nilFunc], 0, 0, []⟩),
  (83, ⟨1, 8, false, [.nilFunc], 0, 0, []⟩),
  (84, ⟨1, 0, false, [.tuple { toList := [.int .i64 0, .bool false] }], 0, 0, []⟩),
  (85, ⟨1, 8, false, [.nilFunc], 0, 0, []⟩),
  (86, ⟨1, 8, false, [.nilFunc], 0, 0, []⟩),
  (87, ⟨1, 8, false, [.nilFunc], 0, 0, []⟩),
  (88, ⟨1, 8, false, [.nilFunc], 0, 0, []⟩),
  (89, ⟨1, 24, false, [.slice none 0 0], 1, 91, []⟩),
  (90, ⟨2, 16, true, [.int .i64 0, .int .i64 0], 2, 0, [(0, 1, false), (1, 1, false)]⟩),
  (91, ⟨2, 16, true, [.int .i64 0, .int .i64 0], 2, 0, [(0, 1, false), (1, 1, false)]⟩),
  (92, ⟨1, 8, false, [.pointer none], 0, 0, []⟩),
  (93, ⟨1, 8, false, [.nilFunc], 0, 0, []⟩),
  (94, ⟨1, 8, false, [.nilFunc], 0, 0, []⟩),
  (95, ⟨1, 8, false, [.nilFunc], 0, 0, []⟩),
  (96, ⟨1, 8, false, [.nilFunc], 0, 0, []⟩),
  (97, ⟨1, 8, false, [.int .u64 0], 5, 0, []⟩),
  (98, ⟨1, 8, false, [.pointer none], 0, 0, []⟩),
  (99, ⟨1, 8, false, [.nilFunc], 0, 0, []⟩),
  (100, ⟨1, 8, false, [.nilFunc], 0, 0, []⟩),
  (101, ⟨1, 8, false, [.nilFunc], 0, 0, []⟩),
  (102, ⟨1, 0, false, [.tuple { toList := [.agg { toList := [.slice none 0 0] }, .bool false] }], 0, 0, []⟩),
  (103, ⟨1, 8, false, [.nilFunc], 0, 0, []⟩),
  (104, ⟨2, 16, true, [.int .i64 0, .int .i64 0], 2, 0, [(0, 1, false), (1, 1, false)]⟩),
  (105, ⟨2, 16, true, [.int .i64 0, .int .i64 0], 2, 0, [(0, 1, false), (1, 1, false)]⟩),
  (106, ⟨1, 8, false, [.nilFunc], 0, 0, []⟩),
  (107, ⟨1, 8, false, [.nilFunc], 0, 0, []⟩),
  (108, ⟨1, 8, false, [.nilFunc], 0, 0, []⟩),
  (109, ⟨1, 8, false, [.nilFunc], 0, 0, []⟩),
  (110, ⟨1, 8, false, [.nilFunc], 0, 0, []⟩),
  (111, ⟨1, 8, false, [.nilFunc], 0, 0, []⟩),
  (112, ⟨1, 8, false, [.nilFunc], 0, 0, []⟩),
  (113, ⟨1, 8, false, [.nilFunc], 0, 0, []⟩),
  (114, ⟨1, 8, false, [.nilFunc], 0, 0, []⟩),
  (115, ⟨1, 0, false, [.tuple { toList := [.int .u64 0, .int .u64 0] }], 0, 0, []⟩),
  (116, ⟨1, 8, false, [.nilFunc], 0, 0, []⟩),
  (117, ⟨1, 8, false, [.nilFunc], 0, 0, []⟩),
  (118, ⟨1, 8, false, [.nilFunc], 0, 0, []⟩),
  (119, ⟨1, 8, false, [.int .i64 0], 5, 0, []⟩),
  (120, ⟨1, 0, false, [.tuple { toList := [.int .i64 0, .int .i64 0] }], 0, 0, []⟩),
  (121, ⟨1, 8, false, [.nilFunc], 0, 0, []⟩),
  (122, ⟨1, 8, false, [.nilFunc], 0, 0, []⟩),
  (123, ⟨1, 8, false, [.nilFunc], 0, 0, []⟩),
  (124, ⟨1, 8, false, [.nilFunc], 0, 0, []⟩),
  (125, ⟨1, 8, false, [.nilFunc], 0, 0, []⟩),
  (126, ⟨1, 4, false, [.int .u32 0], 5, 0, []⟩),
  (127, ⟨1, 8, false, [.nilFunc], 0, 0, []⟩),
  (128, ⟨1, 8, false, [.int .u64 0], 5, 0, []⟩),
  (129, ⟨3, 56, true, [.slice none 0 0, .slice none 0 0, .int .i64 0], 2, 0, [(0, 1, true), (1, 1, false), (2, 1, false)]⟩),
  (130, ⟨3, 56, true, [.slice none 0 0, .slice none 0 0, .int .i64 0], 2, 0, [(0, 1, true), (1, 1, false), (2, 1, false)]⟩),
  (131, ⟨1, 8, false, [.map none], 3, 3, []⟩),
  (132, ⟨1, 0, false, [.tuple { toList := [.slice none 0 0, .bool false] }], 0, 0, []⟩),
  (133, ⟨1, 8, false, [.nilFunc], 0, 0, []⟩),
  (134, ⟨1, 8, false, [.nilFunc], 0, 0, []⟩),
  (135, ⟨1, 8, false, [.nilFunc], 0, 0, []⟩),
  (136, ⟨1, 8, false, [.nilFunc], 0, 0, []⟩),
  (137, ⟨1, 8, false, [.nilFunc], 0, 0, []⟩),
  (138, ⟨1, 8, false, [.nilFunc], 0, 0, []⟩),
  (139, ⟨1, 8, false, [.nilFunc], 0, 0, []⟩),
  (140, ⟨1, 8, false, [.nilFunc], 0, 0, []⟩),
  (141, ⟨1, 8, false, [.nilFunc], 0, 0, []⟩),
  (142, ⟨1, 8, false, [.nilFunc], 0, 0, []⟩),
  (143, ⟨1, 8, false, [.nilFunc], 0, 0, []⟩),
  (144, ⟨1, 8, false, [.nilFunc], 0, 0, []⟩),
  (145, ⟨1, 0, false, [.tuple { toList := [.int .u32 0, .int .u32 0] }], 0, 0, []⟩),
  (146, ⟨1, 8, false, [.nilFunc], 0, 0, []⟩),
  (147, ⟨1, 0, false, [.tuple { toList := [.int .u64 0, .int .u64 0] }], 0, 0, []⟩),
  (148, ⟨1, 8, false, [.nilFunc], 0, 0, []⟩),
  (149, ⟨1, 8, false, [.int .u64 0], 5, 0, []⟩),
  (150, ⟨1, 8, false, [.nilFunc], 0, 0, []⟩),
  (151, ⟨1, 8, false, [.nilFunc], 0, 0, []⟩),
  (152, ⟨1, 8, false, [.nilFunc], 0, 0, []⟩),
  (153, ⟨1, 8, false, [.pointer none], 0, 0, []⟩),
  (154, ⟨1, 8, false, [.nilFunc], 0, 0, []⟩),
  (155, ⟨1, 24, false, [.slice none 0 0], 1, 5, []⟩),
  (156, ⟨1, 8, false, [.nilFunc], 0, 0, []⟩),
  (157, ⟨1, 8, false, [.nilFunc], 0, 0, []⟩),
  (158, ⟨1, 8, false, [.nilFunc], 0, 0, []⟩),
  (159, ⟨1, 8, false, [.pointer none], 0, 0, []⟩),
  (160, ⟨1, 0, false, [.tuple { toList := [.int .i64 0, .int .i64 0] }], 0, 0, []⟩),
  (161, ⟨1, 8, false, [.nilFunc], 0, 0, []⟩),
  (162, ⟨1, 8, false, [.nilFunc], 0, 0, []⟩),
  (163, ⟨1, 8, false, [.nilFunc], 0, 0, []⟩),
  (164, ⟨1, 8, false, [.nilFunc], 0, 0, []⟩),
  (165, ⟨1, 8, false, [.nilFunc], 0, 0, []⟩),
  (166, ⟨1, 8, false, [.nilFunc], 0, 0, []⟩),
  (167, ⟨1, 8, false, [.nilFunc], 0, 0, []⟩),
  (168, ⟨1, 8, false, [.nilFunc], 0, 0, []⟩),
  (169, ⟨1, 8, false, [.nilFunc], 0, 0, []⟩),
  (170, ⟨1, 8, false, [.nilFunc], 0, 0, []⟩),
  (171, ⟨1, 8, false, [.nilFunc], 0, 0, []⟩),
  (172, ⟨1, 8, false, [.nilFunc], 0, 0, []⟩),
  (173, ⟨1, 8, false, [.nilFunc], 0, 0, []⟩),
  (174, ⟨1, 8, false, [.nilFunc], 0, 0, []⟩),
  (175, ⟨4, 40, true, [.pointer none, .pointer none, .pointer none, .string { data := { toList := [] } }], 2, 0, [(0, 1, false), (1, 1, false), (2, 1, false), (3, 1, false)]⟩),
  (176, ⟨4, 40, true, [.pointer none, .pointer none, .pointer none, .string { data := { toList := [] } }], 2, 0, [(0, 1, false), (1, 1, false), (2, 1, false), (3, 1, false)]⟩),
  (177, ⟨0, 0, true, [], 0, 0, []⟩),
  (178, ⟨0, 0, true, [], 2, 0, [(0, 0, true)]⟩),
  (179, ⟨0, 0, true, [], 2, 0, [(0, 0, true)]⟩),
  (180, ⟨1, 8, false, [.nilFunc], 0, 0, []⟩),
  (181, ⟨1, 1, false, [.int .u8 0], 5, 0, []⟩),
  (182, ⟨1, 1, false, [.int .u8 0], 5, 0, []⟩),
  (183, ⟨1, 8, false, [.nilFunc], 0, 0, []⟩),
  (184, ⟨1, 8, false, [.pointer none], 0, 0, []⟩),
  (185, ⟨1, 4, false, [.int .i32 0], 5, 0, []⟩),
  (186, ⟨1, 4, false, [.int .i32 0], 5, 0, []⟩),
  (187, ⟨11, 48, true, [.int .u64 0, .int .u64 0, .int .u32 0, .int .u8 0, .int .u8 0, .int .u8 0, .int .u8 0, .nilFunc, .pointer none, .int .i32 0, .int .i32 0], 2, 0, [(0, 1, false), (1, 1, false), (2, 1, false), (3, 1, false), (4, 1, false), (5, 1, false), (6, 1, false), (7, 1, false), (8, 1, false), (9, 1, false), (10, 1, false)]⟩),
  (188, ⟨11, 48, true, [.int .u64 0, .int .u64 0, .int .u32 0, .int .u8 0, .int .u8 0, .int .u8 0, .int .u8 0, .nilFunc, .pointer none, .int .i32 0, .int .i32 0], 2, 0, [(0, 1, false), (1, 1, false), (2, 1, false), (3, 1, false), (4, 1, false), (5, 1, false), (6, 1, false), (7, 1, false), (8, 1, false), (9, 1, false), (10, 1, false)]⟩),
  (189, ⟨1, 8, false, [.pointer none], 0, 0, []⟩)]
noncomputable def tbIk : List (Nat × IntKind) := [(2, .i64), (3, .i64), (5, .u8), (6, .u8), (12, .u64), (21, .i32), (33, .i64), (97, .u64), (119, .i64), (126, .u32), (128, .u64), (149, .u64), (181, .u8), (182, .u8), (185, .i32), (186, .i32)]
noncomputable def tbFn : List (Nat × Func) := [(2, Try.f2), (3, Try.f3), (4, Try.f4), (5, Try.f5), (6, Try.f6), (7, Try.f7), (8, Try.f8), (9, Try.f9), (10, Try.f10), (11, Try.f11), (12, Try.f12), (13, Try.f13), (14, Try.f14), (15, Try.f15), (16, Try.f16), (17, Try.f17), (18, Try.f18), (19, Try.f19), (20, Try.f20), (21, Try.f21), (22, Try.f22), (23, Try.f23), (24, Try.f24), (25, Try.f25), (26, Try.f26), (27, Try.f27), (28, Try.f28), (29, Try.f29), (30, Try.f30), (31, Try.f31), (32, Try.f32), (33, Try.f33), (34, Try.f34), (35, Try.f35), (36, Try.f36), (37, Try.f37), (38, Try.f38), (39, Try.f39), (40, Try.f40), (41, Try.f41), (42, Try.f42), (43, Try.f43), (44, Try.f44), (45, Try.f45), (46, Try.f46), (47, Try.f47), (48, Try.f48), (49, Try.f49), (50, Try.f50), (51, Try.f51), (52, Try.f52), (53, Try.f53), (54, Try.f54), (55, Try.f55), (56, Try.f56), (57, Try.f57), (58, Try.f58), (59, Try.f59), (60, Try.f60), (61, Try.f61), (62, Try.f62), (63, Try.f63), (64, Try.f64), (65, Try.f65), (66, Try.f66), (67, Try.f67), (68, Try.f68), (69, Try.f69), (70, Try.f70), (71, Try.f71), (72, Try.f72), (73, Try.f73), (74, Try.f74), (75, Try.f75), (76, Try.f76), (77, Try.f77), (78, Try.f78), (79, Try.f79), (80, Try.f80), (81, Try.f81), (82, Try.f82), (83, Try.f83), (84, Try.f84), (85, Try.f85), (86, Try.f86), (87, Try.f87), (88, Try.f88), (89, Try.f89), (90, Try.f90), (91, Try.f91), (92, Try.f92), (93, Try.f93), (94, Try.f94), (95, Try.f95), (96, Try.f96), (97, Try.f97), (98, Try.f98), (99, Try.f99), (100, Try.f100), (101, Try.f101), (102, Try.f102), (103, Try.f103), (104, Try.f104), (105, Try.f105), (106, Try.f106), (107, Try.f107), (108, Try.f108), (109, Try.f109), (110, Try.f110), (111, Try.f111), (112, Try.f112), (113, Try.f113), (114, Try.f114), (115, Try.f115), (116, Try.f116), (117, Try.f117), (118, Try.f118), (119, Try.f119), (120, Try.f120), (121, Try.f121), (122, Try.f122), (123, Try.f123), (124, Try.f124), (125, Try.f125), (126, Try.f126), (127, Try.f127), (128, Try.f128), (129, Try.f129), (130, Try.f130), (131, Try.f131), (132, Try.f132), (133, Try.f133), (134, Try.f134), (135, Try.f135), (136, Try.f136), (137, Try.f137), (138, Try.f138), (139, Try.f139), (140, Try.f140), (141, Try.f141), (142, Try.f142), (143, Try.f143), (144, Try.f144)]
noncomputable def tbAe : List (Nat × Nat) := [(31, 2), (32, 2), (90, 2), (91, 2), (104, 2), (105, 2)]
def tbMp : List (Nat × (Ks × Value)) := [(79, (.kg 3, .int .i64 0)), (131, (.ks, .int .i64 0))]
noncomputable def tb : Tb := ⟨tbTy, tbIk, tbFn, tbAe, orcs, tbMp⟩
theorem ik2 : Try.prog.underlying 2 = some (.int .i64) := by kernel_rfl
theorem ik3 : Try.prog.underlying 3 = some (.int .i64) := by kernel_rfl
theorem ik5 : Try.prog.underlying 5 = some (.int .u8) := by kernel_rfl
theorem ik6 : Try.prog.underlying 6 = some (.int .u8) := by kernel_rfl
theorem ik12 : Try.prog.underlying 12 = some (.int .u64) := by kernel_rfl
theorem ik21 : Try.prog.underlying 21 = some (.int .i32) := by kernel_rfl
theorem ik33 : Try.prog.underlying 33 = some (.int .i64) := by kernel_rfl
theorem ik97 : Try.prog.underlying 97 = some (.int .u64) := by kernel_rfl
theorem ik119 : Try.prog.underlying 119 = some (.int .i64) := by kernel_rfl
theorem ik126 : Try.prog.underlying 126 = some (.int .u32) := by kernel_rfl
theorem ik128 : Try.prog.underlying 128 = some (.int .u64) := by kernel_rfl
theorem ik149 : Try.prog.underlying 149 = some (.int .u64) := by kernel_rfl
theorem ik181 : Try.prog.underlying 181 = some (.int .u8) := by kernel_rfl
theorem ik182 : Try.prog.underlying 182 = some (.int .u8) := by kernel_rfl
theorem ik185 : Try.prog.underlying 185 = some (.int .i32) := by kernel_rfl
theorem ik186 : Try.prog.underlying 186 = some (.int .i32) := by kernel_rfl
theorem fk2 : Try.prog.funcs[2]? = some Try.f2 ∧ callable Try.prog 2 = true := ⟨Try.func2, by kernel_rfl⟩
theorem fk3 : Try.prog.funcs[3]? = some Try.f3 ∧ callable Try.prog 3 = true := ⟨Try.func3, by kernel_rfl⟩
theorem fk4 : Try.prog.funcs[4]? = some Try.f4 ∧ callable Try.prog 4 = true := ⟨Try.func4, by kernel_rfl⟩
theorem fk5 : Try.prog.funcs[5]? = some Try.f5 ∧ callable Try.prog 5 = true := ⟨Try.func5, by kernel_rfl⟩
theorem fk6 : Try.prog.funcs[6]? = some Try.f6 ∧ callable Try.prog 6 = true := ⟨Try.func6, by kernel_rfl⟩
theorem fk7 : Try.prog.funcs[7]? = some Try.f7 ∧ callable Try.prog 7 = true := ⟨Try.func7, by kernel_rfl⟩
theorem fk8 : Try.prog.funcs[8]? = some Try.f8 ∧ callable Try.prog 8 = true := ⟨Try.func8, by kernel_rfl⟩
theorem fk9 : Try.prog.funcs[9]? = some Try.f9 ∧ callable Try.prog 9 = true := ⟨Try.func9, by kernel_rfl⟩
theorem fk10 : Try.prog.funcs[10]? = some Try.f10 ∧ callable Try.prog 10 = true := ⟨Try.func10, by kernel_rfl⟩
theorem fk11 : Try.prog.funcs[11]? = some Try.f11 ∧ callable Try.prog 11 = true := ⟨Try.func11, by kernel_rfl⟩
theorem fk12 : Try.prog.funcs[12]? = some Try.f12 ∧ callable Try.prog 12 = true := ⟨Try.func12, by kernel_rfl⟩
theorem fk13 : Try.prog.funcs[13]? = some Try.f13 ∧ callable Try.prog 13 = true := ⟨Try.func13, by kernel_rfl⟩
theorem fk14 : Try.prog.funcs[14]? = some Try.f14 ∧ callable Try.prog 14 = true := ⟨Try.func14, by kernel_rfl⟩
theorem fk15 : Try.prog.funcs[15]? = some Try.f15 ∧ callable Try.prog 15 = true := ⟨Try.func15, by kernel_rfl⟩
theorem fk16 : Try.prog.funcs[16]? = some Try.f16 ∧ callable Try.prog 16 = true := ⟨Try.func16, by kernel_rfl⟩
theorem fk17 : Try.prog.funcs[17]? = some Try.f17 ∧ callable Try.prog 17 = true := ⟨Try.func17, by kernel_rfl⟩
theorem fk18 : Try.prog.funcs[18]? = some Try.f18 ∧ callable Try.prog 18 = true := ⟨Try.func18, by kernel_rfl⟩
theorem fk19 : Try.prog.funcs[19]? = some Try.f19 ∧ callable Try.prog 19 = true := ⟨Try.func19, by kernel_rfl⟩
theorem fk20 : Try.prog.funcs[20]? = some Try.f20 ∧ callable Try.prog 20 = true := ⟨Try.func20, by kernel_rfl⟩
theorem fk21 : Try.prog.funcs[21]? = some Try.f21 ∧ callable Try.prog 21 = true := ⟨Try.func21, by kernel_rfl⟩
theorem fk22 : Try.prog.funcs[22]? = some Try.f22 ∧ callable Try.prog 22 = true := ⟨Try.func22, by kernel_rfl⟩
theorem fk23 : Try.prog.funcs[23]? = some Try.f23 ∧ callable Try.prog 23 = true := ⟨Try.func23, by kernel_rfl⟩
theorem fk24 : Try.prog.funcs[24]? = some Try.f24 ∧ callable Try.prog 24 = true := ⟨Try.func24, by kernel_rfl⟩
theorem fk25 : Try.prog.funcs[25]? = some Try.f25 ∧ callable Try.prog 25 = true := ⟨Try.func25, by kernel_rfl⟩
theorem fk26 : Try.prog.funcs[26]? = some Try.f26 ∧ callable Try.prog 26 = true := ⟨Try.func26, by kernel_rfl⟩
theorem fk27 : Try.prog.funcs[27]? = some Try.f27 ∧ callable Try.prog 27 = true := ⟨Try.func27, by kernel_rfl⟩
theorem fk28 : Try.prog.funcs[28]? = some Try.f28 ∧ callable Try.prog 28 = true := ⟨Try.func28, by kernel_rfl⟩
theorem fk29 : Try.prog.funcs[29]? = some Try.f29 ∧ callable Try.prog 29 = true := ⟨Try.func29, by kernel_rfl⟩
theorem fk30 : Try.prog.funcs[30]? = some Try.f30 ∧ callable Try.prog 30 = true := ⟨Try.func30, by kernel_rfl⟩
theorem fk31 : Try.prog.funcs[31]? = some Try.f31 ∧ callable Try.prog 31 = true := ⟨Try.func31, by kernel_rfl⟩
theorem fk32 : Try.prog.funcs[32]? = some Try.f32 ∧ callable Try.prog 32 = true := ⟨Try.func32, by kernel_rfl⟩
theorem fk33 : Try.prog.funcs[33]? = some Try.f33 ∧ callable Try.prog 33 = true := ⟨Try.func33, by kernel_rfl⟩
theorem fk34 : Try.prog.funcs[34]? = some Try.f34 ∧ callable Try.prog 34 = true := ⟨Try.func34, by kernel_rfl⟩
theorem fk35 : Try.prog.funcs[35]? = some Try.f35 ∧ callable Try.prog 35 = true := ⟨Try.func35, by kernel_rfl⟩
theorem fk36 : Try.prog.funcs[36]? = some Try.f36 ∧ callable Try.prog 36 = true := ⟨Try.func36, by kernel_rfl⟩
theorem fk37 : Try.prog.funcs[37]? = some Try.f37 ∧ callable Try.prog 37 = true := ⟨Try.func37, by kernel_rfl⟩
theorem fk38 : Try.prog.funcs[38]? = some Try.f38 ∧ callable Try.prog 38 = true := ⟨Try.func38, by kernel_rfl⟩
theorem fk39 : Try.prog.funcs[39]? = some Try.f39 ∧ callable Try.prog 39 = true := ⟨Try.func39, by kernel_rfl⟩
theorem fk40 : Try.prog.funcs[40]? = some Try.f40 ∧ callable Try.prog 40 = true := ⟨Try.func40, by kernel_rfl⟩
theorem fk41 : Try.prog.funcs[41]? = some Try.f41 ∧ callable Try.prog 41 = true := ⟨Try.func41, by kernel_rfl⟩
theorem fk42 : Try.prog.funcs[42]? = some Try.f42 ∧ callable Try.prog 42 = true := ⟨Try.func42, by kernel_rfl⟩
theorem fk43 : Try.prog.funcs[43]? = some Try.f43 ∧ callable Try.prog 43 = true := ⟨Try.func43, by kernel_rfl⟩
theorem fk44 : Try.prog.funcs[44]? = some Try.f44 ∧ callable Try.prog 44 = true := ⟨Try.func44, by kernel_rfl⟩
theorem fk45 : Try.prog.funcs[45]? = some Try.f45 ∧ callable Try.prog 45 = true := ⟨Try.func45, by kernel_rfl⟩
theorem fk46 : Try.prog.funcs[46]? = some Try.f46 ∧ callable Try.prog 46 = true := ⟨Try.func46, by kernel_rfl⟩
theorem fk47 : Try.prog.funcs[47]? = some Try.f47 ∧ callable Try.prog 47 = true := ⟨Try.func47, by kernel_rfl⟩
theorem fk48 : Try.prog.funcs[48]? = some Try.f48 ∧ callable Try.prog 48 = true := ⟨Try.func48, by kernel_rfl⟩
theorem fk49 : Try.prog.funcs[49]? = some Try.f49 ∧ callable Try.prog 49 = true := ⟨Try.func49, by kernel_rfl⟩
theorem fk50 : Try.prog.funcs[50]? = some Try.f50 ∧ callable Try.prog 50 = true := ⟨Try.func50, by kernel_rfl⟩
theorem fk51 : Try.prog.funcs[51]? = some Try.f51 ∧ callable Try.prog 51 = true := ⟨Try.func51, by kernel_rfl⟩
theorem fk52 : Try.prog.funcs[52]? = some Try.f52 ∧ callable Try.prog 52 = true := ⟨Try.func52, by kernel_rfl⟩
theorem fk53 : Try.prog.funcs[53]? = some Try.f53 ∧ callable Try.prog 53 = true := ⟨Try.func53, by kernel_rfl⟩
theorem fk54 : Try.prog.funcs[54]? = some Try.f54 ∧ callable Try.prog 54 = true := ⟨Try.func54, by kernel_rfl⟩
theorem fk55 : Try.prog.funcs[55]? = some Try.f55 ∧ callable Try.prog 55 = true := ⟨Try.func55, by kernel_rfl⟩
theorem fk56 : Try.prog.funcs[56]? = some Try.f56 ∧ callable Try.prog 56 = true := ⟨Try.func56, by kernel_rfl⟩
theorem fk57 : Try.prog.funcs[57]? = some Try.f57 ∧ callable Try.prog 57 = true := ⟨Try.func57, by kernel_rfl⟩
theorem fk58 : Try.prog.funcs[58]? = some Try.f58 ∧ callable Try.prog 58 = true := ⟨Try.func58, by kernel_rfl⟩
theorem fk59 : Try.prog.funcs[59]? = some Try.f59 ∧ callable Try.prog 59 = true := ⟨Try.func59, by kernel_rfl⟩
theorem fk60 : Try.prog.funcs[60]? = some Try.f60 ∧ callable Try.prog 60 = true := ⟨Try.func60, by kernel_rfl⟩
theorem fk61 : Try.prog.funcs[61]? = some Try.f61 ∧ callable Try.prog 61 = true := ⟨Try.func61, by kernel_rfl⟩
theorem fk62 : Try.prog.funcs[62]? = some Try.f62 ∧ callable Try.prog 62 = true := ⟨Try.func62, by kernel_rfl⟩
theorem fk63 : Try.prog.funcs[63]? = some Try.f63 ∧ callable Try.prog 63 = true := ⟨Try.func63, by kernel_rfl⟩
theorem fk64 : Try.prog.funcs[64]? = some Try.f64 ∧ callable Try.prog 64 = true := ⟨Try.func64, by kernel_rfl⟩
theorem fk65 : Try.prog.funcs[65]? = some Try.f65 ∧ callable Try.prog 65 = true := ⟨Try.func65, by kernel_rfl⟩
theorem fk66 : Try.prog.funcs[66]? = some Try.f66 ∧ callable Try.prog 66 = true := ⟨Try.func66, by kernel_rfl⟩
theorem fk67 : Try.prog.funcs[67]? = some Try.f67 ∧ callable Try.prog 67 = true := ⟨Try.func67, by kernel_rfl⟩
theorem fk68 : Try.prog.funcs[68]? = some Try.f68 ∧ callable Try.prog 68 = true := ⟨Try.func68, by kernel_rfl⟩
theorem fk69 : Try.prog.funcs[69]? = some Try.f69 ∧ callable Try.prog 69 = true := ⟨Try.func69, by kernel_rfl⟩
theorem fk70 : Try.prog.funcs[70]? = some Try.f70 ∧ callable Try.prog 70 = true := ⟨Try.func70, by kernel_rfl⟩
theorem fk71 : Try.prog.funcs[71]? = some Try.f71 ∧ callable Try.prog 71 = true := ⟨Try.func71, by kernel_rfl⟩
theorem fk72 : Try.prog.funcs[72]? = some Try.f72 ∧ callable Try.prog 72 = true := ⟨Try.func72, by kernel_rfl⟩
theorem fk73 : Try.prog.funcs[73]? = some Try.f73 ∧ callable Try.prog 73 = true := ⟨Try.func73, by kernel_rfl⟩
theorem fk74 : Try.prog.funcs[74]? = some Try.f74 ∧ callable Try.prog 74 = true := ⟨Try.func74, by kernel_rfl⟩
theorem fk75 : Try.prog.funcs[75]? = some Try.f75 ∧ callable Try.prog 75 = true := ⟨Try.func75, by kernel_rfl⟩
theorem fk76 : Try.prog.funcs[76]? = some Try.f76 ∧ callable Try.prog 76 = true := ⟨Try.func76, by kernel_rfl⟩
theorem fk77 : Try.prog.funcs[77]? = some Try.f77 ∧ callable Try.prog 77 = true := ⟨Try.func77, by kernel_rfl⟩
theorem fk78 : Try.prog.funcs[78]? = some Try.f78 ∧ callable Try.prog 78 = true := ⟨Try.func78, by kernel_rfl⟩
theorem fk79 : Try.prog.funcs[79]? = some Try.f79 ∧ callable Try.prog 79 = true := ⟨Try.func79, by kernel_rfl⟩
theorem fk80 : Try.prog.funcs[80]? = some Try.f80 ∧ callable Try.prog 80 = true := ⟨Try.func80, by kernel_rfl⟩
theorem fk81 : Try.prog.funcs[81]? = some Try.f81 ∧ callable Try.prog 81 = true := ⟨Try.func81, by kernel_rfl⟩
theorem fk82 : Try.prog.funcs[82]? = some Try.f82 ∧ callable Try.prog 82 = true := ⟨Try.func82, by kernel_rfl⟩
theorem fk83 : Try.prog.funcs[83]? = some Try.f83 ∧ callable Try.prog 83 = true := ⟨Try.func83, by kernel_rfl⟩
theorem fk84 : Try.prog.funcs[84]? = some Try.f84 ∧ callable Try.prog 84 = true := ⟨Try.func84, by kernel_rfl⟩
theorem fk85 : Try.prog.funcs[85]? = some Try.f85 ∧ callable Try.prog 85 = true := ⟨Try.func85, by kernel_rfl⟩
theorem fk86 : Try.prog.funcs[86]? = some Try.f86 ∧ callable Try.prog 86 = true := ⟨Try.func86, by kernel_rfl⟩
theorem fk87 : Try.prog.funcs[87]? = some Try.f87 ∧ callable Try.prog 87 = true := ⟨Try.func87, by kernel_rfl⟩
theorem fk88 : Try.prog.funcs[88]? = some Try.f88 ∧ callable Try.prog 88 = true := ⟨Try.func88, by kernel_rfl⟩
theorem fk89 : Try.prog.funcs[89]? = some Try.f89 ∧ callable Try.prog 89 = true := ⟨Try.func89, by kernel_rfl⟩
theorem fk90 : Try.prog.funcs[90]? = some Try.f90 ∧ callable Try.prog 90 = true := ⟨Try.func90, by kernel_rfl⟩
theorem fk91 : Try.prog.funcs[91]? = some Try.f91 ∧ callable Try.prog 91 = true := ⟨Try.func91, by kernel_rfl⟩
theorem fk92 : Try.prog.funcs[92]? = some Try.f92 ∧ callable Try.prog 92 = true := ⟨Try.func92, by kernel_rfl⟩
theorem fk93 : Try.prog.funcs[93]? = some Try.f93 ∧ callable Try.prog 93 = true := ⟨Try.func93, by kernel_rfl⟩
theorem fk94 : Try.prog.funcs[94]? = some Try.f94 ∧ callable Try.prog 94 = true := ⟨Try.func94, by kernel_rfl⟩
theorem fk95 : Try.prog.funcs[95]? = some Try.f95 ∧ callable Try.prog 95 = true := ⟨Try.func95, by kernel_rfl⟩
theorem fk96 : Try.prog.funcs[96]? = some Try.f96 ∧ callable Try.prog 96 = true := ⟨Try.func96, by kernel_rfl⟩
theorem fk97 : Try.prog.funcs[97]? = some Try.f97 ∧ callable Try.prog 97 = true := ⟨Try.func97, by kernel_rfl⟩
theorem fk98 : Try.prog.funcs[98]? = some Try.f98 ∧ callable Try.prog 98 = true := ⟨Try.func98, by kernel_rfl⟩
theorem fk99 : Try.prog.funcs[99]? = some Try.f99 ∧ callable Try.prog 99 = true := ⟨Try.func99, by kernel_rfl⟩
theorem fk100 : Try.prog.funcs[100]? = some Try.f100 ∧ callable Try.prog 100 = true := ⟨Try.func100, by kernel_rfl⟩
theorem fk101 : Try.prog.funcs[101]? = some Try.f101 ∧ callable Try.prog 101 = true := ⟨Try.func101, by kernel_rfl⟩
theorem fk102 : Try.prog.funcs[102]? = some Try.f102 ∧ callable Try.prog 102 = true := ⟨Try.func102, by kernel_rfl⟩
theorem fk103 : Try.prog.funcs[103]? = some Try.f103 ∧ callable Try.prog 103 = true := ⟨Try.func103, by kernel_rfl⟩
theorem fk104 : Try.prog.funcs[104]? = some Try.f104 ∧ callable Try.prog 104 = true := ⟨Try.func104, by kernel_rfl⟩
theorem fk105 : Try.prog.funcs[105]? = some Try.f105 ∧ callable Try.prog 105 = true := ⟨Try.func105, by kernel_rfl⟩
theorem fk106 : Try.prog.funcs[106]? = some Try.f106 ∧ callable Try.prog 106 = true := ⟨Try.func106, by kernel_rfl⟩
theorem fk107 : Try.prog.funcs[107]? = some Try.f107 ∧ callable Try.prog 107 = true := ⟨Try.func107, by kernel_rfl⟩
theorem fk108 : Try.prog.funcs[108]? = some Try.f108 ∧ callable Try.prog 108 = true := ⟨Try.func108, by kernel_rfl⟩
theorem fk109 : Try.prog.funcs[109]? = some Try.f109 ∧ callable Try.prog 109 = true := ⟨Try.func109, by kernel_rfl⟩
theorem fk110 : Try.prog.funcs[110]? = some Try.f110 ∧ callable Try.prog 110 = true := ⟨Try.func110, by kernel_rfl⟩
theorem fk111 : Try.prog.funcs[111]? = some Try.f111 ∧ callable Try.prog 111 = true := ⟨Try.func111, by kernel_rfl⟩
theorem fk112 : Try.prog.funcs[112]? = some Try.f112 ∧ callable Try.prog 112 = true := ⟨Try.func112, by kernel_rfl⟩
theorem fk113 : Try.prog.funcs[113]? = some Try.f113 ∧ callable Try.prog 113 = true := ⟨Try.func113, by kernel_rfl⟩
theorem fk114 : Try.prog.funcs[114]? = some Try.f114 ∧ callable Try.prog 114 = true := ⟨Try.func114, by kernel_rfl⟩
theorem fk115 : Try.prog.funcs[115]? = some Try.f115 ∧ callable Try.prog 115 = true := ⟨Try.func115, by kernel_rfl⟩
theorem fk116 : Try.prog.funcs[116]? = some Try.f116 ∧ callable Try.prog 116 = true := ⟨Try.func116, by kernel_rfl⟩
theorem fk117 : Try.prog.funcs[117]? = some Try.f117 ∧ callable Try.prog 117 = true := ⟨Try.func117, by kernel_rfl⟩
theorem fk118 : Try.prog.funcs[118]? = some Try.f118 ∧ callable Try.prog 118 = true := ⟨Try.func118, by kernel_rfl⟩
theorem fk119 : Try.prog.funcs[119]? = some Try.f119 ∧ callable Try.prog 119 = true := ⟨Try.func119, by kernel_rfl⟩
theorem fk120 : Try.prog.funcs[120]? = some Try.f120 ∧ callable Try.prog 120 = true := ⟨Try.func120, by kernel_rfl⟩
theorem fk121 : Try.prog.funcs[121]? = some Try.f121 ∧ callable Try.prog 121 = true := ⟨Try.func121, by kernel_rfl⟩
theorem fk122 : Try.prog.funcs[122]? = some Try.f122 ∧ callable Try.prog 122 = true := ⟨Try.func122, by kernel_rfl⟩
theorem fk123 : Try.prog.funcs[123]? = some Try.f123 ∧ callable Try.prog 123 = true := ⟨Try.func123, by kernel_rfl⟩
theorem fk124 : Try.prog.funcs[124]? = some Try.f124 ∧ callable Try.prog 124 = true := ⟨Try.func124, by kernel_rfl⟩
theorem fk125 : Try.prog.funcs[125]? = some Try.f125 ∧ callable Try.prog 125 = true := ⟨Try.func125, by kernel_rfl⟩
theorem fk126 : Try.prog.funcs[126]? = some Try.f126 ∧ callable Try.prog 126 = true := ⟨Try.func126, by kernel_rfl⟩
theorem fk127 : Try.prog.funcs[127]? = some Try.f127 ∧ callable Try.prog 127 = true := ⟨Try.func127, by kernel_rfl⟩
theorem fk128 : Try.prog.funcs[128]? = some Try.f128 ∧ callable Try.prog 128 = true := ⟨Try.func128, by kernel_rfl⟩
theorem fk129 : Try.prog.funcs[129]? = some Try.f129 ∧ callable Try.prog 129 = true := ⟨Try.func129, by kernel_rfl⟩
theorem fk130 : Try.prog.funcs[130]? = some Try.f130 ∧ callable Try.prog 130 = true := ⟨Try.func130, by kernel_rfl⟩
theorem fk131 : Try.prog.funcs[131]? = some Try.f131 ∧ callable Try.prog 131 = true := ⟨Try.func131, by kernel_rfl⟩
theorem fk132 : Try.prog.funcs[132]? = some Try.f132 ∧ callable Try.prog 132 = true := ⟨Try.func132, by kernel_rfl⟩
theorem fk133 : Try.prog.funcs[133]? = some Try.f133 ∧ callable Try.prog 133 = true := ⟨Try.func133, by kernel_rfl⟩
theorem fk134 : Try.prog.funcs[134]? = some Try.f134 ∧ callable Try.prog 134 = true := ⟨Try.func134, by kernel_rfl⟩
theorem fk135 : Try.prog.funcs[135]? = some Try.f135 ∧ callable Try.prog 135 = true := ⟨Try.func135, by kernel_rfl⟩
theorem fk136 : Try.prog.funcs[136]? = some Try.f136 ∧ callable Try.prog 136 = true := ⟨Try.func136, by kernel_rfl⟩
theorem fk137 : Try.prog.funcs[137]? = some Try.f137 ∧ callable Try.prog 137 = true := ⟨Try.func137, by kernel_rfl⟩
theorem fk138 : Try.prog.funcs[138]? = some Try.f138 ∧ callable Try.prog 138 = true := ⟨Try.func138, by kernel_rfl⟩
theorem fk139 : Try.prog.funcs[139]? = some Try.f139 ∧ callable Try.prog 139 = true := ⟨Try.func139, by kernel_rfl⟩
theorem fk140 : Try.prog.funcs[140]? = some Try.f140 ∧ callable Try.prog 140 = true := ⟨Try.func140, by kernel_rfl⟩
theorem fk141 : Try.prog.funcs[141]? = some Try.f141 ∧ callable Try.prog 141 = true := ⟨Try.func141, by kernel_rfl⟩
theorem fk142 : Try.prog.funcs[142]? = some Try.f142 ∧ callable Try.prog 142 = true := ⟨Try.func142, by kernel_rfl⟩
theorem fk143 : Try.prog.funcs[143]? = some Try.f143 ∧ callable Try.prog 143 = true := ⟨Try.func143, by kernel_rfl⟩
theorem fk144 : Try.prog.funcs[144]? = some Try.f144 ∧ callable Try.prog 144 = true := ⟨Try.func144, by kernel_rfl⟩
theorem ae31 : AeOk Try.prog 31 2 := aeOk2 Try.underlying31 (by kernel_rfl) (by kernel_rfl) (by decide) (by decide) rfl rfl (by kernel_rfl) (by kernel_rfl)
theorem ae32 : AeOk Try.prog 32 2 := aeOk2 Try.underlying32 (by kernel_rfl) (by kernel_rfl) (by decide) (by decide) rfl rfl (by kernel_rfl) (by kernel_rfl)
theorem ae90 : AeOk Try.prog 90 2 := aeOk2 Try.underlying90 (by kernel_rfl) (by kernel_rfl) (by decide) (by decide) rfl rfl (by kernel_rfl) (by kernel_rfl)
theorem ae91 : AeOk Try.prog 91 2 := aeOk2 Try.underlying91 (by kernel_rfl) (by kernel_rfl) (by decide) (by decide) rfl rfl (by kernel_rfl) (by kernel_rfl)
theorem ae104 : AeOk Try.prog 104 2 := aeOk2 Try.underlying104 (by kernel_rfl) (by kernel_rfl) (by decide) (by decide) rfl rfl (by kernel_rfl) (by kernel_rfl)
theorem ae105 : AeOk Try.prog 105 2 := aeOk2 Try.underlying105 (by kernel_rfl) (by kernel_rfl) (by decide) (by decide) rfl rfl (by kernel_rfl) (by kernel_rfl)
theorem tbOk : TbOk Try.prog tb :=
  ⟨⟨ty0, ty1, ty2, ty3, ty4, ty5, ty6, ty7, ty8, ty9, ty10, ty11, ty12, ty13, ty14, ty15, ty16, ty17, ty18, ty19, ty20, ty21, ty22, ty23, ty24, ty25, ty26, ty27, ty28, ty29, ty30, ty31, ty32, ty33, ty34, ty35, ty36, ty37, ty38, ty39, ty40, ty41, ty42, ty43, ty44, ty45, ty46, ty47, ty48, ty49, ty50, ty51, ty52, ty53, ty54, ty55, ty56, ty57, ty58, ty59, ty60, ty61, ty62, ty63, ty64, ty65, ty66, ty67, ty68, ty69, ty70, ty71, ty72, ty73, ty74, ty75, ty76, ty77, ty78, ty79, ty80, ty81, ty82, ty83, ty84, ty85, ty86, ty87, ty88, ty89, ty90, ty91, ty92, ty93, ty94, ty95, ty96, ty97, ty98, ty99, ty100, ty101, ty102, ty103, ty104, ty105, ty106, ty107, ty108, ty109, ty110, ty111, ty112, ty113, ty114, ty115, ty116, ty117, ty118, ty119, ty120, ty121, ty122, ty123, ty124, ty125, ty126, ty127, ty128, ty129, ty130, ty131, ty132, ty133, ty134, ty135, ty136, ty137, ty138, ty139, ty140, ty141, ty142, ty143, ty144, ty145, ty146, ty147, ty148, ty149, ty150, ty151, ty152, ty153, ty154, ty155, ty156, ty157, ty158, ty159, ty160, ty161, ty162, ty163, ty164, ty165, ty166, ty167, ty168, ty169, ty170, ty171, ty172, ty173, ty174, ty175, ty176, ty177, ty178, ty179, ty180, ty181, ty182, ty183, ty184, ty185, ty186, ty187, ty188, ty189, trivial⟩,
  ⟨ik2, ik3, ik5, ik6, ik12, ik21, ik33, ik97, ik119, ik126, ik128, ik149, ik181, ik182, ik185, ik186, trivial⟩,
  ⟨fk2, fk3, fk4, fk5, fk6, fk7, fk8, fk9, fk10, fk11, fk12, fk13, fk14, fk15, fk16, fk17, fk18, fk19, fk20, fk21, fk22, fk23, fk24, fk25, fk26, fk27, fk28, fk29, fk30, fk31, fk32, fk33, fk34, fk35, fk36, fk37, fk38, fk39, fk40, fk41, fk42, fk43, fk44, fk45, fk46, fk47, fk48, fk49, fk50, fk51, fk52, fk53, fk54, fk55, fk56, fk57, fk58, fk59, fk60, fk61, fk62, fk63, fk64, fk65, fk66, fk67, fk68, fk69, fk70, fk71, fk72, fk73, fk74, fk75, fk76, fk77, fk78, fk79, fk80, fk81, fk82, fk83, fk84, fk85, fk86, fk87, fk88, fk89, fk90, fk91, fk92, fk93, fk94, fk95, fk96, fk97, fk98, fk99, fk100, fk101, fk102, fk103, fk104, fk105, fk106, fk107, fk108, fk109, fk110, fk111, fk112, fk113, fk114, fk115, fk116, fk117, fk118, fk119, fk120, fk121, fk122, fk123, fk124, fk125, fk126, fk127, fk128, fk129, fk130, fk131, fk132, fk133, fk134, fk135, fk136, fk137, fk138, fk139, fk140, fk141, fk142, fk143, fk144, trivial⟩,
  ⟨ae31, ae32, ae90, ae91, ae104, ae105, trivial⟩, orcsOk, ⟨⟨_, _, Try.underlying79, keyOk_g3 Try.underlying68 (by kernel_rfl) (by kernel_rfl) (by kernel_rfl) (by decide) (by decide) (by decide) rfl rfl rfl (by kernel_rfl), by kernel_rfl⟩, ⟨_, _, Try.underlying131, keyOk_s Try.underlying9, by kernel_rfl⟩, trivial⟩, by kernel_rfl⟩
end Go.Proofs.Ytgclmlbaodcccaa
