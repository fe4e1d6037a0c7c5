/- The runner's tables for this seat. -/
import Derived.Test.YtfjfllpcflddmaaGreatMK
import Derived.Test.YtfjfllpcflddmaaGreatTy
namespace Go.Proofs.YtfjfllpcflddmaaGreat
set_option maxRecDepth 100000
noncomputable def tbTy : List (Nat × Ty) := [(0, ⟨1, 0, false, [.tuple { toList := [] }], 0, 0, []⟩),
  (1, ⟨1, 8, false, [.nilFunc], 0, 0, []⟩),
  (2, ⟨1, 8, false, [.int .i64 0], 5, 0, []⟩),
  (3, ⟨1, 8, false, [.int .i64 0], 5, 0, []⟩),
  (4, ⟨1, 1, false, [.bool false], 0, 0, []⟩),
  (5, ⟨1, 1, false, [.int .u8 0], 5, 0, []⟩),
  (6, ⟨1, 1, false, [.int .u8 0], 5, 0, []⟩),
  (7, ⟨4, 24, true, [.int .i64 0, .int .i64 0, .bool false, .int .u8 0], 2, 0, [(0, 1, false), (1, 1, false), (2, 1, false), (3, 1, false)]⟩),
  (8, ⟨4, 24, true, [.int .i64 0, .int .i64 0, .bool false, .int .u8 0], 2, 0, [(0, 1, false), (1, 1, false), (2, 1, false), (3, 1, false)]⟩),
  (9, ⟨1, 16, false, [.string { data := { toList := [] } }], 4, 0, []⟩),
  (10, ⟨1, 16, false, [.string { data := { toList := [] } }], 4, 0, []⟩),
  (11, ⟨1, 16, false, [.string { data := { toList := [] } }], 4, 0, []⟩),
  (12, ⟨1, 8, false, [.int .u64 0], 5, 0, []⟩),
  (13, ⟨2, 24, true, [.string { data := { toList := [] } }, .int .u64 0], 2, 0, [(0, 1, false), (1, 1, false)]⟩),
  (14, ⟨2, 24, true, [.string { data := { toList := [] } }, .int .u64 0], 2, 0, [(0, 1, false), (1, 1, false)]⟩),
  (15, ⟨1, 8, false, [.pointer none], 0, 0, []⟩),
  (16, ⟨1, 8, false, [.pointer none], 0, 0, []⟩),
  (17, ⟨1, 8, false, [.pointer none], 0, 0, []⟩),
  (18, ⟨1, 8, true, [.pointer none], 2, 0, [(0, 1, false)]⟩),
  (19, ⟨1, 8, true, [.pointer none], 2, 0, [(0, 1, false)]⟩),
  (20, ⟨1, 16, false, [.nilIface], 0, 0, []⟩),
  (21, ⟨1, 4, false, [.int .i32 0], 5, 0, []⟩),
  (22, ⟨1, 24, false, [.slice none 0 0], 1, 3, []⟩),
  (23, ⟨1, 24, false, [.slice none 0 0], 1, 49, []⟩),
  (24, ⟨1, 24, true, [.slice none 0 0], 2, 0, [(0, 1, false)]⟩),
  (25, ⟨1, 24, true, [.slice none 0 0], 2, 0, [(0, 1, false)]⟩),
  (26, ⟨1, 8, false, [.pointer none], 0, 0, []⟩),
  (27, ⟨1, 8, false, [.nilFunc], 0, 0, []⟩),
  (28, ⟨1, 8, false, [.nilFunc], 0, 0, []⟩),
  (29, ⟨1, 8, false, [.nilFunc], 0, 0, []⟩),
  (30, ⟨1, 8, false, [.nilFunc], 0, 0, []⟩),
  (31, ⟨1, 8, false, [.nilFunc], 0, 0, []⟩),
  (32, ⟨1, 8, false, [.nilFunc], 0, 0, []⟩),
  (33, ⟨1, 8, false, [.nilFunc], 0, 0, []⟩),
  (34, ⟨1, 8, false, [.nilFunc], 0, 0, []⟩),
  (35, ⟨1, 8, false, [.nilFunc], 0, 0, []⟩),
  (36, ⟨1, 24, false, [.slice none 0 0], 1, 22, []⟩),
  (37, ⟨1, 8, false, [.nilFunc], 0, 0, []⟩),
  (38, ⟨1, 8, false, [.nilFunc], 0, 0, []⟩),
  (39, ⟨1, 8, false, [.nilFunc], 0, 0, []⟩),
  (40, ⟨1, 8, false, [.nilFunc], 0, 0, []⟩),
  (41, ⟨1, 8, false, [.int .i64 0], 5, 0, []⟩),
  (42, ⟨1, 0, false, [.tuple { toList := [.slice none 0 0, .int .i64 0] }], 0, 0, []⟩),
  (43, ⟨1, 8, false, [.nilFunc], 0, 0, []⟩),
  (44, ⟨1, 8, false, [.nilFunc], 0, 0, []⟩),
  (45, ⟨1, 8, false, [.nilFunc], 0, 0, []⟩),
  (46, ⟨1, 8, false, [.nilFunc], 0, 0, []⟩),
  (47, ⟨1, 24, false, [.slice none 0 0], 1, 52, []⟩),
  (48, ⟨1, 8, false, [.nilFunc], 0, 0, []⟩),
  (49, ⟨1, 24, false, [.slice none 0 0], 1, 74, []⟩),
  (50, ⟨1, 24, false, [.slice none 0 0], 1, 137, []⟩),
  (51, ⟨5, 104, true, [.int .i64 0, .slice none 0 0, .slice none 0 0, .slice none 0 0, .slice none 0 0], 2, 0, [(0, 1, false), (1, 1, false), (2, 1, false), (3, 1, false), (4, 1, true)]⟩),
  (52, ⟨5, 104, true, [.int .i64 0, .slice none 0 0, .slice none 0 0, .slice none 0 0, .slice none 0 0], 2, 0, [(0, 1, false), (1, 1, false), (2, 1, false), (3, 1, false), (4, 1, true)]⟩),
  (53, ⟨1, 8, false, [.nilFunc], 0, 0, []⟩),
  (54, ⟨1, 8, false, [.nilFunc], 0, 0, []⟩),
  (55, ⟨1, 8, false, [.nilFunc], 0, 0, []⟩),
  (56, ⟨1, 8, false, [.nilFunc], 0, 0, []⟩),
  (57, ⟨1, 8, false, [.nilFunc], 0, 0, []⟩),
  (58, ⟨1, 8, false, [.nilFunc], 0, 0, []⟩),
  (59, ⟨1, 8, false, [.nilFunc], 0, 0, []⟩),
  (60, ⟨1, 24, false, [.slice none 0 0], 1, 87, []⟩),
  (61, ⟨1, 24, false, [.slice none 0 0], 1, 87, []⟩),
  (62, ⟨1, 8, false, [.nilFunc], 0, 0, []⟩),
  (63, ⟨1, 8, false, [.nilFunc], 0, 0, []⟩),
  (64, ⟨1, 8, false, [.nilFunc], 0, 0, []⟩),
  (65, ⟨1, 8, false, [.nilFunc], 0, 0, []⟩),
  (66, ⟨1, 8, false, [.nilFunc], 0, 0, []⟩),
  (67, ⟨1, 8, false, [.nilFunc], 0, 0, []⟩),
  (68, ⟨1, 8, false, [.nilFunc], 0, 0, []⟩),
  (69, ⟨1, 8, false, [.nilFunc], 0, 0, []⟩),
  (70, ⟨2, 32, true, [.slice none 0 0, .int .i64 0], 2, 0, [(0, 1, false), (1, 1, false)]⟩),
  (71, ⟨2, 32, true, [.slice none 0 0, .int .i64 0], 2, 0, [(0, 1, false), (1, 1, false)]⟩),
  (72, ⟨1, 8, false, [.nilFunc], 0, 0, []⟩),
  (73, ⟨2, 16, true, [.int .i64 0, .int .i64 0], 2, 0, [(0, 1, false), (1, 1, false)]⟩),
  (74, ⟨2, 16, true, [.int .i64 0, .int .i64 0], 2, 0, [(0, 1, false), (1, 1, false)]⟩),
  (75, ⟨1, 0, false, [.tuple { toList := [.agg { toList := [.slice none 0 0] }, .int .i64 0] }], 0, 0, []⟩),
  (76, ⟨1, 8, false, [.nilFunc], 0, 0, []⟩),
  (77, ⟨1, 8, false, [.nilFunc], 0, 0, []⟩),
  (78, ⟨1, 8, false, [.nilFunc], 0, 0, []⟩),
  (79, ⟨1, 8, false, [.nilFunc], 0, 0, []⟩),
  (80, ⟨1, 8, false, [.nilFunc], 0, 0, []⟩),
  (81, ⟨1, 8, false, [.nilFunc], 0, 0, []⟩),
  (82, ⟨1, 8, false, [.nilFunc], 0, 0, []⟩),
  (83, ⟨1, 24, false, [.slice none 0 0], 1, 89, []⟩),
  (84, ⟨1, 0, false, [.tuple { toList := [.agg { toList := [.slice none 0 0] }, .slice none 0 0, .int .i64 0] }], 0, 0, []⟩),
  (85, ⟨1, 8, false, [.nilFunc], 0, 0, []⟩),
  (86, ⟨3, 56, true, [.slice none 0 0, .slice none 0 0, .bool false], 2, 0, [(0, 1, false), (1, 1, false), (2, 1, false)]⟩),
  (87, ⟨3, 56, true, [.slice none 0 0, .slice none 0 0, .bool false], 2, 0, [(0, 1, false), (1, 1, false), (2, 1, false)]⟩),
  (88, ⟨2, 32, true, [.int .i64 0, .slice none 0 0], 2, 0, [(0, 1, false), (1, 1, false)]⟩),
  (89, ⟨2, 32, true, [.int .i64 0, .slice none 0 0], 2, 0, [(0, 1, false), (1, 1, false)]⟩),
  (90, ⟨1, 8, false, [.nilFunc], 0, 0, []⟩),
  (91, ⟨1, 8, false, [.nilFunc], 0, 0, []⟩),
  (92, ⟨1, 8, false, [.nilFunc], 0, 0, []⟩),
  (93, ⟨1, 8, false, [.nilFunc], 0, 0, []⟩),
  (94, ⟨1, 8, false, [.nilFunc], 0, 0, []⟩),
  (95, ⟨1, 8, false, [.nilFunc], 0, 0, []⟩),
  (96, ⟨1, 8, false, [.nilFunc], 0, 0, []⟩),
  (97, ⟨1, 8, false, [.nilFunc], 0, 0, []⟩),
  (98, ⟨1, 8, false, [.nilFunc], 0, 0, []⟩),
  (99, ⟨1, 8, false, [.nilFunc], 0, 0, []⟩),
  (100, ⟨1, 8, false, [.nilFunc], 0, 0, []⟩),
  (101, ⟨1, 8, false, [.nilFunc], 0, 0, []⟩),
  (102, ⟨1, 0, false, [.tuple { toList := [.slice none 0 0, .int .i64 0] }], 0, 0, []⟩),
  (103, ⟨1, 8, false, [.nilFunc], 0, 0, []⟩),
  (104, ⟨1, 8, false, [.nilFunc], 0, 0, []⟩),
  (105, ⟨1, 8, false, [.nilFunc], 0, 0, []⟩),
  (106, ⟨1, 8, false, [.nilFunc], 0, 0, []⟩),
  (107, ⟨1, 8, false, [.nilFunc], 0, 0, []⟩),
  (108, ⟨1, 0, false, [.tuple { toList := [.int .i64 0, .bool false] }], 0, 0, []⟩),
  (109, ⟨1, 8, false, [.nilFunc], 0, 0, []⟩),
  (110, ⟨1, 8, false, [.nilFunc], 0, 0, []⟩),
  (111, ⟨1, 24, false, [.slice none 0 0], 1, 4, []⟩),
  (112, ⟨1, 8, false, [.nilFunc], 0, 0, []⟩),
  (113, ⟨1, 8, false, [.nilFunc], 0, 0, []⟩),
  (114, ⟨1, 0, false, [.tuple { toList := [.agg { toList := [.slice none 0 0] }, .slice none 0 0] }], 0, 0, []⟩),
  (115, ⟨1, 8, false, [.nilFunc], 0, 0, []⟩),
  (116, ⟨1, 8, false, [.nilFunc], 0, 0, []⟩),
  (117, ⟨1, 8, false, [.nilFunc], 0, 0, []⟩),
  (118, ⟨1, 8, false, [.nilFunc], 0, 0, []⟩),
  (119, ⟨1, 8, false, [.pointer none], 0, 0, []⟩),
  (120, ⟨4, 96, true, [.slice none 0 0, .slice none 0 0, .slice none 0 0, .slice none 0 0], 2, 0, [(0, 1, true), (1, 1, false), (2, 1, false), (3, 1, false)]⟩),
  (121, ⟨4, 96, true, [.slice none 0 0, .slice none 0 0, .slice none 0 0, .slice none 0 0], 2, 0, [(0, 1, true), (1, 1, false), (2, 1, false), (3, 1, false)]⟩),
  (122, ⟨1, 8, false, [.nilFunc], 0, 0, []⟩),
  (123, ⟨1, 24, false, [.slice none 0 0], 1, 36, []⟩),
  (124, ⟨1, 0, false, [.tuple { toList := [.slice none 0 0, .slice none 0 0, .int .i64 0] }], 0, 0, []⟩),
  (125, ⟨1, 8, false, [.nilFunc], 0, 0, []⟩),
  (126, ⟨1, 8, false, [.map none], 3, 3, []⟩),
  (127, ⟨1, 8, false, [.nilFunc], 0, 0, []⟩),
  (128, ⟨1, 8, false, [.nilFunc], 0, 0, []⟩),
  (129, ⟨1, 8, false, [.nilFunc], 0, 0, []⟩),
  (130, ⟨1, 8, false, [.nilFunc], 0, 0, []⟩),
  (131, ⟨1, 0, false, [.tuple { toList := [.agg { toList := [.slice none 0 0] }, .slice none 0 0, .int .i64 0] }], 0, 0, []⟩),
  (132, ⟨1, 8, false, [.nilFunc], 0, 0, []⟩),
  (133, ⟨1, 8, false, [.nilFunc], 0, 0, []⟩),
  (134, ⟨1, 8, false, [.nilFunc], 0, 0, []⟩),
  (135, ⟨1, 8, false, [.nilFunc], 0, 0, []⟩),
  (136, ⟨2, 16, true, [.int .i64 0, .int .i64 0], 2, 0, [(0, 1, false), (1, 1, false)]⟩),
  (137, ⟨2, 16, true, [.int .i64 0, .int .i64 0], 2, 0, [(0, 1, false), (1, 1, false)]⟩),
  (138, ⟨1, 24, false, [.slice none 0 0], 1, 50, []⟩),
  (139, ⟨1, 8, false, [.nilFunc], 0, 0, []⟩),
  (140, ⟨1, 8, false, [.nilFunc], 0, 0, []⟩),
  (141, ⟨1, 8, false, [.nilFunc], 0, 0, []⟩),
  (142, ⟨1, 8, false, [.pointer none], 0, 0, []⟩),
  (143, ⟨1, 8, false, [.nilFunc], 0, 0, []⟩),
  (144, ⟨8, 160, true, [.slice none 0 0, .slice none 0 0, .nilFunc, .int .i64 0, .slice none 0 0, .slice none 0 0, .slice none 0 0, .slice none 0 0], 2, 0, [(0, 1, true), (1, 1, true), (2, 1, false), (3, 5, true)]⟩),
  (145, ⟨8, 160, true, [.slice none 0 0, .slice none 0 0, .nilFunc, .int .i64 0, .slice none 0 0, .slice none 0 0, .slice none 0 0, .slice none 0 0], 2, 0, [(0, 1, true), (1, 1, true), (2, 1, false), (3, 5, true)]⟩),
  (146, ⟨1, 8, false, [.nilFunc], 0, 0, []⟩),
  (147, ⟨1, 8, false, [.nilFunc], 0, 0, []⟩),
  (148, ⟨1, 8, false, [.pointer none], 0, 0, []⟩),
  (149, ⟨1, 8, false, [.nilFunc], 0, 0, []⟩),
  (150, ⟨1, 8, false, [.nilFunc], 0, 0, []⟩),
  (151, ⟨1, 8, false, [.nilFunc], 0, 0, []⟩),
  (152, ⟨1, 8, false, [.nilFunc], 0, 0, []⟩),
  (153, ⟨1, 0, false, [.tuple { toList := [.agg { toList := [.slice none 0 0] }, .bool false] }], 0, 0, []⟩),
  (154, ⟨1, 8, false, [.nilFunc], 0, 0, []⟩),
  (155, ⟨1, 8, false, [.nilFunc], 0, 0, []⟩),
  (156, ⟨1, 8, false, [.nilFunc], 0, 0, []⟩),
  (157, ⟨1, 8, false, [.int .u64 0], 5, 0, []⟩),
  (158, ⟨1, 8, false, [.nilFunc], 0, 0, []⟩),
  (159, ⟨1, 0, false, [.tuple { toList := [.slice none 0 0, .slice none 0 0, .int .i64 0] }], 0, 0, []⟩),
  (160, ⟨1, 8, false, [.nilFunc], 0, 0, []⟩),
  (161, ⟨1, 0, false, [.tuple { toList := [.slice none 0 0, .slice none 0 0, .int .i64 0] }], 0, 0, []⟩),
  (162, ⟨1, 8, false, [.nilFunc], 0, 0, []⟩),
  (163, ⟨1, 8, false, [.nilFunc], 0, 0, []⟩),
  (164, ⟨1, 8, false, [.nilFunc], 0, 0, []⟩),
  (165, ⟨1, 8, false, [.nilFunc], 0, 0, []⟩),
  (166, ⟨1, 8, false, [.nilFunc], 0, 0, []⟩),
  (167, ⟨1, 8, false, [.nilFunc], 0, 0, []⟩),
  (168, ⟨1, 8, false, [.nilFunc], 0, 0, []⟩),
  (169, ⟨1, 8, false, [.nilFunc], 0, 0, []⟩),
  (170, ⟨1, 8, false, [.nilFunc], 0, 0, []⟩),
  (171, ⟨1, 24, false, [.slice none 0 0], 1, 9, []⟩),
  (172, ⟨1, 0, false, [.tuple { toList := [.slice none 0 0, .int .i64 0] }], 0, 0, []⟩),
  (173, ⟨1, 8, false, [.nilFunc], 0, 0, []⟩),
  (174, ⟨1, 24, false, [.slice none 0 0], 1, 176, []⟩),
  (175, ⟨1, 8, false, [.nilFunc], 0, 0, []⟩),
  (176, ⟨1, 24, false, [.slice none 0 0], 1, 178, []⟩),
  (177, ⟨2, 16, true, [.int .i64 0, .int .i64 0], 2, 0, [(0, 1, false), (1, 1, false)]⟩),
  (178, ⟨2, 16, true, [.int .i64 0, .int .i64 0], 2, 0, [(0, 1, false), (1, 1, false)]⟩),
  (179, ⟨1, 24, false, [.slice none 0 0], 1, 5, []⟩),
  (180, ⟨1, 8, false, [.nilFunc], 0, 0, []⟩),
  (181, ⟨1, 8, false, [.nilFunc], 0, 0, []⟩),
  (182, ⟨1, 8, false, [.nilFunc], 0, 0, []⟩),
  (183, ⟨1, 8, false, [.nilFunc], 0, 0, []⟩),
  (184, ⟨1, 8, false, [.nilFunc], 0, 0, []⟩),
  (185, ⟨1, 8, false, [.nilFunc], 0, 0, []⟩),
  (186, ⟨1, 8, false, [.nilFunc], 0, 0, []⟩),
  (187, ⟨1, 8, false, [.nilFunc], 0, 0, []⟩),
  (188, ⟨1, 8, false, [.nilFunc], 0, 0, []⟩),
  (189, ⟨3, 24, true, [.int .i64 0, .int .i64 0, .int .i64 0], 2, 0, [(0, 1, false), (1, 1, false), (2, 1, false)]⟩),
  (190, ⟨3, 24, true, [.int .i64 0, .int .i64 0, .int .i64 0], 2, 0, [(0, 1, false), (1, 1, false), (2, 1, false)]⟩),
  (191, ⟨1, 24, false, [.slice none 0 0], 1, 193, []⟩),
  (192, ⟨4, 32, true, [.int .i64 0, .int .i64 0, .int .i64 0, .int .i64 0], 2, 0, [(0, 1, false), (1, 3, true)]⟩),
  (193, ⟨4, 32, true, [.int .i64 0, .int .i64 0, .int .i64 0, .int .i64 0], 2, 0, [(0, 1, false), (1, 3, true)]⟩),
  (194, ⟨1, 8, false, [.nilFunc], 0, 0, []⟩),
  (195, ⟨1, 8, false, [.nilFunc], 0, 0, []⟩),
  (196, ⟨1, 8, false, [.nilFunc], 0, 0, []⟩),
  (197, ⟨1, 8, false, [.map none], 3, 3, []⟩),
  (198, ⟨1, 24, false, [.slice none 0 0], 1, 190, []⟩),
  (199, ⟨1, 8, false, [.nilFunc], 0, 0, []⟩),
  (200, ⟨1, 8, false, [.nilFunc], 0, 0, []⟩),
  (201, ⟨1, 24, false, [.slice none 0 0], 1, 203, []⟩),
  (202, ⟨2, 16, true, [.int .i64 0, .int .i64 0], 2, 0, [(0, 1, false), (1, 1, false)]⟩),
  (203, ⟨2, 16, true, [.int .i64 0, .int .i64 0], 2, 0, [(0, 1, false), (1, 1, false)]⟩),
  (204, ⟨1, 8, false, [.pointer none], 0, 0, []⟩),
  (205, ⟨1, 8, false, [.nilFunc], 0, 0, []⟩),
  (206, ⟨1, 8, false, [.nilFunc], 0, 0, []⟩),
  (207, ⟨3, 56, true, [.slice none 0 0, .slice none 0 0, .int .i64 0], 2, 0, [(0, 1, true), (1, 1, false), (2, 1, false)]⟩),
  (208, ⟨3, 56, true, [.slice none 0 0, .slice none 0 0, .int .i64 0], 2, 0, [(0, 1, true), (1, 1, false), (2, 1, false)]⟩),
  (209, ⟨1, 0, false, [.tuple { toList := [.slice none 0 0, .bool false] }], 0, 0, []⟩),
  (210, ⟨1, 8, false, [.nilFunc], 0, 0, []⟩),
  (211, ⟨1, 8, false, [.nilFunc], 0, 0, []⟩),
  (212, ⟨1, 8, false, [.nilFunc], 0, 0, []⟩),
  (213, ⟨1, 8, false, [.int .i64 0], 5, 0, []⟩),
  (214, ⟨1, 0, false, [.tuple { toList := [.int .i64 0, .int .i64 0] }], 0, 0, []⟩),
  (215, ⟨1, 8, false, [.nilFunc], 0, 0, []⟩),
  (216, ⟨1, 8, false, [.nilFunc], 0, 0, []⟩),
  (217, ⟨1, 8, false, [.nilFunc], 0, 0, []⟩),
  (218, ⟨1, 8, false, [.nilFunc], 0, 0, []⟩),
  (219, ⟨1, 8, false, [.nilFunc], 0, 0, []⟩),
  (220, ⟨1, 4, false, [.int .u32 0], 5, 0, []⟩),
  (221, ⟨1, 8, false, [.nilFunc], 0, 0, []⟩),
  (222, ⟨1, 8, false, [.int .u64 0], 5, 0, []⟩),
  (223, ⟨1, 0, false, [.tuple { toList := [.slice none 0 0, .bool false] }], 0, 0, []⟩),
  (224, ⟨1, 8, false, [.nilFunc], 0, 0, []⟩),
  (225, ⟨1, 8, false, [.nilFunc], 0, 0, []⟩),
  (226, ⟨1, 8, false, [.nilFunc], 0, 0, []⟩),
  (227, ⟨1, 8, false, [.nilFunc], 0, 0, []⟩),
  (228, ⟨1, 8, false, [.nilFunc], 0, 0, []⟩),
  (229, ⟨1, 8, false, [.pointer none], 0, 0, []⟩),
  (230, ⟨6, 96, true, [.slice none 0 0, .int .i64 0, .pointer none, .slice none 0 0, .map none, .slice none 0 0], 2, 0, [(0, 1, true), (1, 1, false), (2, 1, false), (3, 1, false), (4, 1, false), (5, 1, false)]⟩),
  (231, ⟨6, 96, true, [.slice none 0 0, .int .i64 0, .pointer none, .slice none 0 0, .map none, .slice none 0 0], 2, 0, [(0, 1, true), (1, 1, false), (2, 1, false), (3, 1, false), (4, 1, false), (5, 1, false)]⟩),
  (232, ⟨1, 0, false, [.tuple { toList := [.agg { toList := [.slice none 0 0, .slice none 0 0, .bool false] }, .int .i64 0] }], 0, 0, []⟩),
  (233, ⟨1, 8, false, [.nilFunc], 0, 0, []⟩),
  (234, ⟨1, 8, false, [.nilFunc], 0, 0, []⟩),
  (235, ⟨1, 8, false, [.nilFunc], 0, 0, []⟩),
  (236, ⟨1, 8, false, [.nilFunc], 0, 0, []⟩),
  (237, ⟨1, 8, false, [.nilFunc], 0, 0, []⟩),
  (238, ⟨1, 8, false, [.nilFunc], 0, 0, []⟩),
  (239, ⟨1, 8, false, [.nilFunc], 0, 0, []⟩),
  (240, ⟨1, 8, false, [.nilFunc], 0, 0, []⟩),
  (241, ⟨1, 8, false, [.nilFunc], 0, 0, []⟩),
  (242, ⟨1, 8, false, [.nilFunc], 0, 0, []⟩),
  (243, ⟨1, 0, false, [.tuple { toList := [.int .u64 0, .int .u64 0] }], 0, 0, []⟩),
  (244, ⟨1, 8, false, [.nilFunc], 0, 0, []⟩),
  (245, ⟨1, 8, false, [.nilFunc], 0, 0, []⟩),
  (246, ⟨1, 8, false, [.nilFunc], 0, 0, []⟩),
  (247, ⟨1, 8, false, [.nilFunc], 0, 0, []⟩),
  (248, ⟨1, 8, false, [.nilFunc], 0, 0, []⟩),
  (249, ⟨1, 8, false, [.int .u64 0], 5, 0, []⟩),
  (250, ⟨1, 8, false, [.nilFunc], 0, 0, []⟩),
  (251, ⟨1, 8, false, [.nilFunc], 0, 0, []⟩),
  (252, ⟨1, 8, false, [.nilFunc], 0, 0, []⟩),
  (253, ⟨1, 8, false, [.pointer none], 0, 0, []⟩),
  (254, ⟨1, 8, false, [.nilFunc], 0, 0, []⟩),
  (255, ⟨1, 8, false, [.map none], 3, 4, []⟩),
  (256, ⟨1, 8, false, [.nilFunc], 0, 0, []⟩),
  (257, ⟨1, 8, false, [.nilFunc], 0, 0, []⟩),
  (258, ⟨1, 8, false, [.nilFunc], 0, 0, []⟩),
  (259, ⟨1, 8, false, [.nilFunc], 0, 0, []⟩),
  (260, ⟨1, 0, false, [.tuple { toList := [.int .u32 0, .int .u32 0] }], 0, 0, []⟩),
  (261, ⟨1, 8, false, [.nilFunc], 0, 0, []⟩),
  (262, ⟨1, 0, false, [.tuple { toList := [.int .u64 0, .int .u64 0] }], 0, 0, []⟩),
  (263, ⟨1, 8, false, [.nilFunc], 0, 0, []⟩),
  (264, ⟨1, 8, false, [.nilFunc], 0, 0, []⟩),
  (265, ⟨1, 8, false, [.nilFunc], 0, 0, []⟩),
  (266, ⟨1, 8, false, [.nilFunc], 0, 0, []⟩),
  (267, ⟨1, 8, false, [.nilFunc], 0, 0, []⟩),
  (268, ⟨1, 8, false, [.nilFunc], 0, 0, []⟩),
  (269, ⟨1, 8, false, [.nilFunc], 0, 0, []⟩),
  (270, ⟨1, 8, false, [.nilFunc], 0, 0, []⟩),
  (271, ⟨1, 8, false, [.nilFunc], 0, 0, []⟩),
  (272, ⟨1, 8, false, [.nilFunc], 0, 0, []⟩),
  (273, ⟨1, 8, false, [.nilFunc], 0, 0, []⟩),
  (274, ⟨1, 8, false, [.nilFunc], 0, 0, []⟩),
  (275, ⟨1, 8, false, [.pointer none], 0, 0, []⟩),
  (276, ⟨1, 0, false, [.tuple { toList := [.int .i64 0, .int .i64 0] }], 0, 0, []⟩),
  (277, ⟨1, 8, false, [.nilFunc], 0, 0, []⟩),
  (278, ⟨1, 8, false, [.nilFunc], 0, 0, []⟩),
  (279, ⟨1, 8, false, [.nilFunc], 0, 0, []⟩),
  (280, ⟨1, 8, false, [.nilFunc], 0, 0, []⟩),
  (281, ⟨1, 8, false, [.nilFunc], 0, 0, []⟩),
  (282, ⟨1, 8, false, [.nilFunc], 0, 0, []⟩),
  (283, ⟨1, 8, false, [.nilFunc], 0, 0, []⟩),
  (284, ⟨1, 8, false, [.nilFunc], 0, 0, []⟩),
  (285, ⟨1, 8, false, [.nilFunc], 0, 0, []⟩),
  (286, ⟨1, 8, false, [.nilFunc], 0, 0, []⟩),
  (287, ⟨1, 8, false, [.nilFunc], 0, 0, []⟩),
  (288, ⟨1, 8, false, [.nilFunc], 0, 0, []⟩),
  (289, ⟨1, 8, false, [.nilFunc], 0, 0, []⟩),
  (290, ⟨1, 8, false, [.nilFunc], 0, 0, []⟩),
  (291, ⟨1, 8, false, [.nilFunc], 0, 0, []⟩),
  (292, ⟨1, 8, false, [.nilFunc], 0, 0, []⟩),
  (293, ⟨4, 40, true, [.pointer none, .pointer none, .pointer none, .string { data := { toList := [] } }], 2, 0, [(0, 1, false), (1, 1, false), (2, 1, false), (3, 1, false)]⟩),
  (294, ⟨4, 40, true, [.pointer none, .pointer none, .pointer none, .string { data := { toList := [] } }], 2, 0, [(0, 1, false), (1, 1, false), (2, 1, false), (3, 1, false)]⟩),
  (295, ⟨0, 0, true, [], 0, 0, []⟩),
  (296, ⟨0, 0, true, [], 2, 0, [(0, 0, true)]⟩),
  (297, ⟨0, 0, true, [], 2, 0, [(0, 0, true)]⟩),
  (298, ⟨1, 1, false, [.int .u8 0], 5, 0, []⟩),
  (299, ⟨1, 1, false, [.int .u8 0], 5, 0, []⟩),
  (300, ⟨1, 8, false, [.nilFunc], 0, 0, []⟩),
  (301, ⟨1, 8, false, [.pointer none], 0, 0, []⟩),
  (302, ⟨1, 4, false, [.int .i32 0], 5, 0, []⟩),
  (303, ⟨1, 4, false, [.int .i32 0], 5, 0, []⟩),
  (304, ⟨11, 48, true, [.int .u64 0, .int .u64 0, .int .u32 0, .int .u8 0, .int .u8 0, .int .u8 0, .int .u8 0, .nilFunc, .pointer none, .int .i32 0, .int .i32 0], 2, 0, [(0, 1, false), (1, 1, false), (2, 1, false), (3, 1, false), (4, 1, false), (5, 1, false), (6, 1, false), (7, 1, false), (8, 1, false), (9, 1, false), (10, 1, false)]⟩),
  (305, ⟨11, 48, true, [.int .u64 0, .int .u64 0, .int .u32 0, .int .u8 0, .int .u8 0, .int .u8 0, .int .u8 0, .nilFunc, .pointer none, .int .i32 0, .int .i32 0], 2, 0, [(0, 1, false), (1, 1, false), (2, 1, false), (3, 1, false), (4, 1, false), (5, 1, false), (6, 1, false), (7, 1, false), (8, 1, false), (9, 1, false), (10, 1, false)]⟩),
  (306, ⟨1, 8, false, [.pointer none], 0, 0, []⟩)]
noncomputable def tbIk : List (Nat × IntKind) := [(2, .i64), (3, .i64), (5, .u8), (6, .u8), (12, .u64), (21, .i32), (41, .i64), (157, .u64), (213, .i64), (220, .u32), (222, .u64), (249, .u64), (298, .u8), (299, .u8), (302, .i32), (303, .i32)]
noncomputable def tbFn : List (Nat × Func) := [(2, Tryz.f2), (3, Tryz.f3), (4, Tryz.f4), (5, Tryz.f5), (6, Tryz.f6), (7, Tryz.f7), (8, Tryz.f8), (9, Tryz.f9), (10, Tryz.f10), (11, Tryz.f11), (12, Tryz.f12), (13, Tryz.f13), (14, Tryz.f14), (15, Tryz.f15), (16, Tryz.f16), (17, Tryz.f17), (18, Tryz.f18), (19, Tryz.f19), (20, Tryz.f20), (21, Tryz.f21), (22, Tryz.f22), (23, Tryz.f23), (24, Tryz.f24), (25, Tryz.f25), (26, Tryz.f26), (27, Tryz.f27), (28, Tryz.f28), (29, Tryz.f29), (30, Tryz.f30), (31, Tryz.f31), (32, Tryz.f32), (33, Tryz.f33), (34, Tryz.f34), (35, Tryz.f35), (36, Tryz.f36), (37, Tryz.f37), (38, Tryz.f38), (39, Tryz.f39), (40, Tryz.f40), (41, Tryz.f41), (42, Tryz.f42), (43, Tryz.f43), (44, Tryz.f44), (45, Tryz.f45), (46, Tryz.f46), (47, Tryz.f47), (48, Tryz.f48), (49, Tryz.f49), (50, Tryz.f50), (51, Tryz.f51), (52, Tryz.f52), (53, Tryz.f53), (54, Tryz.f54), (55, Tryz.f55), (56, Tryz.f56), (57, Tryz.f57), (58, Tryz.f58), (59, Tryz.f59), (60, Tryz.f60), (61, Tryz.f61), (62, Tryz.f62), (63, Tryz.f63), (64, Tryz.f64), (65, Tryz.f65), (66, Tryz.f66), (67, Tryz.f67), (68, Tryz.f68), (69, Tryz.f69), (70, Tryz.f70), (71, Tryz.f71), (72, Tryz.f72), (73, Tryz.f73), (74, Tryz.f74), (75, Tryz.f75), (76, Tryz.f76), (77, Tryz.f77), (78, Tryz.f78), (79, Tryz.f79), (80, Tryz.f80), (81, Tryz.f81), (82, Tryz.f82), (83, Tryz.f83), (84, Tryz.f84), (85, Tryz.f85), (86, Tryz.f86), (87, Tryz.f87), (88, Tryz.f88), (89, Tryz.f89), (90, Tryz.f90), (91, Tryz.f91), (92, Tryz.f92), (93, Tryz.f93), (94, Tryz.f94), (95, Tryz.f95), (96, Tryz.f96), (97, Tryz.f97), (98, Tryz.f98), (99, Tryz.f99), (100, Tryz.f100), (101, Tryz.f101), (102, Tryz.f102), (103, Tryz.f103), (104, Tryz.f104), (105, Tryz.f105), (106, Tryz.f106), (107, Tryz.f107), (108, Tryz.f108), (109, Tryz.f109), (110, Tryz.f110), (111, Tryz.f111), (112, Tryz.f112), (113, Tryz.f113), (114, Tryz.f114), (115, Tryz.f115), (116, Tryz.f116), (117, Tryz.f117), (118, Tryz.f118), (119, Tryz.f119), (120, Tryz.f120), (121, Tryz.f121), (122, Tryz.f122), (123, Tryz.f123), (124, Tryz.f124), (125, Tryz.f125), (126, Tryz.f126), (127, Tryz.f127), (128, Tryz.f128), (129, Tryz.f129), (130, Tryz.f130), (131, Tryz.f131), (132, Tryz.f132), (133, Tryz.f133), (134, Tryz.f134), (135, Tryz.f135), (136, Tryz.f136), (137, Tryz.f137), (138, Tryz.f138), (139, Tryz.f139), (140, Tryz.f140), (141, Tryz.f141), (142, Tryz.f142), (143, Tryz.f143), (144, Tryz.f144), (145, Tryz.f145), (146, Tryz.f146), (147, Tryz.f147), (148, Tryz.f148), (149, Tryz.f149), (150, Tryz.f150), (151, Tryz.f151), (152, Tryz.f152), (153, Tryz.f153), (154, Tryz.f154), (155, Tryz.f155), (156, Tryz.f156), (157, Tryz.f157), (158, Tryz.f158), (159, Tryz.f159), (160, Tryz.f160), (161, Tryz.f161), (162, Tryz.f162), (163, Tryz.f163), (164, Tryz.f164), (165, Tryz.f165), (166, Tryz.f166), (167, Tryz.f167), (168, Tryz.f168), (169, Tryz.f169), (170, Tryz.f170), (171, Tryz.f171), (172, Tryz.f172), (173, Tryz.f173), (174, Tryz.f174), (175, Tryz.f175), (176, Tryz.f176), (177, Tryz.f177), (178, Tryz.f178), (179, Tryz.f179), (180, Tryz.f180), (181, Tryz.f181), (182, Tryz.f182), (183, Tryz.f183), (184, Tryz.f184), (185, Tryz.f185), (186, Tryz.f186), (187, Tryz.f187), (188, Tryz.f188), (189, Tryz.f189), (190, Tryz.f190), (192, Tryz.f192), (193, Tryz.f193), (194, Tryz.f194), (195, Tryz.f195), (196, Tryz.f196), (197, Tryz.f197), (198, Tryz.f198), (199, Tryz.f199), (200, Tryz.f200), (201, Tryz.f201), (202, Tryz.f202), (203, Tryz.f203), (204, Tryz.f204), (205, Tryz.f205), (206, Tryz.f206), (207, Tryz.f207), (208, Tryz.f208), (209, Tryz.f209), (210, Tryz.f210), (211, Tryz.f211), (212, Tryz.f212), (213, Tryz.f213), (214, Tryz.f214), (215, Tryz.f215), (216, Tryz.f216), (217, Tryz.f217), (218, Tryz.f218), (219, Tryz.f219), (220, Tryz.f220), (221, Tryz.f221), (222, Tryz.f222), (223, Tryz.f223), (224, Tryz.f224), (225, Tryz.f225), (226, Tryz.f226), (227, Tryz.f227), (228, Tryz.f228), (229, Tryz.f229), (230, Tryz.f230), (231, Tryz.f231), (232, Tryz.f232), (233, Tryz.f233), (234, Tryz.f234), (235, Tryz.f235), (236, Tryz.f236), (237, Tryz.f237), (238, Tryz.f238), (239, Tryz.f239), (240, Tryz.f240), (241, Tryz.f241), (242, Tryz.f242), (243, Tryz.f243), (244, Tryz.f244), (245, Tryz.f245), (246, Tryz.f246), (247, Tryz.f247), (248, Tryz.f248), (249, Tryz.f249), (250, Tryz.f250), (251, Tryz.f251), (252, Tryz.f252), (253, Tryz.f253), (254, Tryz.f254), (255, Tryz.f255), (256, Tryz.f256), (257, Tryz.f257), (258, Tryz.f258), (259, Tryz.f259), (260, Tryz.f260), (261, Tryz.f261), (262, Tryz.f262), (263, Tryz.f263), (264, Tryz.f264), (265, Tryz.f265), (266, Tryz.f266), (267, Tryz.f267), (268, Tryz.f268), (269, Tryz.f269), (270, Tryz.f270), (271, Tryz.f271), (272, Tryz.f272), (273, Tryz.f273), (274, Tryz.f274), (275, Tryz.f275), (276, Tryz.f276), (277, Tryz.f277), (278, Tryz.f278), (279, Tryz.f279), (280, Tryz.f280), (281, Tryz.f281), (282, Tryz.f282), (283, Tryz.f283), (284, Tryz.f284), (285, Tryz.f285), (286, Tryz.f286), (287, Tryz.f287), (288, Tryz.f288), (289, Tryz.f289), (290, Tryz.f290), (291, Tryz.f291), (292, Tryz.f292), (293, Tryz.f293), (294, Tryz.f294), (295, Tryz.f295), (296, Tryz.f296), (297, Tryz.f297), (298, Tryz.f298), (299, Tryz.f299), (300, Tryz.f300), (301, Tryz.f301), (302, Tryz.f302), (303, Tryz.f303), (304, Tryz.f304), (305, Tryz.f305), (306, Tryz.f306), (307, Tryz.f307), (308, Tryz.f308), (309, Tryz.f309), (310, Tryz.f310), (311, Tryz.f311), (312, Tryz.f312), (313, Tryz.f313), (314, Tryz.f314), (315, Tryz.f315)]
noncomputable def tbAe : List (Nat × Nat) := [(73, 2), (74, 2), (136, 2), (137, 2), (177, 2), (178, 2), (202, 2), (203, 2)]
def tbBl : List (Nat × Bool) := [(4, true)]
theorem bl4 : Tryz.prog.underlying 4 = some .bool := by kernel_rfl
def tbMp : List (Nat × (Ks × Value)) := [(126, (.ks, .int .i64 0)), (197, (.kg 3, .int .i64 0)), (255, (.ks, .bool false))]
noncomputable def tb : Tb := ⟨tbTy, tbIk, tbFn, tbAe, orcs, tbMp, tbBl⟩
theorem ik2 : Tryz.prog.underlying 2 = some (.int .i64) := by kernel_rfl
theorem ik3 : Tryz.prog.underlying 3 = some (.int .i64) := by kernel_rfl
theorem ik5 : Tryz.prog.underlying 5 = some (.int .u8) := by kernel_rfl
theorem ik6 : Tryz.prog.underlying 6 = some (.int .u8) := by kernel_rfl
theorem ik12 : Tryz.prog.underlying 12 = some (.int .u64) := by kernel_rfl
theorem ik21 : Tryz.prog.underlying 21 = some (.int .i32) := by kernel_rfl
theorem ik41 : Tryz.prog.underlying 41 = some (.int .i64) := by kernel_rfl
theorem ik157 : Tryz.prog.underlying 157 = some (.int .u64) := by kernel_rfl
theorem ik213 : Tryz.prog.underlying 213 = some (.int .i64) := by kernel_rfl
theorem ik220 : Tryz.prog.underlying 220 = some (.int .u32) := by kernel_rfl
theorem ik222 : Tryz.prog.underlying 222 = some (.int .u64) := by kernel_rfl
theorem ik249 : Tryz.prog.underlying 249 = some (.int .u64) := by kernel_rfl
theorem ik298 : Tryz.prog.underlying 298 = some (.int .u8) := by kernel_rfl
theorem ik299 : Tryz.prog.underlying 299 = some (.int .u8) := by kernel_rfl
theorem ik302 : Tryz.prog.underlying 302 = some (.int .i32) := by kernel_rfl
theorem ik303 : Tryz.prog.underlying 303 = some (.int .i32) := by kernel_rfl
theorem fk2 : Tryz.prog.funcs[2]? = some Tryz.f2 ∧ callable Tryz.prog 2 = true := ⟨Tryz.func2, by kernel_rfl⟩
theorem fk3 : Tryz.prog.funcs[3]? = some Tryz.f3 ∧ callable Tryz.prog 3 = true := ⟨Tryz.func3, by kernel_rfl⟩
theorem fk4 : Tryz.prog.funcs[4]? = some Tryz.f4 ∧ callable Tryz.prog 4 = true := ⟨Tryz.func4, by kernel_rfl⟩
theorem fk5 : Tryz.prog.funcs[5]? = some Tryz.f5 ∧ callable Tryz.prog 5 = true := ⟨Tryz.func5, by kernel_rfl⟩
theorem fk6 : Tryz.prog.funcs[6]? = some Tryz.f6 ∧ callable Tryz.prog 6 = true := ⟨Tryz.func6, by kernel_rfl⟩
theorem fk7 : Tryz.prog.funcs[7]? = some Tryz.f7 ∧ callable Tryz.prog 7 = true := ⟨Tryz.func7, by kernel_rfl⟩
theorem fk8 : Tryz.prog.funcs[8]? = some Tryz.f8 ∧ callable Tryz.prog 8 = true := ⟨Tryz.func8, by kernel_rfl⟩
theorem fk9 : Tryz.prog.funcs[9]? = some Tryz.f9 ∧ callable Tryz.prog 9 = true := ⟨Tryz.func9, by kernel_rfl⟩
theorem fk10 : Tryz.prog.funcs[10]? = some Tryz.f10 ∧ callable Tryz.prog 10 = true := ⟨Tryz.func10, by kernel_rfl⟩
theorem fk11 : Tryz.prog.funcs[11]? = some Tryz.f11 ∧ callable Tryz.prog 11 = true := ⟨Tryz.func11, by kernel_rfl⟩
theorem fk12 : Tryz.prog.funcs[12]? = some Tryz.f12 ∧ callable Tryz.prog 12 = true := ⟨Tryz.func12, by kernel_rfl⟩
theorem fk13 : Tryz.prog.funcs[13]? = some Tryz.f13 ∧ callable Tryz.prog 13 = true := ⟨Tryz.func13, by kernel_rfl⟩
theorem fk14 : Tryz.prog.funcs[14]? = some Tryz.f14 ∧ callable Tryz.prog 14 = true := ⟨Tryz.func14, by kernel_rfl⟩
theorem fk15 : Tryz.prog.funcs[15]? = some Tryz.f15 ∧ callable Tryz.prog 15 = true := ⟨Tryz.func15, by kernel_rfl⟩
theorem fk16 : Tryz.prog.funcs[16]? = some Tryz.f16 ∧ callable Tryz.prog 16 = true := ⟨Tryz.func16, by kernel_rfl⟩
theorem fk17 : Tryz.prog.funcs[17]? = some Tryz.f17 ∧ callable Tryz.prog 17 = true := ⟨Tryz.func17, by kernel_rfl⟩
theorem fk18 : Tryz.prog.funcs[18]? = some Tryz.f18 ∧ callable Tryz.prog 18 = true := ⟨Tryz.func18, by kernel_rfl⟩
theorem fk19 : Tryz.prog.funcs[19]? = some Tryz.f19 ∧ callable Tryz.prog 19 = true := ⟨Tryz.func19, by kernel_rfl⟩
theorem fk20 : Tryz.prog.funcs[20]? = some Tryz.f20 ∧ callable Tryz.prog 20 = true := ⟨Tryz.func20, by kernel_rfl⟩
theorem fk21 : Tryz.prog.funcs[21]? = some Tryz.f21 ∧ callable Tryz.prog 21 = true := ⟨Tryz.func21, by kernel_rfl⟩
theorem fk22 : Tryz.prog.funcs[22]? = some Tryz.f22 ∧ callable Tryz.prog 22 = true := ⟨Tryz.func22, by kernel_rfl⟩
theorem fk23 : Tryz.prog.funcs[23]? = some Tryz.f23 ∧ callable Tryz.prog 23 = true := ⟨Tryz.func23, by kernel_rfl⟩
theorem fk24 : Tryz.prog.funcs[24]? = some Tryz.f24 ∧ callable Tryz.prog 24 = true := ⟨Tryz.func24, by kernel_rfl⟩
theorem fk25 : Tryz.prog.funcs[25]? = some Tryz.f25 ∧ callable Tryz.prog 25 = true := ⟨Tryz.func25, by kernel_rfl⟩
theorem fk26 : Tryz.prog.funcs[26]? = some Tryz.f26 ∧ callable Tryz.prog 26 = true := ⟨Tryz.func26, by kernel_rfl⟩
theorem fk27 : Tryz.prog.funcs[27]? = some Tryz.f27 ∧ callable Tryz.prog 27 = true := ⟨Tryz.func27, by kernel_rfl⟩
theorem fk28 : Tryz.prog.funcs[28]? = some Tryz.f28 ∧ callable Tryz.prog 28 = true := ⟨Tryz.func28, by kernel_rfl⟩
theorem fk29 : Tryz.prog.funcs[29]? = some Tryz.f29 ∧ callable Tryz.prog 29 = true := ⟨Tryz.func29, by kernel_rfl⟩
theorem fk30 : Tryz.prog.funcs[30]? = some Tryz.f30 ∧ callable Tryz.prog 30 = true := ⟨Tryz.func30, by kernel_rfl⟩
theorem fk31 : Tryz.prog.funcs[31]? = some Tryz.f31 ∧ callable Tryz.prog 31 = true := ⟨Tryz.func31, by kernel_rfl⟩
theorem fk32 : Tryz.prog.funcs[32]? = some Tryz.f32 ∧ callable Tryz.prog 32 = true := ⟨Tryz.func32, by kernel_rfl⟩
theorem fk33 : Tryz.prog.funcs[33]? = some Tryz.f33 ∧ callable Tryz.prog 33 = true := ⟨Tryz.func33, by kernel_rfl⟩
theorem fk34 : Tryz.prog.funcs[34]? = some Tryz.f34 ∧ callable Tryz.prog 34 = true := ⟨Tryz.func34, by kernel_rfl⟩
theorem fk35 : Tryz.prog.funcs[35]? = some Tryz.f35 ∧ callable Tryz.prog 35 = true := ⟨Tryz.func35, by kernel_rfl⟩
theorem fk36 : Tryz.prog.funcs[36]? = some Tryz.f36 ∧ callable Tryz.prog 36 = true := ⟨Tryz.func36, by kernel_rfl⟩
theorem fk37 : Tryz.prog.funcs[37]? = some Tryz.f37 ∧ callable Tryz.prog 37 = true := ⟨Tryz.func37, by kernel_rfl⟩
theorem fk38 : Tryz.prog.funcs[38]? = some Tryz.f38 ∧ callable Tryz.prog 38 = true := ⟨Tryz.func38, by kernel_rfl⟩
theorem fk39 : Tryz.prog.funcs[39]? = some Tryz.f39 ∧ callable Tryz.prog 39 = true := ⟨Tryz.func39, by kernel_rfl⟩
theorem fk40 : Tryz.prog.funcs[40]? = some Tryz.f40 ∧ callable Tryz.prog 40 = true := ⟨Tryz.func40, by kernel_rfl⟩
theorem fk41 : Tryz.prog.funcs[41]? = some Tryz.f41 ∧ callable Tryz.prog 41 = true := ⟨Tryz.func41, by kernel_rfl⟩
theorem fk42 : Tryz.prog.funcs[42]? = some Tryz.f42 ∧ callable Tryz.prog 42 = true := ⟨Tryz.func42, by kernel_rfl⟩
theorem fk43 : Tryz.prog.funcs[43]? = some Tryz.f43 ∧ callable Tryz.prog 43 = true := ⟨Tryz.func43, by kernel_rfl⟩
theorem fk44 : Tryz.prog.funcs[44]? = some Tryz.f44 ∧ callable Tryz.prog 44 = true := ⟨Tryz.func44, by kernel_rfl⟩
theorem fk45 : Tryz.prog.funcs[45]? = some Tryz.f45 ∧ callable Tryz.prog 45 = true := ⟨Tryz.func45, by kernel_rfl⟩
theorem fk46 : Tryz.prog.funcs[46]? = some Tryz.f46 ∧ callable Tryz.prog 46 = true := ⟨Tryz.func46, by kernel_rfl⟩
theorem fk47 : Tryz.prog.funcs[47]? = some Tryz.f47 ∧ callable Tryz.prog 47 = true := ⟨Tryz.func47, by kernel_rfl⟩
theorem fk48 : Tryz.prog.funcs[48]? = some Tryz.f48 ∧ callable Tryz.prog 48 = true := ⟨Tryz.func48, by kernel_rfl⟩
theorem fk49 : Tryz.prog.funcs[49]? = some Tryz.f49 ∧ callable Tryz.prog 49 = true := ⟨Tryz.func49, by kernel_rfl⟩
theorem fk50 : Tryz.prog.funcs[50]? = some Tryz.f50 ∧ callable Tryz.prog 50 = true := ⟨Tryz.func50, by kernel_rfl⟩
theorem fk51 : Tryz.prog.funcs[51]? = some Tryz.f51 ∧ callable Tryz.prog 51 = true := ⟨Tryz.func51, by kernel_rfl⟩
theorem fk52 : Tryz.prog.funcs[52]? = some Tryz.f52 ∧ callable Tryz.prog 52 = true := ⟨Tryz.func52, by kernel_rfl⟩
theorem fk53 : Tryz.prog.funcs[53]? = some Tryz.f53 ∧ callable Tryz.prog 53 = true := ⟨Tryz.func53, by kernel_rfl⟩
theorem fk54 : Tryz.prog.funcs[54]? = some Tryz.f54 ∧ callable Tryz.prog 54 = true := ⟨Tryz.func54, by kernel_rfl⟩
theorem fk55 : Tryz.prog.funcs[55]? = some Tryz.f55 ∧ callable Tryz.prog 55 = true := ⟨Tryz.func55, by kernel_rfl⟩
theorem fk56 : Tryz.prog.funcs[56]? = some Tryz.f56 ∧ callable Tryz.prog 56 = true := ⟨Tryz.func56, by kernel_rfl⟩
theorem fk57 : Tryz.prog.funcs[57]? = some Tryz.f57 ∧ callable Tryz.prog 57 = true := ⟨Tryz.func57, by kernel_rfl⟩
theorem fk58 : Tryz.prog.funcs[58]? = some Tryz.f58 ∧ callable Tryz.prog 58 = true := ⟨Tryz.func58, by kernel_rfl⟩
theorem fk59 : Tryz.prog.funcs[59]? = some Tryz.f59 ∧ callable Tryz.prog 59 = true := ⟨Tryz.func59, by kernel_rfl⟩
theorem fk60 : Tryz.prog.funcs[60]? = some Tryz.f60 ∧ callable Tryz.prog 60 = true := ⟨Tryz.func60, by kernel_rfl⟩
theorem fk61 : Tryz.prog.funcs[61]? = some Tryz.f61 ∧ callable Tryz.prog 61 = true := ⟨Tryz.func61, by kernel_rfl⟩
theorem fk62 : Tryz.prog.funcs[62]? = some Tryz.f62 ∧ callable Tryz.prog 62 = true := ⟨Tryz.func62, by kernel_rfl⟩
theorem fk63 : Tryz.prog.funcs[63]? = some Tryz.f63 ∧ callable Tryz.prog 63 = true := ⟨Tryz.func63, by kernel_rfl⟩
theorem fk64 : Tryz.prog.funcs[64]? = some Tryz.f64 ∧ callable Tryz.prog 64 = true := ⟨Tryz.func64, by kernel_rfl⟩
theorem fk65 : Tryz.prog.funcs[65]? = some Tryz.f65 ∧ callable Tryz.prog 65 = true := ⟨Tryz.func65, by kernel_rfl⟩
theorem fk66 : Tryz.prog.funcs[66]? = some Tryz.f66 ∧ callable Tryz.prog 66 = true := ⟨Tryz.func66, by kernel_rfl⟩
theorem fk67 : Tryz.prog.funcs[67]? = some Tryz.f67 ∧ callable Tryz.prog 67 = true := ⟨Tryz.func67, by kernel_rfl⟩
theorem fk68 : Tryz.prog.funcs[68]? = some Tryz.f68 ∧ callable Tryz.prog 68 = true := ⟨Tryz.func68, by kernel_rfl⟩
theorem fk69 : Tryz.prog.funcs[69]? = some Tryz.f69 ∧ callable Tryz.prog 69 = true := ⟨Tryz.func69, by kernel_rfl⟩
theorem fk70 : Tryz.prog.funcs[70]? = some Tryz.f70 ∧ callable Tryz.prog 70 = true := ⟨Tryz.func70, by kernel_rfl⟩
theorem fk71 : Tryz.prog.funcs[71]? = some Tryz.f71 ∧ callable Tryz.prog 71 = true := ⟨Tryz.func71, by kernel_rfl⟩
theorem fk72 : Tryz.prog.funcs[72]? = some Tryz.f72 ∧ callable Tryz.prog 72 = true := ⟨Tryz.func72, by kernel_rfl⟩
theorem fk73 : Tryz.prog.funcs[73]? = some Tryz.f73 ∧ callable Tryz.prog 73 = true := ⟨Tryz.func73, by kernel_rfl⟩
theorem fk74 : Tryz.prog.funcs[74]? = some Tryz.f74 ∧ callable Tryz.prog 74 = true := ⟨Tryz.func74, by kernel_rfl⟩
theorem fk75 : Tryz.prog.funcs[75]? = some Tryz.f75 ∧ callable Tryz.prog 75 = true := ⟨Tryz.func75, by kernel_rfl⟩
theorem fk76 : Tryz.prog.funcs[76]? = some Tryz.f76 ∧ callable Tryz.prog 76 = true := ⟨Tryz.func76, by kernel_rfl⟩
theorem fk77 : Tryz.prog.funcs[77]? = some Tryz.f77 ∧ callable Tryz.prog 77 = true := ⟨Tryz.func77, by kernel_rfl⟩
theorem fk78 : Tryz.prog.funcs[78]? = some Tryz.f78 ∧ callable Tryz.prog 78 = true := ⟨Tryz.func78, by kernel_rfl⟩
theorem fk79 : Tryz.prog.funcs[79]? = some Tryz.f79 ∧ callable Tryz.prog 79 = true := ⟨Tryz.func79, by kernel_rfl⟩
theorem fk80 : Tryz.prog.funcs[80]? = some Tryz.f80 ∧ callable Tryz.prog 80 = true := ⟨Tryz.func80, by kernel_rfl⟩
theorem fk81 : Tryz.prog.funcs[81]? = some Tryz.f81 ∧ callable Tryz.prog 81 = true := ⟨Tryz.func81, by kernel_rfl⟩
theorem fk82 : Tryz.prog.funcs[82]? = some Tryz.f82 ∧ callable Tryz.prog 82 = true := ⟨Tryz.func82, by kernel_rfl⟩
theorem fk83 : Tryz.prog.funcs[83]? = some Tryz.f83 ∧ callable Tryz.prog 83 = true := ⟨Tryz.func83, by kernel_rfl⟩
theorem fk84 : Tryz.prog.funcs[84]? = some Tryz.f84 ∧ callable Tryz.prog 84 = true := ⟨Tryz.func84, by kernel_rfl⟩
theorem fk85 : Tryz.prog.funcs[85]? = some Tryz.f85 ∧ callable Tryz.prog 85 = true := ⟨Tryz.func85, by kernel_rfl⟩
theorem fk86 : Tryz.prog.funcs[86]? = some Tryz.f86 ∧ callable Tryz.prog 86 = true := ⟨Tryz.func86, by kernel_rfl⟩
theorem fk87 : Tryz.prog.funcs[87]? = some Tryz.f87 ∧ callable Tryz.prog 87 = true := ⟨Tryz.func87, by kernel_rfl⟩
theorem fk88 : Tryz.prog.funcs[88]? = some Tryz.f88 ∧ callable Tryz.prog 88 = true := ⟨Tryz.func88, by kernel_rfl⟩
theorem fk89 : Tryz.prog.funcs[89]? = some Tryz.f89 ∧ callable Tryz.prog 89 = true := ⟨Tryz.func89, by kernel_rfl⟩
theorem fk90 : Tryz.prog.funcs[90]? = some Tryz.f90 ∧ callable Tryz.prog 90 = true := ⟨Tryz.func90, by kernel_rfl⟩
theorem fk91 : Tryz.prog.funcs[91]? = some Tryz.f91 ∧ callable Tryz.prog 91 = true := ⟨Tryz.func91, by kernel_rfl⟩
theorem fk92 : Tryz.prog.funcs[92]? = some Tryz.f92 ∧ callable Tryz.prog 92 = true := ⟨Tryz.func92, by kernel_rfl⟩
theorem fk93 : Tryz.prog.funcs[93]? = some Tryz.f93 ∧ callable Tryz.prog 93 = true := ⟨Tryz.func93, by kernel_rfl⟩
theorem fk94 : Tryz.prog.funcs[94]? = some Tryz.f94 ∧ callable Tryz.prog 94 = true := ⟨Tryz.func94, by kernel_rfl⟩
theorem fk95 : Tryz.prog.funcs[95]? = some Tryz.f95 ∧ callable Tryz.prog 95 = true := ⟨Tryz.func95, by kernel_rfl⟩
theorem fk96 : Tryz.prog.funcs[96]? = some Tryz.f96 ∧ callable Tryz.prog 96 = true := ⟨Tryz.func96, by kernel_rfl⟩
theorem fk97 : Tryz.prog.funcs[97]? = some Tryz.f97 ∧ callable Tryz.prog 97 = true := ⟨Tryz.func97, by kernel_rfl⟩
theorem fk98 : Tryz.prog.funcs[98]? = some Tryz.f98 ∧ callable Tryz.prog 98 = true := ⟨Tryz.func98, by kernel_rfl⟩
theorem fk99 : Tryz.prog.funcs[99]? = some Tryz.f99 ∧ callable Tryz.prog 99 = true := ⟨Tryz.func99, by kernel_rfl⟩
theorem fk100 : Tryz.prog.funcs[100]? = some Tryz.f100 ∧ callable Tryz.prog 100 = true := ⟨Tryz.func100, by kernel_rfl⟩
theorem fk101 : Tryz.prog.funcs[101]? = some Tryz.f101 ∧ callable Tryz.prog 101 = true := ⟨Tryz.func101, by kernel_rfl⟩
theorem fk102 : Tryz.prog.funcs[102]? = some Tryz.f102 ∧ callable Tryz.prog 102 = true := ⟨Tryz.func102, by kernel_rfl⟩
theorem fk103 : Tryz.prog.funcs[103]? = some Tryz.f103 ∧ callable Tryz.prog 103 = true := ⟨Tryz.func103, by kernel_rfl⟩
theorem fk104 : Tryz.prog.funcs[104]? = some Tryz.f104 ∧ callable Tryz.prog 104 = true := ⟨Tryz.func104, by kernel_rfl⟩
theorem fk105 : Tryz.prog.funcs[105]? = some Tryz.f105 ∧ callable Tryz.prog 105 = true := ⟨Tryz.func105, by kernel_rfl⟩
theorem fk106 : Tryz.prog.funcs[106]? = some Tryz.f106 ∧ callable Tryz.prog 106 = true := ⟨Tryz.func106, by kernel_rfl⟩
theorem fk107 : Tryz.prog.funcs[107]? = some Tryz.f107 ∧ callable Tryz.prog 107 = true := ⟨Tryz.func107, by kernel_rfl⟩
theorem fk108 : Tryz.prog.funcs[108]? = some Tryz.f108 ∧ callable Tryz.prog 108 = true := ⟨Tryz.func108, by kernel_rfl⟩
theorem fk109 : Tryz.prog.funcs[109]? = some Tryz.f109 ∧ callable Tryz.prog 109 = true := ⟨Tryz.func109, by kernel_rfl⟩
theorem fk110 : Tryz.prog.funcs[110]? = some Tryz.f110 ∧ callable Tryz.prog 110 = true := ⟨Tryz.func110, by kernel_rfl⟩
theorem fk111 : Tryz.prog.funcs[111]? = some Tryz.f111 ∧ callable Tryz.prog 111 = true := ⟨Tryz.func111, by kernel_rfl⟩
theorem fk112 : Tryz.prog.funcs[112]? = some Tryz.f112 ∧ callable Tryz.prog 112 = true := ⟨Tryz.func112, by kernel_rfl⟩
theorem fk113 : Tryz.prog.funcs[113]? = some Tryz.f113 ∧ callable Tryz.prog 113 = true := ⟨Tryz.func113, by kernel_rfl⟩
theorem fk114 : Tryz.prog.funcs[114]? = some Tryz.f114 ∧ callable Tryz.prog 114 = true := ⟨Tryz.func114, by kernel_rfl⟩
theorem fk115 : Tryz.prog.funcs[115]? = some Tryz.f115 ∧ callable Tryz.prog 115 = true := ⟨Tryz.func115, by kernel_rfl⟩
theorem fk116 : Tryz.prog.funcs[116]? = some Tryz.f116 ∧ callable Tryz.prog 116 = true := ⟨Tryz.func116, by kernel_rfl⟩
theorem fk117 : Tryz.prog.funcs[117]? = some Tryz.f117 ∧ callable Tryz.prog 117 = true := ⟨Tryz.func117, by kernel_rfl⟩
theorem fk118 : Tryz.prog.funcs[118]? = some Tryz.f118 ∧ callable Tryz.prog 118 = true := ⟨Tryz.func118, by kernel_rfl⟩
theorem fk119 : Tryz.prog.funcs[119]? = some Tryz.f119 ∧ callable Tryz.prog 119 = true := ⟨Tryz.func119, by kernel_rfl⟩
theorem fk120 : Tryz.prog.funcs[120]? = some Tryz.f120 ∧ callable Tryz.prog 120 = true := ⟨Tryz.func120, by kernel_rfl⟩
theorem fk121 : Tryz.prog.funcs[121]? = some Tryz.f121 ∧ callable Tryz.prog 121 = true := ⟨Tryz.func121, by kernel_rfl⟩
theorem fk122 : Tryz.prog.funcs[122]? = some Tryz.f122 ∧ callable Tryz.prog 122 = true := ⟨Tryz.func122, by kernel_rfl⟩
theorem fk123 : Tryz.prog.funcs[123]? = some Tryz.f123 ∧ callable Tryz.prog 123 = true := ⟨Tryz.func123, by kernel_rfl⟩
theorem fk124 : Tryz.prog.funcs[124]? = some Tryz.f124 ∧ callable Tryz.prog 124 = true := ⟨Tryz.func124, by kernel_rfl⟩
theorem fk125 : Tryz.prog.funcs[125]? = some Tryz.f125 ∧ callable Tryz.prog 125 = true := ⟨Tryz.func125, by kernel_rfl⟩
theorem fk126 : Tryz.prog.funcs[126]? = some Tryz.f126 ∧ callable Tryz.prog 126 = true := ⟨Tryz.func126, by kernel_rfl⟩
theorem fk127 : Tryz.prog.funcs[127]? = some Tryz.f127 ∧ callable Tryz.prog 127 = true := ⟨Tryz.func127, by kernel_rfl⟩
theorem fk128 : Tryz.prog.funcs[128]? = some Tryz.f128 ∧ callable Tryz.prog 128 = true := ⟨Tryz.func128, by kernel_rfl⟩
theorem fk129 : Tryz.prog.funcs[129]? = some Tryz.f129 ∧ callable Tryz.prog 129 = true := ⟨Tryz.func129, by kernel_rfl⟩
theorem fk130 : Tryz.prog.funcs[130]? = some Tryz.f130 ∧ callable Tryz.prog 130 = true := ⟨Tryz.func130, by kernel_rfl⟩
theorem fk131 : Tryz.prog.funcs[131]? = some Tryz.f131 ∧ callable Tryz.prog 131 = true := ⟨Tryz.func131, by kernel_rfl⟩
theorem fk132 : Tryz.prog.funcs[132]? = some Tryz.f132 ∧ callable Tryz.prog 132 = true := ⟨Tryz.func132, by kernel_rfl⟩
theorem fk133 : Tryz.prog.funcs[133]? = some Tryz.f133 ∧ callable Tryz.prog 133 = true := ⟨Tryz.func133, by kernel_rfl⟩
theorem fk134 : Tryz.prog.funcs[134]? = some Tryz.f134 ∧ callable Tryz.prog 134 = true := ⟨Tryz.func134, by kernel_rfl⟩
theorem fk135 : Tryz.prog.funcs[135]? = some Tryz.f135 ∧ callable Tryz.prog 135 = true := ⟨Tryz.func135, by kernel_rfl⟩
theorem fk136 : Tryz.prog.funcs[136]? = some Tryz.f136 ∧ callable Tryz.prog 136 = true := ⟨Tryz.func136, by kernel_rfl⟩
theorem fk137 : Tryz.prog.funcs[137]? = some Tryz.f137 ∧ callable Tryz.prog 137 = true := ⟨Tryz.func137, by kernel_rfl⟩
theorem fk138 : Tryz.prog.funcs[138]? = some Tryz.f138 ∧ callable Tryz.prog 138 = true := ⟨Tryz.func138, by kernel_rfl⟩
theorem fk139 : Tryz.prog.funcs[139]? = some Tryz.f139 ∧ callable Tryz.prog 139 = true := ⟨Tryz.func139, by kernel_rfl⟩
theorem fk140 : Tryz.prog.funcs[140]? = some Tryz.f140 ∧ callable Tryz.prog 140 = true := ⟨Tryz.func140, by kernel_rfl⟩
theorem fk141 : Tryz.prog.funcs[141]? = some Tryz.f141 ∧ callable Tryz.prog 141 = true := ⟨Tryz.func141, by kernel_rfl⟩
theorem fk142 : Tryz.prog.funcs[142]? = some Tryz.f142 ∧ callable Tryz.prog 142 = true := ⟨Tryz.func142, by kernel_rfl⟩
theorem fk143 : Tryz.prog.funcs[143]? = some Tryz.f143 ∧ callable Tryz.prog 143 = true := ⟨Tryz.func143, by kernel_rfl⟩
theorem fk144 : Tryz.prog.funcs[144]? = some Tryz.f144 ∧ callable Tryz.prog 144 = true := ⟨Tryz.func144, by kernel_rfl⟩
theorem fk145 : Tryz.prog.funcs[145]? = some Tryz.f145 ∧ callable Tryz.prog 145 = true := ⟨Tryz.func145, by kernel_rfl⟩
theorem fk146 : Tryz.prog.funcs[146]? = some Tryz.f146 ∧ callable Tryz.prog 146 = true := ⟨Tryz.func146, by kernel_rfl⟩
theorem fk147 : Tryz.prog.funcs[147]? = some Tryz.f147 ∧ callable Tryz.prog 147 = true := ⟨Tryz.func147, by kernel_rfl⟩
theorem fk148 : Tryz.prog.funcs[148]? = some Tryz.f148 ∧ callable Tryz.prog 148 = true := ⟨Tryz.func148, by kernel_rfl⟩
theorem fk149 : Tryz.prog.funcs[149]? = some Tryz.f149 ∧ callable Tryz.prog 149 = true := ⟨Tryz.func149, by kernel_rfl⟩
theorem fk150 : Tryz.prog.funcs[150]? = some Tryz.f150 ∧ callable Tryz.prog 150 = true := ⟨Tryz.func150, by kernel_rfl⟩
theorem fk151 : Tryz.prog.funcs[151]? = some Tryz.f151 ∧ callable Tryz.prog 151 = true := ⟨Tryz.func151, by kernel_rfl⟩
theorem fk152 : Tryz.prog.funcs[152]? = some Tryz.f152 ∧ callable Tryz.prog 152 = true := ⟨Tryz.func152, by kernel_rfl⟩
theorem fk153 : Tryz.prog.funcs[153]? = some Tryz.f153 ∧ callable Tryz.prog 153 = true := ⟨Tryz.func153, by kernel_rfl⟩
theorem fk154 : Tryz.prog.funcs[154]? = some Tryz.f154 ∧ callable Tryz.prog 154 = true := ⟨Tryz.func154, by kernel_rfl⟩
theorem fk155 : Tryz.prog.funcs[155]? = some Tryz.f155 ∧ callable Tryz.prog 155 = true := ⟨Tryz.func155, by kernel_rfl⟩
theorem fk156 : Tryz.prog.funcs[156]? = some Tryz.f156 ∧ callable Tryz.prog 156 = true := ⟨Tryz.func156, by kernel_rfl⟩
theorem fk157 : Tryz.prog.funcs[157]? = some Tryz.f157 ∧ callable Tryz.prog 157 = true := ⟨Tryz.func157, by kernel_rfl⟩
theorem fk158 : Tryz.prog.funcs[158]? = some Tryz.f158 ∧ callable Tryz.prog 158 = true := ⟨Tryz.func158, by kernel_rfl⟩
theorem fk159 : Tryz.prog.funcs[159]? = some Tryz.f159 ∧ callable Tryz.prog 159 = true := ⟨Tryz.func159, by kernel_rfl⟩
theorem fk160 : Tryz.prog.funcs[160]? = some Tryz.f160 ∧ callable Tryz.prog 160 = true := ⟨Tryz.func160, by kernel_rfl⟩
theorem fk161 : Tryz.prog.funcs[161]? = some Tryz.f161 ∧ callable Tryz.prog 161 = true := ⟨Tryz.func161, by kernel_rfl⟩
theorem fk162 : Tryz.prog.funcs[162]? = some Tryz.f162 ∧ callable Tryz.prog 162 = true := ⟨Tryz.func162, by kernel_rfl⟩
theorem fk163 : Tryz.prog.funcs[163]? = some Tryz.f163 ∧ callable Tryz.prog 163 = true := ⟨Tryz.func163, by kernel_rfl⟩
theorem fk164 : Tryz.prog.funcs[164]? = some Tryz.f164 ∧ callable Tryz.prog 164 = true := ⟨Tryz.func164, by kernel_rfl⟩
theorem fk165 : Tryz.prog.funcs[165]? = some Tryz.f165 ∧ callable Tryz.prog 165 = true := ⟨Tryz.func165, by kernel_rfl⟩
theorem fk166 : Tryz.prog.funcs[166]? = some Tryz.f166 ∧ callable Tryz.prog 166 = true := ⟨Tryz.func166, by kernel_rfl⟩
theorem fk167 : Tryz.prog.funcs[167]? = some Tryz.f167 ∧ callable Tryz.prog 167 = true := ⟨Tryz.func167, by kernel_rfl⟩
theorem fk168 : Tryz.prog.funcs[168]? = some Tryz.f168 ∧ callable Tryz.prog 168 = true := ⟨Tryz.func168, by kernel_rfl⟩
theorem fk169 : Tryz.prog.funcs[169]? = some Tryz.f169 ∧ callable Tryz.prog 169 = true := ⟨Tryz.func169, by kernel_rfl⟩
theorem fk170 : Tryz.prog.funcs[170]? = some Tryz.f170 ∧ callable Tryz.prog 170 = true := ⟨Tryz.func170, by kernel_rfl⟩
theorem fk171 : Tryz.prog.funcs[171]? = some Tryz.f171 ∧ callable Tryz.prog 171 = true := ⟨Tryz.func171, by kernel_rfl⟩
theorem fk172 : Tryz.prog.funcs[172]? = some Tryz.f172 ∧ callable Tryz.prog 172 = true := ⟨Tryz.func172, by kernel_rfl⟩
theorem fk173 : Tryz.prog.funcs[173]? = some Tryz.f173 ∧ callable Tryz.prog 173 = true := ⟨Tryz.func173, by kernel_rfl⟩
theorem fk174 : Tryz.prog.funcs[174]? = some Tryz.f174 ∧ callable Tryz.prog 174 = true := ⟨Tryz.func174, by kernel_rfl⟩
theorem fk175 : Tryz.prog.funcs[175]? = some Tryz.f175 ∧ callable Tryz.prog 175 = true := ⟨Tryz.func175, by kernel_rfl⟩
theorem fk176 : Tryz.prog.funcs[176]? = some Tryz.f176 ∧ callable Tryz.prog 176 = true := ⟨Tryz.func176, by kernel_rfl⟩
theorem fk177 : Tryz.prog.funcs[177]? = some Tryz.f177 ∧ callable Tryz.prog 177 = true := ⟨Tryz.func177, by kernel_rfl⟩
theorem fk178 : Tryz.prog.funcs[178]? = some Tryz.f178 ∧ callable Tryz.prog 178 = true := ⟨Tryz.func178, by kernel_rfl⟩
theorem fk179 : Tryz.prog.funcs[179]? = some Tryz.f179 ∧ callable Tryz.prog 179 = true := ⟨Tryz.func179, by kernel_rfl⟩
theorem fk180 : Tryz.prog.funcs[180]? = some Tryz.f180 ∧ callable Tryz.prog 180 = true := ⟨Tryz.func180, by kernel_rfl⟩
theorem fk181 : Tryz.prog.funcs[181]? = some Tryz.f181 ∧ callable Tryz.prog 181 = true := ⟨Tryz.func181, by kernel_rfl⟩
theorem fk182 : Tryz.prog.funcs[182]? = some Tryz.f182 ∧ callable Tryz.prog 182 = true := ⟨Tryz.func182, by kernel_rfl⟩
theorem fk183 : Tryz.prog.funcs[183]? = some Tryz.f183 ∧ callable Tryz.prog 183 = true := ⟨Tryz.func183, by kernel_rfl⟩
theorem fk184 : Tryz.prog.funcs[184]? = some Tryz.f184 ∧ callable Tryz.prog 184 = true := ⟨Tryz.func184, by kernel_rfl⟩
theorem fk185 : Tryz.prog.funcs[185]? = some Tryz.f185 ∧ callable Tryz.prog 185 = true := ⟨Tryz.func185, by kernel_rfl⟩
theorem fk186 : Tryz.prog.funcs[186]? = some Tryz.f186 ∧ callable Tryz.prog 186 = true := ⟨Tryz.func186, by kernel_rfl⟩
theorem fk187 : Tryz.prog.funcs[187]? = some Tryz.f187 ∧ callable Tryz.prog 187 = true := ⟨Tryz.func187, by kernel_rfl⟩
theorem fk188 : Tryz.prog.funcs[188]? = some Tryz.f188 ∧ callable Tryz.prog 188 = true := ⟨Tryz.func188, by kernel_rfl⟩
theorem fk189 : Tryz.prog.funcs[189]? = some Tryz.f189 ∧ callable Tryz.prog 189 = true := ⟨Tryz.func189, by kernel_rfl⟩
theorem fk190 : Tryz.prog.funcs[190]? = some Tryz.f190 ∧ callable Tryz.prog 190 = true := ⟨Tryz.func190, by kernel_rfl⟩
theorem fk192 : Tryz.prog.funcs[192]? = some Tryz.f192 ∧ callable Tryz.prog 192 = true := ⟨Tryz.func192, by kernel_rfl⟩
theorem fk193 : Tryz.prog.funcs[193]? = some Tryz.f193 ∧ callable Tryz.prog 193 = true := ⟨Tryz.func193, by kernel_rfl⟩
theorem fk194 : Tryz.prog.funcs[194]? = some Tryz.f194 ∧ callable Tryz.prog 194 = true := ⟨Tryz.func194, by kernel_rfl⟩
theorem fk195 : Tryz.prog.funcs[195]? = some Tryz.f195 ∧ callable Tryz.prog 195 = true := ⟨Tryz.func195, by kernel_rfl⟩
theorem fk196 : Tryz.prog.funcs[196]? = some Tryz.f196 ∧ callable Tryz.prog 196 = true := ⟨Tryz.func196, by kernel_rfl⟩
theorem fk197 : Tryz.prog.funcs[197]? = some Tryz.f197 ∧ callable Tryz.prog 197 = true := ⟨Tryz.func197, by kernel_rfl⟩
theorem fk198 : Tryz.prog.funcs[198]? = some Tryz.f198 ∧ callable Tryz.prog 198 = true := ⟨Tryz.func198, by kernel_rfl⟩
theorem fk199 : Tryz.prog.funcs[199]? = some Tryz.f199 ∧ callable Tryz.prog 199 = true := ⟨Tryz.func199, by kernel_rfl⟩
theorem fk200 : Tryz.prog.funcs[200]? = some Tryz.f200 ∧ callable Tryz.prog 200 = true := ⟨Tryz.func200, by kernel_rfl⟩
theorem fk201 : Tryz.prog.funcs[201]? = some Tryz.f201 ∧ callable Tryz.prog 201 = true := ⟨Tryz.func201, by kernel_rfl⟩
theorem fk202 : Tryz.prog.funcs[202]? = some Tryz.f202 ∧ callable Tryz.prog 202 = true := ⟨Tryz.func202, by kernel_rfl⟩
theorem fk203 : Tryz.prog.funcs[203]? = some Tryz.f203 ∧ callable Tryz.prog 203 = true := ⟨Tryz.func203, by kernel_rfl⟩
theorem fk204 : Tryz.prog.funcs[204]? = some Tryz.f204 ∧ callable Tryz.prog 204 = true := ⟨Tryz.func204, by kernel_rfl⟩
theorem fk205 : Tryz.prog.funcs[205]? = some Tryz.f205 ∧ callable Tryz.prog 205 = true := ⟨Tryz.func205, by kernel_rfl⟩
theorem fk206 : Tryz.prog.funcs[206]? = some Tryz.f206 ∧ callable Tryz.prog 206 = true := ⟨Tryz.func206, by kernel_rfl⟩
theorem fk207 : Tryz.prog.funcs[207]? = some Tryz.f207 ∧ callable Tryz.prog 207 = true := ⟨Tryz.func207, by kernel_rfl⟩
theorem fk208 : Tryz.prog.funcs[208]? = some Tryz.f208 ∧ callable Tryz.prog 208 = true := ⟨Tryz.func208, by kernel_rfl⟩
theorem fk209 : Tryz.prog.funcs[209]? = some Tryz.f209 ∧ callable Tryz.prog 209 = true := ⟨Tryz.func209, by kernel_rfl⟩
theorem fk210 : Tryz.prog.funcs[210]? = some Tryz.f210 ∧ callable Tryz.prog 210 = true := ⟨Tryz.func210, by kernel_rfl⟩
theorem fk211 : Tryz.prog.funcs[211]? = some Tryz.f211 ∧ callable Tryz.prog 211 = true := ⟨Tryz.func211, by kernel_rfl⟩
theorem fk212 : Tryz.prog.funcs[212]? = some Tryz.f212 ∧ callable Tryz.prog 212 = true := ⟨Tryz.func212, by kernel_rfl⟩
theorem fk213 : Tryz.prog.funcs[213]? = some Tryz.f213 ∧ callable Tryz.prog 213 = true := ⟨Tryz.func213, by kernel_rfl⟩
theorem fk214 : Tryz.prog.funcs[214]? = some Tryz.f214 ∧ callable Tryz.prog 214 = true := ⟨Tryz.func214, by kernel_rfl⟩
theorem fk215 : Tryz.prog.funcs[215]? = some Tryz.f215 ∧ callable Tryz.prog 215 = true := ⟨Tryz.func215, by kernel_rfl⟩
theorem fk216 : Tryz.prog.funcs[216]? = some Tryz.f216 ∧ callable Tryz.prog 216 = true := ⟨Tryz.func216, by kernel_rfl⟩
theorem fk217 : Tryz.prog.funcs[217]? = some Tryz.f217 ∧ callable Tryz.prog 217 = true := ⟨Tryz.func217, by kernel_rfl⟩
theorem fk218 : Tryz.prog.funcs[218]? = some Tryz.f218 ∧ callable Tryz.prog 218 = true := ⟨Tryz.func218, by kernel_rfl⟩
theorem fk219 : Tryz.prog.funcs[219]? = some Tryz.f219 ∧ callable Tryz.prog 219 = true := ⟨Tryz.func219, by kernel_rfl⟩
theorem fk220 : Tryz.prog.funcs[220]? = some Tryz.f220 ∧ callable Tryz.prog 220 = true := ⟨Tryz.func220, by kernel_rfl⟩
theorem fk221 : Tryz.prog.funcs[221]? = some Tryz.f221 ∧ callable Tryz.prog 221 = true := ⟨Tryz.func221, by kernel_rfl⟩
theorem fk222 : Tryz.prog.funcs[222]? = some Tryz.f222 ∧ callable Tryz.prog 222 = true := ⟨Tryz.func222, by kernel_rfl⟩
theorem fk223 : Tryz.prog.funcs[223]? = some Tryz.f223 ∧ callable Tryz.prog 223 = true := ⟨Tryz.func223, by kernel_rfl⟩
theorem fk224 : Tryz.prog.funcs[224]? = some Tryz.f224 ∧ callable Tryz.prog 224 = true := ⟨Tryz.func224, by kernel_rfl⟩
theorem fk225 : Tryz.prog.funcs[225]? = some Tryz.f225 ∧ callable Tryz.prog 225 = true := ⟨Tryz.func225, by kernel_rfl⟩
theorem fk226 : Tryz.prog.funcs[226]? = some Tryz.f226 ∧ callable Tryz.prog 226 = true := ⟨Tryz.func226, by kernel_rfl⟩
theorem fk227 : Tryz.prog.funcs[227]? = some Tryz.f227 ∧ callable Tryz.prog 227 = true := ⟨Tryz.func227, by kernel_rfl⟩
theorem fk228 : Tryz.prog.funcs[228]? = some Tryz.f228 ∧ callable Tryz.prog 228 = true := ⟨Tryz.func228, by kernel_rfl⟩
theorem fk229 : Tryz.prog.funcs[229]? = some Tryz.f229 ∧ callable Tryz.prog 229 = true := ⟨Tryz.func229, by kernel_rfl⟩
theorem fk230 : Tryz.prog.funcs[230]? = some Tryz.f230 ∧ callable Tryz.prog 230 = true := ⟨Tryz.func230, by kernel_rfl⟩
theorem fk231 : Tryz.prog.funcs[231]? = some Tryz.f231 ∧ callable Tryz.prog 231 = true := ⟨Tryz.func231, by kernel_rfl⟩
theorem fk232 : Tryz.prog.funcs[232]? = some Tryz.f232 ∧ callable Tryz.prog 232 = true := ⟨Tryz.func232, by kernel_rfl⟩
theorem fk233 : Tryz.prog.funcs[233]? = some Tryz.f233 ∧ callable Tryz.prog 233 = true := ⟨Tryz.func233, by kernel_rfl⟩
theorem fk234 : Tryz.prog.funcs[234]? = some Tryz.f234 ∧ callable Tryz.prog 234 = true := ⟨Tryz.func234, by kernel_rfl⟩
theorem fk235 : Tryz.prog.funcs[235]? = some Tryz.f235 ∧ callable Tryz.prog 235 = true := ⟨Tryz.func235, by kernel_rfl⟩
theorem fk236 : Tryz.prog.funcs[236]? = some Tryz.f236 ∧ callable Tryz.prog 236 = true := ⟨Tryz.func236, by kernel_rfl⟩
theorem fk237 : Tryz.prog.funcs[237]? = some Tryz.f237 ∧ callable Tryz.prog 237 = true := ⟨Tryz.func237, by kernel_rfl⟩
theorem fk238 : Tryz.prog.funcs[238]? = some Tryz.f238 ∧ callable Tryz.prog 238 = true := ⟨Tryz.func238, by kernel_rfl⟩
theorem fk239 : Tryz.prog.funcs[239]? = some Tryz.f239 ∧ callable Tryz.prog 239 = true := ⟨Tryz.func239, by kernel_rfl⟩
theorem fk240 : Tryz.prog.funcs[240]? = some Tryz.f240 ∧ callable Tryz.prog 240 = true := ⟨Tryz.func240, by kernel_rfl⟩
theorem fk241 : Tryz.prog.funcs[241]? = some Tryz.f241 ∧ callable Tryz.prog 241 = true := ⟨Tryz.func241, by kernel_rfl⟩
theorem fk242 : Tryz.prog.funcs[242]? = some Tryz.f242 ∧ callable Tryz.prog 242 = true := ⟨Tryz.func242, by kernel_rfl⟩
theorem fk243 : Tryz.prog.funcs[243]? = some Tryz.f243 ∧ callable Tryz.prog 243 = true := ⟨Tryz.func243, by kernel_rfl⟩
theorem fk244 : Tryz.prog.funcs[244]? = some Tryz.f244 ∧ callable Tryz.prog 244 = true := ⟨Tryz.func244, by kernel_rfl⟩
theorem fk245 : Tryz.prog.funcs[245]? = some Tryz.f245 ∧ callable Tryz.prog 245 = true := ⟨Tryz.func245, by kernel_rfl⟩
theorem fk246 : Tryz.prog.funcs[246]? = some Tryz.f246 ∧ callable Tryz.prog 246 = true := ⟨Tryz.func246, by kernel_rfl⟩
theorem fk247 : Tryz.prog.funcs[247]? = some Tryz.f247 ∧ callable Tryz.prog 247 = true := ⟨Tryz.func247, by kernel_rfl⟩
theorem fk248 : Tryz.prog.funcs[248]? = some Tryz.f248 ∧ callable Tryz.prog 248 = true := ⟨Tryz.func248, by kernel_rfl⟩
theorem fk249 : Tryz.prog.funcs[249]? = some Tryz.f249 ∧ callable Tryz.prog 249 = true := ⟨Tryz.func249, by kernel_rfl⟩
theorem fk250 : Tryz.prog.funcs[250]? = some Tryz.f250 ∧ callable Tryz.prog 250 = true := ⟨Tryz.func250, by kernel_rfl⟩
theorem fk251 : Tryz.prog.funcs[251]? = some Tryz.f251 ∧ callable Tryz.prog 251 = true := ⟨Tryz.func251, by kernel_rfl⟩
theorem fk252 : Tryz.prog.funcs[252]? = some Tryz.f252 ∧ callable Tryz.prog 252 = true := ⟨Tryz.func252, by kernel_rfl⟩
theorem fk253 : Tryz.prog.funcs[253]? = some Tryz.f253 ∧ callable Tryz.prog 253 = true := ⟨Tryz.func253, by kernel_rfl⟩
theorem fk254 : Tryz.prog.funcs[254]? = some Tryz.f254 ∧ callable Tryz.prog 254 = true := ⟨Tryz.func254, by kernel_rfl⟩
theorem fk255 : Tryz.prog.funcs[255]? = some Tryz.f255 ∧ callable Tryz.prog 255 = true := ⟨Tryz.func255, by kernel_rfl⟩
theorem fk256 : Tryz.prog.funcs[256]? = some Tryz.f256 ∧ callable Tryz.prog 256 = true := ⟨Tryz.func256, by kernel_rfl⟩
theorem fk257 : Tryz.prog.funcs[257]? = some Tryz.f257 ∧ callable Tryz.prog 257 = true := ⟨Tryz.func257, by kernel_rfl⟩
theorem fk258 : Tryz.prog.funcs[258]? = some Tryz.f258 ∧ callable Tryz.prog 258 = true := ⟨Tryz.func258, by kernel_rfl⟩
theorem fk259 : Tryz.prog.funcs[259]? = some Tryz.f259 ∧ callable Tryz.prog 259 = true := ⟨Tryz.func259, by kernel_rfl⟩
theorem fk260 : Tryz.prog.funcs[260]? = some Tryz.f260 ∧ callable Tryz.prog 260 = true := ⟨Tryz.func260, by kernel_rfl⟩
theorem fk261 : Tryz.prog.funcs[261]? = some Tryz.f261 ∧ callable Tryz.prog 261 = true := ⟨Tryz.func261, by kernel_rfl⟩
theorem fk262 : Tryz.prog.funcs[262]? = some Tryz.f262 ∧ callable Tryz.prog 262 = true := ⟨Tryz.func262, by kernel_rfl⟩
theorem fk263 : Tryz.prog.funcs[263]? = some Tryz.f263 ∧ callable Tryz.prog 263 = true := ⟨Tryz.func263, by kernel_rfl⟩
theorem fk264 : Tryz.prog.funcs[264]? = some Tryz.f264 ∧ callable Tryz.prog 264 = true := ⟨Tryz.func264, by kernel_rfl⟩
theorem fk265 : Tryz.prog.funcs[265]? = some Tryz.f265 ∧ callable Tryz.prog 265 = true := ⟨Tryz.func265, by kernel_rfl⟩
theorem fk266 : Tryz.prog.funcs[266]? = some Tryz.f266 ∧ callable Tryz.prog 266 = true := ⟨Tryz.func266, by kernel_rfl⟩
theorem fk267 : Tryz.prog.funcs[267]? = some Tryz.f267 ∧ callable Tryz.prog 267 = true := ⟨Tryz.func267, by kernel_rfl⟩
theorem fk268 : Tryz.prog.funcs[268]? = some Tryz.f268 ∧ callable Tryz.prog 268 = true := ⟨Tryz.func268, by kernel_rfl⟩
theorem fk269 : Tryz.prog.funcs[269]? = some Tryz.f269 ∧ callable Tryz.prog 269 = true := ⟨Tryz.func269, by kernel_rfl⟩
theorem fk270 : Tryz.prog.funcs[270]? = some Tryz.f270 ∧ callable Tryz.prog 270 = true := ⟨Tryz.func270, by kernel_rfl⟩
theorem fk271 : Tryz.prog.funcs[271]? = some Tryz.f271 ∧ callable Tryz.prog 271 = true := ⟨Tryz.func271, by kernel_rfl⟩
theorem fk272 : Tryz.prog.funcs[272]? = some Tryz.f272 ∧ callable Tryz.prog 272 = true := ⟨Tryz.func272, by kernel_rfl⟩
theorem fk273 : Tryz.prog.funcs[273]? = some Tryz.f273 ∧ callable Tryz.prog 273 = true := ⟨Tryz.func273, by kernel_rfl⟩
theorem fk274 : Tryz.prog.funcs[274]? = some Tryz.f274 ∧ callable Tryz.prog 274 = true := ⟨Tryz.func274, by kernel_rfl⟩
theorem fk275 : Tryz.prog.funcs[275]? = some Tryz.f275 ∧ callable Tryz.prog 275 = true := ⟨Tryz.func275, by kernel_rfl⟩
theorem fk276 : Tryz.prog.funcs[276]? = some Tryz.f276 ∧ callable Tryz.prog 276 = true := ⟨Tryz.func276, by kernel_rfl⟩
theorem fk277 : Tryz.prog.funcs[277]? = some Tryz.f277 ∧ callable Tryz.prog 277 = true := ⟨Tryz.func277, by kernel_rfl⟩
theorem fk278 : Tryz.prog.funcs[278]? = some Tryz.f278 ∧ callable Tryz.prog 278 = true := ⟨Tryz.func278, by kernel_rfl⟩
theorem fk279 : Tryz.prog.funcs[279]? = some Tryz.f279 ∧ callable Tryz.prog 279 = true := ⟨Tryz.func279, by kernel_rfl⟩
theorem fk280 : Tryz.prog.funcs[280]? = some Tryz.f280 ∧ callable Tryz.prog 280 = true := ⟨Tryz.func280, by kernel_rfl⟩
theorem fk281 : Tryz.prog.funcs[281]? = some Tryz.f281 ∧ callable Tryz.prog 281 = true := ⟨Tryz.func281, by kernel_rfl⟩
theorem fk282 : Tryz.prog.funcs[282]? = some Tryz.f282 ∧ callable Tryz.prog 282 = true := ⟨Tryz.func282, by kernel_rfl⟩
theorem fk283 : Tryz.prog.funcs[283]? = some Tryz.f283 ∧ callable Tryz.prog 283 = true := ⟨Tryz.func283, by kernel_rfl⟩
theorem fk284 : Tryz.prog.funcs[284]? = some Tryz.f284 ∧ callable Tryz.prog 284 = true := ⟨Tryz.func284, by kernel_rfl⟩
theorem fk285 : Tryz.prog.funcs[285]? = some Tryz.f285 ∧ callable Tryz.prog 285 = true := ⟨Tryz.func285, by kernel_rfl⟩
theorem fk286 : Tryz.prog.funcs[286]? = some Tryz.f286 ∧ callable Tryz.prog 286 = true := ⟨Tryz.func286, by kernel_rfl⟩
theorem fk287 : Tryz.prog.funcs[287]? = some Tryz.f287 ∧ callable Tryz.prog 287 = true := ⟨Tryz.func287, by kernel_rfl⟩
theorem fk288 : Tryz.prog.funcs[288]? = some Tryz.f288 ∧ callable Tryz.prog 288 = true := ⟨Tryz.func288, by kernel_rfl⟩
theorem fk289 : Tryz.prog.funcs[289]? = some Tryz.f289 ∧ callable Tryz.prog 289 = true := ⟨Tryz.func289, by kernel_rfl⟩
theorem fk290 : Tryz.prog.funcs[290]? = some Tryz.f290 ∧ callable Tryz.prog 290 = true := ⟨Tryz.func290, by kernel_rfl⟩
theorem fk291 : Tryz.prog.funcs[291]? = some Tryz.f291 ∧ callable Tryz.prog 291 = true := ⟨Tryz.func291, by kernel_rfl⟩
theorem fk292 : Tryz.prog.funcs[292]? = some Tryz.f292 ∧ callable Tryz.prog 292 = true := ⟨Tryz.func292, by kernel_rfl⟩
theorem fk293 : Tryz.prog.funcs[293]? = some Tryz.f293 ∧ callable Tryz.prog 293 = true := ⟨Tryz.func293, by kernel_rfl⟩
theorem fk294 : Tryz.prog.funcs[294]? = some Tryz.f294 ∧ callable Tryz.prog 294 = true := ⟨Tryz.func294, by kernel_rfl⟩
theorem fk295 : Tryz.prog.funcs[295]? = some Tryz.f295 ∧ callable Tryz.prog 295 = true := ⟨Tryz.func295, by kernel_rfl⟩
theorem fk296 : Tryz.prog.funcs[296]? = some Tryz.f296 ∧ callable Tryz.prog 296 = true := ⟨Tryz.func296, by kernel_rfl⟩
theorem fk297 : Tryz.prog.funcs[297]? = some Tryz.f297 ∧ callable Tryz.prog 297 = true := ⟨Tryz.func297, by kernel_rfl⟩
theorem fk298 : Tryz.prog.funcs[298]? = some Tryz.f298 ∧ callable Tryz.prog 298 = true := ⟨Tryz.func298, by kernel_rfl⟩
theorem fk299 : Tryz.prog.funcs[299]? = some Tryz.f299 ∧ callable Tryz.prog 299 = true := ⟨Tryz.func299, by kernel_rfl⟩
theorem fk300 : Tryz.prog.funcs[300]? = some Tryz.f300 ∧ callable Tryz.prog 300 = true := ⟨Tryz.func300, by kernel_rfl⟩
theorem fk301 : Tryz.prog.funcs[301]? = some Tryz.f301 ∧ callable Tryz.prog 301 = true := ⟨Tryz.func301, by kernel_rfl⟩
theorem fk302 : Tryz.prog.funcs[302]? = some Tryz.f302 ∧ callable Tryz.prog 302 = true := ⟨Tryz.func302, by kernel_rfl⟩
theorem fk303 : Tryz.prog.funcs[303]? = some Tryz.f303 ∧ callable Tryz.prog 303 = true := ⟨Tryz.func303, by kernel_rfl⟩
theorem fk304 : Tryz.prog.funcs[304]? = some Tryz.f304 ∧ callable Tryz.prog 304 = true := ⟨Tryz.func304, by kernel_rfl⟩
theorem fk305 : Tryz.prog.funcs[305]? = some Tryz.f305 ∧ callable Tryz.prog 305 = true := ⟨Tryz.func305, by kernel_rfl⟩
theorem fk306 : Tryz.prog.funcs[306]? = some Tryz.f306 ∧ callable Tryz.prog 306 = true := ⟨Tryz.func306, by kernel_rfl⟩
theorem fk307 : Tryz.prog.funcs[307]? = some Tryz.f307 ∧ callable Tryz.prog 307 = true := ⟨Tryz.func307, by kernel_rfl⟩
theorem fk308 : Tryz.prog.funcs[308]? = some Tryz.f308 ∧ callable Tryz.prog 308 = true := ⟨Tryz.func308, by kernel_rfl⟩
theorem fk309 : Tryz.prog.funcs[309]? = some Tryz.f309 ∧ callable Tryz.prog 309 = true := ⟨Tryz.func309, by kernel_rfl⟩
theorem fk310 : Tryz.prog.funcs[310]? = some Tryz.f310 ∧ callable Tryz.prog 310 = true := ⟨Tryz.func310, by kernel_rfl⟩
theorem fk311 : Tryz.prog.funcs[311]? = some Tryz.f311 ∧ callable Tryz.prog 311 = true := ⟨Tryz.func311, by kernel_rfl⟩
theorem fk312 : Tryz.prog.funcs[312]? = some Tryz.f312 ∧ callable Tryz.prog 312 = true := ⟨Tryz.func312, by kernel_rfl⟩
theorem fk313 : Tryz.prog.funcs[313]? = some Tryz.f313 ∧ callable Tryz.prog 313 = true := ⟨Tryz.func313, by kernel_rfl⟩
theorem fk314 : Tryz.prog.funcs[314]? = some Tryz.f314 ∧ callable Tryz.prog 314 = true := ⟨Tryz.func314, by kernel_rfl⟩
theorem fk315 : Tryz.prog.funcs[315]? = some Tryz.f315 ∧ callable Tryz.prog 315 = true := ⟨Tryz.func315, by kernel_rfl⟩
theorem ae73 : AeOk Tryz.prog 73 2 := aeOk2 Tryz.underlying73 (by kernel_rfl) (by kernel_rfl) (by decide) (by decide) rfl rfl (by kernel_rfl) (by kernel_rfl)
theorem ae74 : AeOk Tryz.prog 74 2 := aeOk2 Tryz.underlying74 (by kernel_rfl) (by kernel_rfl) (by decide) (by decide) rfl rfl (by kernel_rfl) (by kernel_rfl)
theorem ae136 : AeOk Tryz.prog 136 2 := aeOk2 Tryz.underlying136 (by kernel_rfl) (by kernel_rfl) (by decide) (by decide) rfl rfl (by kernel_rfl) (by kernel_rfl)
theorem ae137 : AeOk Tryz.prog 137 2 := aeOk2 Tryz.underlying137 (by kernel_rfl) (by kernel_rfl) (by decide) (by decide) rfl rfl (by kernel_rfl) (by kernel_rfl)
theorem ae177 : AeOk Tryz.prog 177 2 := aeOk2 Tryz.underlying177 (by kernel_rfl) (by kernel_rfl) (by decide) (by decide) rfl rfl (by kernel_rfl) (by kernel_rfl)
theorem ae178 : AeOk Tryz.prog 178 2 := aeOk2 Tryz.underlying178 (by kernel_rfl) (by kernel_rfl) (by decide) (by decide) rfl rfl (by kernel_rfl) (by kernel_rfl)
theorem ae202 : AeOk Tryz.prog 202 2 := aeOk2 Tryz.underlying202 (by kernel_rfl) (by kernel_rfl) (by decide) (by decide) rfl rfl (by kernel_rfl) (by kernel_rfl)
theorem ae203 : AeOk Tryz.prog 203 2 := aeOk2 Tryz.underlying203 (by kernel_rfl) (by kernel_rfl) (by decide) (by decide) rfl rfl (by kernel_rfl) (by kernel_rfl)
theorem tbOk : TbOk Tryz.prog tb :=
  ⟨⟨ty0, ty1, ty2, ty3, ty4, ty5, ty6, ty7, ty8, ty9, ty10, ty11, ty12, ty13, ty14, ty15, ty16, ty17, ty18, ty19, ty20, ty21, ty22, ty23, ty24, ty25, ty26, ty27, ty28, ty29, ty30, ty31, ty32, ty33, ty34, ty35, ty36, ty37, ty38, ty39, ty40, ty41, ty42, ty43, ty44, ty45, ty46, ty47, ty48, ty49, ty50, ty51, ty52, ty53, ty54, ty55, ty56, ty57, ty58, ty59, ty60, ty61, ty62, ty63, ty64, ty65, ty66, ty67, ty68, ty69, ty70, ty71, ty72, ty73, ty74, ty75, ty76, ty77, ty78, ty79, ty80, ty81, ty82, ty83, ty84, ty85, ty86, ty87, ty88, ty89, ty90, ty91, ty92, ty93, ty94, ty95, ty96, ty97, ty98, ty99, ty100, ty101, ty102, ty103, ty104, ty105, ty106, ty107, ty108, ty109, ty110, ty111, ty112, ty113, ty114, ty115, ty116, ty117, ty118, ty119, ty120, ty121, ty122, ty123, ty124, ty125, ty126, ty127, ty128, ty129, ty130, ty131, ty132, ty133, ty134, ty135, ty136, ty137, ty138, ty139, ty140, ty141, ty142, ty143, ty144, ty145, ty146, ty147, ty148, ty149, ty150, ty151, ty152, ty153, ty154, ty155, ty156, ty157, ty158, ty159, ty160, ty161, ty162, ty163, ty164, ty165, ty166, ty167, ty168, ty169, ty170, ty171, ty172, ty173, ty174, ty175, ty176, ty177, ty178, ty179, ty180, ty181, ty182, ty183, ty184, ty185, ty186, ty187, ty188, ty189, ty190, ty191, ty192, ty193, ty194, ty195, ty196, ty197, ty198, ty199, ty200, ty201, ty202, ty203, ty204, ty205, ty206, ty207, ty208, ty209, ty210, ty211, ty212, ty213, ty214, ty215, ty216, ty217, ty218, ty219, ty220, ty221, ty222, ty223, ty224, ty225, ty226, ty227, ty228, ty229, ty230, ty231, ty232, ty233, ty234, ty235, ty236, ty237, ty238, ty239, ty240, ty241, ty242, ty243, ty244, ty245, ty246, ty247, ty248, ty249, ty250, ty251, ty252, ty253, ty254, ty255, ty256, ty257, ty258, ty259, ty260, ty261, ty262, ty263, ty264, ty265, ty266, ty267, ty268, ty269, ty270, ty271, ty272, ty273, ty274, ty275, ty276, ty277, ty278, ty279, ty280, ty281, ty282, ty283, ty284, ty285, ty286, ty287, ty288, ty289, ty290, ty291, ty292, ty293, ty294, ty295, ty296, ty297, ty298, ty299, ty300, ty301, ty302, ty303, ty304, ty305, ty306, trivial⟩,
  ⟨ik2, ik3, ik5, ik6, ik12, ik21, ik41, ik157, ik213, ik220, ik222, ik249, ik298, ik299, ik302, ik303, trivial⟩,
  ⟨fk2, fk3, fk4, fk5, fk6, fk7, fk8, fk9, fk10, fk11, fk12, fk13, fk14, fk15, fk16, fk17, fk18, fk19, fk20, fk21, fk22, fk23, fk24, fk25, fk26, fk27, fk28, fk29, fk30, fk31, fk32, fk33, fk34, fk35, fk36, fk37, fk38, fk39, fk40, fk41, fk42, fk43, fk44, fk45, fk46, fk47, fk48, fk49, fk50, fk51, fk52, fk53, fk54, fk55, fk56, fk57, fk58, fk59, fk60, fk61, fk62, fk63, fk64, fk65, fk66, fk67, fk68, fk69, fk70, fk71, fk72, fk73, fk74, fk75, fk76, fk77, fk78, fk79, fk80, fk81, fk82, fk83, fk84, fk85, fk86, fk87, fk88, fk89, fk90, fk91, fk92, fk93, fk94, fk95, fk96, fk97, fk98, fk99, fk100, fk101, fk102, fk103, fk104, fk105, fk106, fk107, fk108, fk109, fk110, fk111, fk112, fk113, fk114, fk115, fk116, fk117, fk118, fk119, fk120, fk121, fk122, fk123, fk124, fk125, fk126, fk127, fk128, fk129, fk130, fk131, fk132, fk133, fk134, fk135, fk136, fk137, fk138, fk139, fk140, fk141, fk142, fk143, fk144, fk145, fk146, fk147, fk148, fk149, fk150, fk151, fk152, fk153, fk154, fk155, fk156, fk157, fk158, fk159, fk160, fk161, fk162, fk163, fk164, fk165, fk166, fk167, fk168, fk169, fk170, fk171, fk172, fk173, fk174, fk175, fk176, fk177, fk178, fk179, fk180, fk181, fk182, fk183, fk184, fk185, fk186, fk187, fk188, fk189, fk190, fk192, fk193, fk194, fk195, fk196, fk197, fk198, fk199, fk200, fk201, fk202, fk203, fk204, fk205, fk206, fk207, fk208, fk209, fk210, fk211, fk212, fk213, fk214, fk215, fk216, fk217, fk218, fk219, fk220, fk221, fk222, fk223, fk224, fk225, fk226, fk227, fk228, fk229, fk230, fk231, fk232, fk233, fk234, fk235, fk236, fk237, fk238, fk239, fk240, fk241, fk242, fk243, fk244, fk245, fk246, fk247, fk248, fk249, fk250, fk251, fk252, fk253, fk254, fk255, fk256, fk257, fk258, fk259, fk260, fk261, fk262, fk263, fk264, fk265, fk266, fk267, fk268, fk269, fk270, fk271, fk272, fk273, fk274, fk275, fk276, fk277, fk278, fk279, fk280, fk281, fk282, fk283, fk284, fk285, fk286, fk287, fk288, fk289, fk290, fk291, fk292, fk293, fk294, fk295, fk296, fk297, fk298, fk299, fk300, fk301, fk302, fk303, fk304, fk305, fk306, fk307, fk308, fk309, fk310, fk311, fk312, fk313, fk314, fk315, trivial⟩,
  ⟨ae73, ae74, ae136, ae137, ae177, ae178, ae202, ae203, trivial⟩, orcsOk, ⟨⟨_, _, Tryz.underlying126, keyOk_s Tryz.underlying9, by kernel_rfl⟩, ⟨_, _, Tryz.underlying197, keyOk_g3 Tryz.underlying190 (by kernel_rfl) (by kernel_rfl) (by kernel_rfl) (by decide) (by decide) (by decide) rfl rfl rfl (by kernel_rfl), by kernel_rfl⟩, ⟨_, _, Tryz.underlying255, keyOk_s Tryz.underlying9, by kernel_rfl⟩, trivial⟩, ⟨bl4, trivial⟩, by kernel_rfl⟩
end Go.Proofs.YtfjfllpcflddmaaGreat
