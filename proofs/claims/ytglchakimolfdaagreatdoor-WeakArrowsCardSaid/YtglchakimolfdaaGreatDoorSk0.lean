/- The system of the sanity checks: a silent step before an event. The runner's tables for this seat. A function run at objects that come in, with a slice of numbers for its answer. -/
import Derived.Test.YtglchakimolfdaaGreatDoorG36
import Derived.Test.YtglchakimolfdaaGreatDoorMK
import Derived.Test.YtglchakimolfdaaGreatDoorTy
import Derived.Test.YtglchakimolfdaaGreatDoorMM
import Derived.Test.YtglchakimolfdaaGreatDoorMF
namespace Go.Proofs.YtglchakimolfdaaGreatDoor
set_option linter.unusedVariables false
set_option linter.unusedSimpArgs false
open Go.RowKit

def sK : List (List Ar) := [[(0, 1)], [(2, 2)], []]
def sQ : List (List Ar) := [[(2, 1)], []]
theorem sK_val : valB sK = true := by kernel_rfl
theorem sK_adj : ∀ v w, w ∈ Adj true sK v → v = 0 ∧ w = 1
 | 0, w, h => by have e : Adj true sK 0 = [1] := rfl; rw [e] at h; simp at h; omega
 | 1, w, h => by have e : Adj true sK 1 = [] := rfl; rw [e] at h; simp at h
 | 2, w, h => by have e : Adj true sK 2 = [] := rfl; rw [e] at h; simp at h
 | n + 3, w, h => by have e : Adj true sK (n + 3) = [] := rfl; rw [e] at h; simp at h
theorem sK_rc {v u : Nat} (h : Rc (Adj true sK) v u) : u = v ∨ (v = 0 ∧ u = 1) := by
 induction h with
 | refl => exact .inl rfl
 | tail _ h2 ih => have := sK_adj _ _ h2; omega
theorem sK_dv (s : Nat) : ¬ Dv sK s := by
 rintro ⟨g, _, w, hw, hr⟩
 have := sK_adj _ _ hw
 have := sK_rc hr
 omega
theorem sK_B : DvL sK [false, false, false] := by
 refine ⟨rfl, fun s hs => ⟨fun h => ?_, fun h => absurd h (sK_dv s)⟩⟩
 match s, hs with
 | 0, _ => simp at h
 | 1, _ => simp at h
 | 2, _ => simp at h
theorem sK_q : (canonR (qR sK [0, 0, 1] [false, false, false])).1 = sQ := by kernel_rfl
set_option maxRecDepth 100000
noncomputable def tbTy : List (Nat × Ty) := [(0, ⟨1, 0, false, [.tuple { toList := [] }], 0, 0, []⟩),
 (1, ⟨1, 8, false, [.nilFunc], 0, 0, []⟩),
 (2, ⟨1, 8, false, [.int .i64 0], 5, 0, []⟩),
 (3, ⟨1, 8, false, [.int .i64 0], 5, 0, []⟩),
 (4, ⟨1, 1, false, [.bool false], 0, 0, []⟩),
 (5, ⟨1, 1, false, [.int .u8 0], 5, 0, []⟩),
 (6, ⟨1, 1, false, [.int .u8 0], 5, 0, []⟩),
 (7, ⟨4, 24, true, [.int .i64 0, .int .i64 0, .bool false, .int .u8 0], 2, 0, [(0, 1, false), (1, 1, false), (2, 1, false), (3, 1, false)]⟩),
 (8, ⟨4, 24, true, [.int .i64 0, .int .i64 0, .bool false, .int .u8 0], 2, 0, [(0, 1, false), (1, 1, false), (2, 1, false), (3, 1, false)]⟩),
 (9, ⟨1, 16, false, [.string { data := { toList := [] } }], 4, 0, []⟩),
 (20, ⟨1, 16, false, [.nilIface], 0, 0, []⟩),
 (22, ⟨1, 24, false, [.slice none 0 0], 1, 3, []⟩),
 (23, ⟨1, 24, false, [.slice none 0 0], 1, 45, []⟩),
 (25, ⟨1, 24, true, [.slice none 0 0], 2, 0, [(0, 1, false)]⟩),
 (29, ⟨1, 8, false, [.nilFunc], 0, 0, []⟩),
 (30, ⟨1, 8, false, [.nilFunc], 0, 0, []⟩),
 (31, ⟨1, 8, false, [.nilFunc], 0, 0, []⟩),
 (32, ⟨1, 8, false, [.nilFunc], 0, 0, []⟩),
 (40, ⟨1, 8, false, [.nilFunc], 0, 0, []⟩),
 (41, ⟨1, 8, false, [.nilFunc], 0, 0, []⟩),
 (42, ⟨1, 8, false, [.nilFunc], 0, 0, []⟩),
 (44, ⟨2, 16, true, [.int .i64 0, .int .i64 0], 2, 0, [(0, 1, false), (1, 1, false)]⟩),
 (45, ⟨1, 24, false, [.slice none 0 0], 1, 44, []⟩),
 (46, ⟨1, 8, false, [.nilFunc], 0, 0, []⟩),
 (47, ⟨2, 32, true, [.slice none 0 0, .int .i64 0], 2, 0, [(0, 1, false), (1, 1, false)]⟩),
 (48, ⟨2, 32, true, [.slice none 0 0, .int .i64 0], 2, 0, [(0, 1, false), (1, 1, false)]⟩),
 (49, ⟨1, 8, false, [.nilFunc], 0, 0, []⟩),
 (50, ⟨1, 8, false, [.pointer none], 0, 0, []⟩),
 (51, ⟨1, 8, false, [.nilFunc], 0, 0, []⟩),
 (52, ⟨1, 8, false, [.nilFunc], 0, 0, []⟩),
 (53, ⟨1, 8, false, [.nilFunc], 0, 0, []⟩),
 (54, ⟨1, 8, false, [.int .i64 0], 5, 0, []⟩),
 (55, ⟨1, 0, false, [.tuple { toList := [.agg { toList := [.slice none 0 0] }, .int .i64 0] }], 0, 0, []⟩),
 (58, ⟨1, 8, false, [.nilFunc], 0, 0, []⟩),
 (61, ⟨1, 24, false, [.slice none 0 0], 1, 4, []⟩),
 (67, ⟨1, 24, false, [.slice none 0 0], 1, 25, []⟩),
 (68, ⟨1, 24, false, [.slice none 0 0], 1, 22, []⟩),
 (70, ⟨5, 120, true, [.slice none 0 0, .slice none 0 0, .slice none 0 0, .slice none 0 0, .slice none 0 0], 2, 0, [(0, 1, true), (1, 1, false), (2, 1, false), (3, 1, false), (4, 1, false)]⟩),
 (71, ⟨1, 8, false, [.nilFunc], 0, 0, []⟩),
 (73, ⟨1, 8, false, [.nilFunc], 0, 0, []⟩),
 (74, ⟨1, 24, false, [.slice none 0 0], 1, 9, []⟩),
 (75, ⟨1, 0, false, [.tuple { toList := [.slice none 0 0, .int .i64 0] }], 0, 0, []⟩),
 (76, ⟨1, 8, false, [.nilFunc], 0, 0, []⟩),
 (77, ⟨1, 8, false, [.pointer none], 0, 0, []⟩),
 (78, ⟨1, 8, false, [.nilFunc], 0, 0, []⟩),
 (79, ⟨1, 8, false, [.nilFunc], 0, 0, []⟩),
 (80, ⟨1, 8, false, [.nilFunc], 0, 0, []⟩),
 (81, ⟨1, 8, false, [.nilFunc], 0, 0, []⟩),
 (82, ⟨1, 8, false, [.nilFunc], 0, 0, []⟩),
 (83, ⟨1, 8, false, [.nilFunc], 0, 0, []⟩),
 (84, ⟨1, 8, false, [.nilFunc], 0, 0, []⟩),
 (97, ⟨1, 8, false, [.nilFunc], 0, 0, []⟩),
 (98, ⟨1, 8, false, [.nilFunc], 0, 0, []⟩),
 (99, ⟨1, 24, false, [.slice none 0 0], 1, 101, []⟩),
 (100, ⟨2, 16, true, [.int .i64 0, .int .i64 0], 2, 0, [(0, 1, false), (1, 1, false)]⟩),
 (101, ⟨2, 16, true, [.int .i64 0, .int .i64 0], 2, 0, [(0, 1, false), (1, 1, false)]⟩),
 (102, ⟨1, 8, false, [.pointer none], 0, 0, []⟩),
 (103, ⟨1, 8, false, [.nilFunc], 0, 0, []⟩),
 (104, ⟨1, 8, false, [.nilFunc], 0, 0, []⟩),
 (105, ⟨1, 8, false, [.nilFunc], 0, 0, []⟩),
 (106, ⟨1, 8, false, [.nilFunc], 0, 0, []⟩),
 (107, ⟨1, 8, false, [.map none], 3, 3, []⟩),
 (108, ⟨1, 0, false, [.tuple { toList := [.int .i64 0, .bool false] }], 0, 0, []⟩),
 (109, ⟨1, 24, false, [.slice none 0 0], 1, 114, []⟩),
 (110, ⟨1, 24, false, [.slice none 0 0], 1, 117, []⟩),
 (111, ⟨2, 48, true, [.slice none 0 0, .slice none 0 0], 2, 0, [(0, 1, false), (1, 1, false)]⟩),
 (112, ⟨2, 48, true, [.slice none 0 0, .slice none 0 0], 2, 0, [(0, 1, false), (1, 1, false)]⟩),
 (114, ⟨1, 24, false, [.slice none 0 0], 1, 135, []⟩),
 (115, ⟨1, 8, false, [.nilFunc], 0, 0, []⟩),
 (116, ⟨1, 8, false, [.nilFunc], 0, 0, []⟩),
 (117, ⟨1, 8, false, [.map none], 3, 114, []⟩),
 (118, ⟨1, 8, false, [.nilFunc], 0, 0, []⟩),
 (119, ⟨1, 8, false, [.nilFunc], 0, 0, []⟩),
 (120, ⟨1, 8, false, [.nilFunc], 0, 0, []⟩),
 (121, ⟨1, 8, false, [.nilFunc], 0, 0, []⟩),
 (122, ⟨1, 8, false, [.nilFunc], 0, 0, []⟩),
 (123, ⟨1, 8, false, [.nilFunc], 0, 0, []⟩),
 (124, ⟨1, 8, false, [.pointer none], 0, 0, []⟩),
 (125, ⟨1, 8, false, [.nilFunc], 0, 0, []⟩),
 (126, ⟨1, 8, false, [.nilFunc], 0, 0, []⟩),
 (127, ⟨1, 8, false, [.nilFunc], 0, 0, []⟩),
 (128, ⟨1, 8, false, [.nilFunc], 0, 0, []⟩),
 (130, ⟨1, 24, false, [.slice none 0 0], 1, 5, []⟩),
 (131, ⟨1, 8, false, [.int .u64 0], 5, 0, []⟩),
 (133, ⟨1, 0, false, [.tuple { toList := [.int .u64 0, .int .u64 0] }], 0, 0, []⟩),
 (135, ⟨1, 8, false, [.int .u64 0], 5, 0, []⟩),
 (145, ⟨1, 4, false, [.int .u32 0], 5, 0, []⟩),
 (146, ⟨1, 0, false, [.tuple { toList := [.int .u32 0, .int .u32 0] }], 0, 0, []⟩),
 (147, ⟨1, 8, false, [.nilFunc], 0, 0, []⟩),
 (148, ⟨1, 0, false, [.tuple { toList := [.int .u64 0, .int .u64 0] }], 0, 0, []⟩),
 (149, ⟨1, 8, false, [.nilFunc], 0, 0, []⟩),
 (151, ⟨1, 8, false, [.nilFunc], 0, 0, []⟩),
 (152, ⟨1, 8, false, [.int .i64 0], 5, 0, []⟩),
 (153, ⟨1, 0, false, [.tuple { toList := [.int .i64 0, .int .i64 0] }], 0, 0, []⟩),
 (158, ⟨1, 8, false, [.nilFunc], 0, 0, []⟩),
 (172, ⟨1, 8, false, [.int .u64 0], 5, 0, []⟩),
 (176, ⟨1, 8, false, [.pointer none], 0, 0, []⟩),
 (182, ⟨1, 8, false, [.pointer none], 0, 0, []⟩),
 (183, ⟨1, 0, false, [.tuple { toList := [.int .i64 0, .int .i64 0] }], 0, 0, []⟩)]
noncomputable def tbIk : List (Nat × IntKind) := [(2, .i64), (3, .i64), (5, .u8), (6, .u8), (54, .i64), (131, .u64), (135, .u64), (145, .u32), (152, .i64), (172, .u64)]
noncomputable def tbFn : List (Nat × Func) := [(13, Tryz.f13), (29, Tryz.f29), (30, Tryz.f30), (31, Tryz.f31), (47, Tryz.f47), (48, Tryz.f48), (49, Tryz.f49), (50, Tryz.f50), (51, Tryz.f51), (52, Tryz.f52), (53, Tryz.f53), (54, Tryz.f54), (55, Tryz.f55), (71, Tryz.f71), (73, Tryz.f73), (74, Tryz.f74), (75, Tryz.f75), (76, Tryz.f76), (77, Tryz.f77), (78, Tryz.f78), (79, Tryz.f79), (80, Tryz.f80), (81, Tryz.f81), (82, Tryz.f82), (83, Tryz.f83), (84, Tryz.f84), (103, Tryz.f103), (104, Tryz.f104), (105, Tryz.f105), (106, Tryz.f106), (107, Tryz.f107), (108, Tryz.f108), (116, Tryz.f116), (117, Tryz.f117), (118, Tryz.f118), (119, Tryz.f119), (120, Tryz.f120), (121, Tryz.f121), (122, Tryz.f122), (123, Tryz.f123), (124, Tryz.f124), (125, Tryz.f125), (126, Tryz.f126), (127, Tryz.f127), (128, Tryz.f128), (147, Tryz.f147), (148, Tryz.f148), (149, Tryz.f149), (150, Tryz.f150), (151, Tryz.f151), (158, Tryz.f158)]
noncomputable def tbAe : List (Nat × Nat) := [(44, 2), (100, 2), (101, 2)]
def tbBl : List (Nat × Bool) := [(4, true)]
theorem bl4 : Tryz.prog.underlying 4 = some .bool := by kernel_rfl
def tbMp : List (Nat × (Ks × Value)) := [(107, (.ks, .int .i64 0)), (117, (.ki, .slice none 0 0))]
noncomputable def tb : Tb := ⟨tbTy, tbIk, tbFn, tbAe, orcs, tbMp, tbBl⟩
theorem ik2 : Tryz.prog.underlying 2 = some (.int .i64) := by kernel_rfl
theorem ik3 : Tryz.prog.underlying 3 = some (.int .i64) := by kernel_rfl
theorem ik5 : Tryz.prog.underlying 5 = some (.int .u8) := by kernel_rfl
theorem ik6 : Tryz.prog.underlying 6 = some (.int .u8) := by kernel_rfl
theorem ik54 : Tryz.prog.underlying 54 = some (.int .i64) := by kernel_rfl
theorem ik131 : Tryz.prog.underlying 131 = some (.int .u64) := by kernel_rfl
theorem ik135 : Tryz.prog.underlying 135 = some (.int .u64) := by kernel_rfl
theorem ik145 : Tryz.prog.underlying 145 = some (.int .u32) := by kernel_rfl
theorem ik152 : Tryz.prog.underlying 152 = some (.int .i64) := by kernel_rfl
theorem ik172 : Tryz.prog.underlying 172 = some (.int .u64) := by kernel_rfl
def fkS (i : Nat) (f : Func) : Prop := Tryz.prog.funcs[i]? = some f ∧ callable Tryz.prog i = true
theorem fk13 : fkS 13 Tryz.f13 := ⟨Tryz.func13, by kernel_rfl⟩
theorem fk29 : fkS 29 Tryz.f29 := ⟨Tryz.func29, by kernel_rfl⟩
theorem fk30 : fkS 30 Tryz.f30 := ⟨Tryz.func30, by kernel_rfl⟩
theorem fk31 : fkS 31 Tryz.f31 := ⟨Tryz.func31, by kernel_rfl⟩
theorem fk47 : fkS 47 Tryz.f47 := ⟨Tryz.func47, by kernel_rfl⟩
theorem fk48 : fkS 48 Tryz.f48 := ⟨Tryz.func48, by kernel_rfl⟩
theorem fk49 : fkS 49 Tryz.f49 := ⟨Tryz.func49, by kernel_rfl⟩
theorem fk50 : fkS 50 Tryz.f50 := ⟨Tryz.func50, by kernel_rfl⟩
theorem fk51 : fkS 51 Tryz.f51 := ⟨Tryz.func51, by kernel_rfl⟩
theorem fk52 : fkS 52 Tryz.f52 := ⟨Tryz.func52, by kernel_rfl⟩
theorem fk53 : fkS 53 Tryz.f53 := ⟨Tryz.func53, by kernel_rfl⟩
theorem fk54 : fkS 54 Tryz.f54 := ⟨Tryz.func54, by kernel_rfl⟩
theorem fk55 : fkS 55 Tryz.f55 := ⟨Tryz.func55, by kernel_rfl⟩
theorem fk71 : fkS 71 Tryz.f71 := ⟨Tryz.func71, by kernel_rfl⟩
theorem fk73 : fkS 73 Tryz.f73 := ⟨Tryz.func73, by kernel_rfl⟩
theorem fk74 : fkS 74 Tryz.f74 := ⟨Tryz.func74, by kernel_rfl⟩
theorem fk75 : fkS 75 Tryz.f75 := ⟨Tryz.func75, by kernel_rfl⟩
theorem fk76 : fkS 76 Tryz.f76 := ⟨Tryz.func76, by kernel_rfl⟩
theorem fk77 : fkS 77 Tryz.f77 := ⟨Tryz.func77, by kernel_rfl⟩
theorem fk78 : fkS 78 Tryz.f78 := ⟨Tryz.func78, by kernel_rfl⟩
theorem fk79 : fkS 79 Tryz.f79 := ⟨Tryz.func79, by kernel_rfl⟩
theorem fk80 : fkS 80 Tryz.f80 := ⟨Tryz.func80, by kernel_rfl⟩
theorem fk81 : fkS 81 Tryz.f81 := ⟨Tryz.func81, by kernel_rfl⟩
theorem fk82 : fkS 82 Tryz.f82 := ⟨Tryz.func82, by kernel_rfl⟩
theorem fk83 : fkS 83 Tryz.f83 := ⟨Tryz.func83, by kernel_rfl⟩
theorem fk84 : fkS 84 Tryz.f84 := ⟨Tryz.func84, by kernel_rfl⟩
theorem fk103 : fkS 103 Tryz.f103 := ⟨Tryz.func103, by kernel_rfl⟩
theorem fk104 : fkS 104 Tryz.f104 := ⟨Tryz.func104, by kernel_rfl⟩
theorem fk105 : fkS 105 Tryz.f105 := ⟨Tryz.func105, by kernel_rfl⟩
theorem fk106 : fkS 106 Tryz.f106 := ⟨Tryz.func106, by kernel_rfl⟩
theorem fk107 : fkS 107 Tryz.f107 := ⟨Tryz.func107, by kernel_rfl⟩
theorem fk108 : fkS 108 Tryz.f108 := ⟨Tryz.func108, by kernel_rfl⟩
theorem fk116 : fkS 116 Tryz.f116 := ⟨Tryz.func116, by kernel_rfl⟩
theorem fk117 : fkS 117 Tryz.f117 := ⟨Tryz.func117, by kernel_rfl⟩
theorem fk118 : fkS 118 Tryz.f118 := ⟨Tryz.func118, by kernel_rfl⟩
theorem fk119 : fkS 119 Tryz.f119 := ⟨Tryz.func119, by kernel_rfl⟩
theorem fk120 : fkS 120 Tryz.f120 := ⟨Tryz.func120, by kernel_rfl⟩
theorem fk121 : fkS 121 Tryz.f121 := ⟨Tryz.func121, by kernel_rfl⟩
theorem fk122 : fkS 122 Tryz.f122 := ⟨Tryz.func122, by kernel_rfl⟩
theorem fk123 : fkS 123 Tryz.f123 := ⟨Tryz.func123, by kernel_rfl⟩
theorem fk124 : fkS 124 Tryz.f124 := ⟨Tryz.func124, by kernel_rfl⟩
theorem fk125 : fkS 125 Tryz.f125 := ⟨Tryz.func125, by kernel_rfl⟩
theorem fk126 : fkS 126 Tryz.f126 := ⟨Tryz.func126, by kernel_rfl⟩
theorem fk127 : fkS 127 Tryz.f127 := ⟨Tryz.func127, by kernel_rfl⟩
theorem fk128 : fkS 128 Tryz.f128 := ⟨Tryz.func128, by kernel_rfl⟩
theorem fk147 : fkS 147 Tryz.f147 := ⟨Tryz.func147, by kernel_rfl⟩
theorem fk148 : fkS 148 Tryz.f148 := ⟨Tryz.func148, by kernel_rfl⟩
theorem fk149 : fkS 149 Tryz.f149 := ⟨Tryz.func149, by kernel_rfl⟩
theorem fk150 : fkS 150 Tryz.f150 := ⟨Tryz.func150, by kernel_rfl⟩
theorem fk151 : fkS 151 Tryz.f151 := ⟨Tryz.func151, by kernel_rfl⟩
theorem fk158 : fkS 158 Tryz.f158 := ⟨Tryz.func158, by kernel_rfl⟩
theorem ae44 : AeOk Tryz.prog 44 2 := aeOk2 Tryz.underlying44 (by kernel_rfl) (by kernel_rfl) (by decide) (by decide) rfl rfl (by kernel_rfl) (by kernel_rfl)
theorem ae100 : AeOk Tryz.prog 100 2 := aeOk2 Tryz.underlying100 (by kernel_rfl) (by kernel_rfl) (by decide) (by decide) rfl rfl (by kernel_rfl) (by kernel_rfl)
theorem ae101 : AeOk Tryz.prog 101 2 := aeOk2 Tryz.underlying101 (by kernel_rfl) (by kernel_rfl) (by decide) (by decide) rfl rfl (by kernel_rfl) (by kernel_rfl)
theorem tbOk : TbOk Tryz.prog tb :=
 ⟨⟨ty0, ty1, ty2, ty3, ty4, ty5, ty6, ty7, ty8, ty9, ty20, ty22, ty23, ty25, ty29, ty30, ty31, ty32, ty40, ty41, ty42, ty44, ty45, ty46, ty47, ty48, ty49, ty50, ty51, ty52, ty53, ty54, ty55, ty58, ty61, ty67, ty68, ty70, ty71, ty73, ty74, ty75, ty76, ty77, ty78, ty79, ty80, ty81, ty82, ty83, ty84, ty97, ty98, ty99, ty100, ty101, ty102, ty103, ty104, ty105, ty106, ty107, ty108, ty109, ty110, ty111, ty112, ty114, ty115, ty116, ty117, ty118, ty119, ty120, ty121, ty122, ty123, ty124, ty125, ty126, ty127, ty128, ty130, ty131, ty133, ty135, ty145, ty146, ty147, ty148, ty149, ty151, ty152, ty153, ty158, ty172, ty176, ty182, ty183, trivial⟩,
 ⟨ik2, ik3, ik5, ik6, ik54, ik131, ik135, ik145, ik152, ik172, trivial⟩,
 ⟨fk13, fk29, fk30, fk31, fk47, fk48, fk49, fk50, fk51, fk52, fk53, fk54, fk55, fk71, fk73, fk74, fk75, fk76, fk77, fk78, fk79, fk80, fk81, fk82, fk83, fk84, fk103, fk104, fk105, fk106, fk107, fk108, fk116, fk117, fk118, fk119, fk120, fk121, fk122, fk123, fk124, fk125, fk126, fk127, fk128, fk147, fk148, fk149, fk150, fk151, fk158, trivial⟩,
 ⟨ae44, ae100, ae101, trivial⟩, orcsOk, ⟨⟨_, _, Tryz.underlying107, keyOk_s Tryz.underlying9, by kernel_rfl⟩, ⟨_, _, Tryz.underlying117, keyOk_i Tryz.underlying3, by kernel_rfl⟩, trivial⟩, ⟨bl4, trivial⟩, by kernel_rfl⟩
def eqIns (hp : Bt Ob) : List Ob → Nat → Bool
 | [], _ => true
 | o :: r, i => (match hp.get i with | some q => eqO q o | none => false) && eqIns hp r (i + 1)
def chkI (d : Nat) (ins : List Ob) (xs : List Int) (rs : RS) : Bool :=
 match rs.tm.get d with
 | some (.a (.c (.s id m))) => m.beq xs.length && (Nat.ble ins.length id && ((match rs.hp.get id with | some (.r ⟨_, k, true, cs⟩) => k.beq 1 && eqL eqC cs (cInts xs) | _ => false) && eqIns rs.hp ins 0))
 | _ => false
def runC (T : Tb) (n f : Nat) (args : List AV) (ins : List Ob) (xs : List Int) : Ans :=
 match asc T.fn f with
 | some fn => match fn.body, fn.results.toList with
  | some c, [.tmp d] => bif Nat.ble args.length fn.ntmps then bFrom ins 0 .e fun hp => rArgs args 0 .e fun tm => run T n f c ⟨tm, hp, ins.length, fn.ntmps, ins.length⟩ fun e rs =>
    bif (match e with | .ret => true | .normal => true | _ => false) && (rs.pin.beq ins.length && chkI d ins xs rs) then .ok else .bad [90] else .bad [93]
  | _, _ => .bad [94]
 | none => .bad [95]
theorem eqIns_ok {hp : Bt Ob} : ∀ {ins : List Ob} {i : Nat}, eqIns hp ins i = true → ∀ j o, ins[j]? = some o → hp.get (i + j) = some o
 | [], i, _, j, o, h => by simp at h
 | q :: r, i, h, j, o, hj => by
  simp only [eqIns, Bool.and_eq_true] at h
  obtain ⟨h1, h2⟩ := h
  cases j with
  | zero =>
   simp only [List.getElem?_cons_zero, Option.some.injEq] at hj
   subst hj
   split at h1
   ·rename_i y hy
    rw [Nat.add_zero, hy, eqO_ok _ _ h1]
   ·cases h1
  | succ j =>
   rw [List.getElem?_cons_succ] at hj
   have := eqIns_ok h2 j o hj
   rw [show i + (j + 1) = i + 1 + j by omega]
   exact this
section
variable {P : Program} {T : Tb}
theorem runC_ok (hT : TbOk P T) {n f : Nat} {args : List AV} {ins : List Ob} {xs : List Int} (hd : distinct (List.range ins.length) = true) (hfx : fixes ins.length (List.range ins.length) = true) (hren : ins.map (Ob.ren (List.range ins.length)) = ins) (hok : ins.all okOb = true)
  (h : runC T n f args ins xs = .ok) : FC P f args ins (fun r o => o = ins ∧ r = aInts xs) := by
 unfold runC at h
 split at h
 rotate_left
 ·cases h
 rename_i fn hf
 obtain ⟨hf, hcal⟩ := asc_all hT.fn hf
 split at h
 rotate_left
 ·cases h
 rename_i c d hb hres
 obtain ⟨hle, h⟩ := condB h
 simp only [Nat.ble_eq] at hle
 obtain ⟨hp', q1, q2, q3⟩ := bFrom_ok _ _ _ _ h
 have hget : ∀ i, ins[i]? = hp'.get i := fun i => by
  rw [q2]
  simp only [Nat.zero_le, if_true, Nat.sub_zero, Bt.get_e]
  cases ins[i]? <;> rfl
 obtain ⟨tm', h4, h5⟩ := rArgs_ok _ _ _ _ q1
 have hAW := run_ok hT n f c ⟨tm', hp', ins.length, fn.ntmps, ins.length⟩ _ h4 { tm := enum 0 args, hp := ins, n := fn.ntmps, pin := ins.length } ⟨fun d => by
  show look (enum 0 args) d = _
  rw [look_enum, h5]
  simp only [Nat.zero_le, if_true, Nat.sub_zero, Bt.get_e]
  cases args[d]? <;> rfl, hget, rfl, rfl, rfl, fun i o ho => by
   have e := hget i
   rw [ho] at e
   exact List.all_eq_true.1 hok o (List.mem_of_getElem? e)⟩
 refine fc_intro hf hb hle (aw_mono hAW ?_)
 rintro e st' ⟨rs', hR', hq⟩
 have fin : ∀ {e : Exit}, (e = .ret ∨ e = .normal) → (rs'.pin.beq ins.length && chkI d ins xs rs') = true → Ret P fn.results.toList ins.length (fun r o => o = ins ∧ r = aInts xs) e st' := by
  intro e he hc
  simp only [beqT, Bool.and_eq_true, decide_eq_true_eq] at hc
  obtain ⟨hpin, hc⟩ := hc
  unfold chkI at hc
  split at hc
  rotate_left
  ·cases hc
  rename_i id m hs
  simp only [beqT, Bool.and_eq_true, decide_eq_true_eq, Nat.ble_eq] at hc
  obtain ⟨hm, hid, hrow, hins⟩ := hc
  split at hrow
  rotate_left
  ·cases hrow
  rename_i e0 k cs hr
  simp only [beqT, Bool.and_eq_true, decide_eq_true_eq] at hrow
  obtain ⟨rfl, hcs⟩ := hrow
  have hcs := eqL_ok eqC_ok _ _ hcs
  subst hcs
  subst hm
  have hrow2 : st'.hp[id]? = some (.r ⟨e0, 1, true, cInts xs⟩) := (hR'.2.1 id).trans hr
  have hsd : st'.get d = .a (.c (.s id xs.length)) := by rw [hR'.1 d, hs]; rfl
  have hpn : st'.pin = ins.length := by rw [hR'.2.2.2.2.1, hpin]
  refine ret_le (le_frz (r := ⟨e0, 1, true, cInts xs⟩) id (tInts xs) hrow2 (fz_c xs) (show 0 < 1 by omega)) ?_
  refine ret_le (le_pick (List.range ins.length) hd (by show fixes st'.pin _ = true; rw [hpn]; exact hfx)) ?_
  change Ret P fn.results.toList ins.length _ e ((st'.frz id 1 (tInts xs)).pick (List.range ins.length))
  have hhp : ((st'.frz id 1 (tInts xs)).pick (List.range ins.length)).hp = ins := by
   refine Eq.trans (List.ext_getElem? fun i => ?_) hren
   simp only [ST.pick, ST.frz, List.getElem?_map]
   by_cases hi : i < ins.length
   ·rw [List.getElem?_range hi]
    have hii := eqIns_ok hins i ins[i] (List.getElem?_eq_getElem hi)
    rw [Nat.zero_add] at hii
    have h2 : st'.hp[i]? = some ins[i] := (hR'.2.1 i).trans hii
    simp only [Option.map_some]
    rw [List.getD_eq_getElem?_getD, List.getElem?_set_ne (by omega), h2, List.getElem?_eq_getElem hi]
    rfl
   ·rw [List.getElem?_eq_none (by simpa using hi), List.getElem?_eq_none (by simpa using hi)]
    rfl
  have hgd : ((st'.frz id 1 (tInts xs)).pick (List.range ins.length)).get d = .a (.c (.t 1 (tInts xs))) := by
   have e1 : (st'.frz id 1 (tInts xs)).get d = .a (.c (.t 1 (tInts xs))) := by
    have := look_map (AV.frz id 1 (tInts xs)) rfl st'.tm d
    show look (st'.tm.map fun p => (p.1, p.2.frz id 1 (tInts xs))) d = _
    rw [this]
    have h0 : look st'.tm d = .a (.c (.s id xs.length)) := hsd
    rw [h0]
    simp only [AV.frz, A0.frz, C.frz, if_true, Nat.mul_one, tInts_len, Nat.le_refl]
    rw [List.take_of_length_le (by rw [tInts_len]; exact Nat.le_refl _)]
   have := look_map (AV.ren (List.range ins.length)) rfl (st'.frz id 1 (tInts xs)).tm d
   show look ((st'.frz id 1 (tInts xs)).tm.map fun p => (p.1, p.2.ren (List.range ins.length))) d = _
   rw [this]
   have h0 : look (st'.frz id 1 (tInts xs)).tm d = .a (.c (.t 1 (tInts xs))) := e1
   rw [h0]
   rfl
  rw [hres]
  refine ret_mk he (by show st'.pin = _; exact hpn) ?_
  simp only [rtn, resA, resL, resV, hgd]
  exact ⟨⟨trivial, trivial⟩, hhp, rfl⟩
 cases e with
 | panic c => cases hq
 | ret => exact fin (.inl rfl) (condB hq).1
 | normal => exact fin (.inr rfl) (condB hq).1
 | _ => cases hq
end
end Go.Proofs.YtglchakimolfdaaGreatDoor
