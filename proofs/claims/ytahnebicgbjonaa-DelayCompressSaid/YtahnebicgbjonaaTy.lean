/- What the abstract machine knows of the types. -/
import Derived.Test.YtahnebicgbjonaaMA
import Derived.Test.YtahnebicgbjonaaProg
namespace Go.Proofs.Ytahnebicgbjonaa
theorem ty0 : tyOf Try.prog 0 = some ⟨1, 0, false, [.tuple { toList := [] }], 0, 0, []⟩ := by kernel_rfl
theorem ty1 : tyOf Try.prog 1 = some ⟨1, 8, false, [.nilFunc], 0, 0, []⟩ := by kernel_rfl
theorem ty2 : tyOf Try.prog 2 = some ⟨1, 8, false, [.int .i64 0], 5, 0, []⟩ := by kernel_rfl
theorem ty3 : tyOf Try.prog 3 = some ⟨1, 8, false, [.int .i64 0], 5, 0, []⟩ := by kernel_rfl
theorem ty4 : tyOf Try.prog 4 = some ⟨1, 1, false, [.bool false], 0, 0, []⟩ := by kernel_rfl
theorem ty5 : tyOf Try.prog 5 = some ⟨1, 1, false, [.int .u8 0], 5, 0, []⟩ := by kernel_rfl
theorem ty6 : tyOf Try.prog 6 = some ⟨1, 1, false, [.int .u8 0], 5, 0, []⟩ := by kernel_rfl
theorem ty7 : tyOf Try.prog 7 = some ⟨4, 24, true, [.int .i64 0, .int .i64 0, .bool false, .int .u8 0], 2, 0, [(0, 1, false), (1, 1, false), (2, 1, false), (3, 1, false)]⟩ := by kernel_rfl
theorem ty8 : tyOf Try.prog 8 = some ⟨4, 24, true, [.int .i64 0, .int .i64 0, .bool false, .int .u8 0], 2, 0, [(0, 1, false), (1, 1, false), (2, 1, false), (3, 1, false)]⟩ := by kernel_rfl
theorem ty9 : tyOf Try.prog 9 = some ⟨1, 16, false, [.string { data := { toList := [] } }], 4, 0, []⟩ := by kernel_rfl
theorem ty10 : tyOf Try.prog 10 = some ⟨1, 16, false, [.string { data := { toList := [] } }], 4, 0, []⟩ := by kernel_rfl
theorem ty11 : tyOf Try.prog 11 = some ⟨1, 16, false, [.string { data := { toList := [] } }], 4, 0, []⟩ := by kernel_rfl
theorem ty12 : tyOf Try.prog 12 = some ⟨1, 8, false, [.int .u64 0], 5, 0, []⟩ := by kernel_rfl
theorem ty13 : tyOf Try.prog 13 = some ⟨2, 24, true, [.string { data := { toList := [] } }, .int .u64 0], 2, 0, [(0, 1, false), (1, 1, false)]⟩ := by kernel_rfl
theorem ty14 : tyOf Try.prog 14 = some ⟨2, 24, true, [.string { data := { toList := [] } }, .int .u64 0], 2, 0, [(0, 1, false), (1, 1, false)]⟩ := by kernel_rfl
theorem ty15 : tyOf Try.prog 15 = some ⟨1, 8, false, [.pointer none], 0, 0, []⟩ := by kernel_rfl
theorem ty16 : tyOf Try.prog 16 = some ⟨1, 8, false, [.pointer none], 0, 0, []⟩ := by kernel_rfl
theorem ty17 : tyOf Try.prog 17 = some ⟨1, 8, false, [.pointer none], 0, 0, []⟩ := by kernel_rfl
theorem ty18 : tyOf Try.prog 18 = some ⟨1, 8, true, [.pointer none], 2, 0, [(0, 1, false)]⟩ := by kernel_rfl
theorem ty19 : tyOf Try.prog 19 = some ⟨1, 8, true, [.pointer none], 2, 0, [(0, 1, false)]⟩ := by kernel_rfl
theorem ty20 : tyOf Try.prog 20 = some ⟨1, 16, false, [.nilIface], 0, 0, []⟩ := by kernel_rfl
theorem ty21 : tyOf Try.prog 21 = some ⟨1, 4, false, [.int .i32 0], 5, 0, []⟩ := by kernel_rfl
theorem ty22 : tyOf Try.prog 22 = some ⟨1, 24, false, [.slice none 0 0], 1, 3, []⟩ := by kernel_rfl
theorem ty23 : tyOf Try.prog 23 = some ⟨1, 8, false, [.pointer none], 0, 0, []⟩ := by kernel_rfl
theorem ty24 : tyOf Try.prog 24 = some ⟨1, 8, false, [.nilFunc], 0, 0, []⟩ := by kernel_rfl
theorem ty25 : tyOf Try.prog 25 = some ⟨1, 24, false, [.slice none 0 0], 1, 38, []⟩ := by kernel_rfl
theorem ty26 : tyOf Try.prog 26 = some ⟨1, 24, true, [.slice none 0 0], 2, 0, [(0, 1, false)]⟩ := by kernel_rfl
theorem ty27 : tyOf Try.prog 27 = some ⟨1, 24, true, [.slice none 0 0], 2, 0, [(0, 1, false)]⟩ := by kernel_rfl
theorem ty28 : tyOf Try.prog 28 = some ⟨1, 8, false, [.nilFunc], 0, 0, []⟩ := by kernel_rfl
theorem ty29 : tyOf Try.prog 29 = some ⟨1, 8, false, [.int .i64 0], 5, 0, []⟩ := by kernel_rfl
theorem ty30 : tyOf Try.prog 30 = some ⟨1, 0, false, [.tuple { toList := [.agg { toList := [.slice none 0 0] }, .int .i64 0] }], 0, 0, []⟩ := by kernel_rfl
theorem ty31 : tyOf Try.prog 31 = some ⟨1, 8, false, [.nilFunc], 0, 0, []⟩ := by kernel_rfl
theorem ty32 : tyOf Try.prog 32 = some ⟨1, 8, false, [.nilFunc], 0, 0, []⟩ := by kernel_rfl
theorem ty33 : tyOf Try.prog 33 = some ⟨1, 8, false, [.nilFunc], 0, 0, []⟩ := by kernel_rfl
theorem ty34 : tyOf Try.prog 34 = some ⟨1, 8, false, [.nilFunc], 0, 0, []⟩ := by kernel_rfl
theorem ty35 : tyOf Try.prog 35 = some ⟨1, 8, false, [.nilFunc], 0, 0, []⟩ := by kernel_rfl
theorem ty36 : tyOf Try.prog 36 = some ⟨2, 32, true, [.slice none 0 0, .int .i64 0], 2, 0, [(0, 1, false), (1, 1, false)]⟩ := by kernel_rfl
theorem ty37 : tyOf Try.prog 37 = some ⟨2, 32, true, [.slice none 0 0, .int .i64 0], 2, 0, [(0, 1, false), (1, 1, false)]⟩ := by kernel_rfl
theorem ty38 : tyOf Try.prog 38 = some ⟨1, 24, false, [.slice none 0 0], 1, 42, []⟩ := by kernel_rfl
theorem ty39 : tyOf Try.prog 39 = some ⟨1, 8, false, [.nilFunc], 0, 0, []⟩ := by kernel_rfl
theorem ty40 : tyOf Try.prog 40 = some ⟨1, 8, false, [.nilFunc], 0, 0, []⟩ := by kernel_rfl
theorem ty41 : tyOf Try.prog 41 = some ⟨2, 16, true, [.int .i64 0, .int .i64 0], 2, 0, [(0, 1, false), (1, 1, false)]⟩ := by kernel_rfl
theorem ty42 : tyOf Try.prog 42 = some ⟨2, 16, true, [.int .i64 0, .int .i64 0], 2, 0, [(0, 1, false), (1, 1, false)]⟩ := by kernel_rfl
theorem ty43 : tyOf Try.prog 43 = some ⟨1, 8, false, [.nilFunc], 0, 0, []⟩ := by kernel_rfl
theorem ty44 : tyOf Try.prog 44 = some ⟨1, 8, false, [.nilFunc], 0, 0, []⟩ := by kernel_rfl
theorem ty45 : tyOf Try.prog 45 = some ⟨1, 8, false, [.pointer none], 0, 0, []⟩ := by kernel_rfl
theorem ty46 : tyOf Try.prog 46 = some ⟨1, 24, false, [.slice none 0 0], 1, 4, []⟩ := by kernel_rfl
theorem ty47 : tyOf Try.prog 47 = some ⟨4, 96, true, [.slice none 0 0, .slice none 0 0, .slice none 0 0, .slice none 0 0], 2, 0, [(0, 1, true), (1, 1, false), (2, 1, false), (3, 1, false)]⟩ := by kernel_rfl
theorem ty48 : tyOf Try.prog 48 = some ⟨4, 96, true, [.slice none 0 0, .slice none 0 0, .slice none 0 0, .slice none 0 0], 2, 0, [(0, 1, true), (1, 1, false), (2, 1, false), (3, 1, false)]⟩ := by kernel_rfl
theorem ty49 : tyOf Try.prog 49 = some ⟨1, 8, false, [.nilFunc], 0, 0, []⟩ := by kernel_rfl
theorem ty50 : tyOf Try.prog 50 = some ⟨1, 8, false, [.nilFunc], 0, 0, []⟩ := by kernel_rfl
theorem ty51 : tyOf Try.prog 51 = some ⟨1, 8, false, [.nilFunc], 0, 0, []⟩ := by kernel_rfl
theorem ty52 : tyOf Try.prog 52 = some ⟨1, 8, false, [.nilFunc], 0, 0, []⟩ := by kernel_rfl
theorem ty53 : tyOf Try.prog 53 = some ⟨1, 8, false, [.nilFunc], 0, 0, []⟩ := by kernel_rfl
theorem ty54 : tyOf Try.prog 54 = some ⟨1, 8, false, [.nilFunc], 0, 0, []⟩ := by kernel_rfl
theorem ty55 : tyOf Try.prog 55 = some ⟨1, 8, false, [.nilFunc], 0, 0, []⟩ := by kernel_rfl
theorem ty56 : tyOf Try.prog 56 = some ⟨1, 8, false, [.nilFunc], 0, 0, []⟩ := by kernel_rfl
theorem ty57 : tyOf Try.prog 57 = some ⟨1, 8, false, [.nilFunc], 0, 0, []⟩ := by kernel_rfl
theorem ty58 : tyOf Try.prog 58 = some ⟨1, 8, false, [.nilFunc], 0, 0, []⟩ := by kernel_rfl
theorem ty59 : tyOf Try.prog 59 = some ⟨1, 24, false, [.slice none 0 0], 1, 9, []⟩ := by kernel_rfl
theorem ty60 : tyOf Try.prog 60 = some ⟨1, 0, false, [.tuple { toList := [.slice none 0 0, .int .i64 0] }], 0, 0, []⟩ := by kernel_rfl
theorem ty61 : tyOf Try.prog 61 = some ⟨1, 8, false, [.nilFunc], 0, 0, []⟩ := by kernel_rfl
theorem ty62 : tyOf Try.prog 62 = some ⟨1, 24, false, [.slice none 0 0], 1, 64, []⟩ := by kernel_rfl
theorem ty63 : tyOf Try.prog 63 = some ⟨1, 8, false, [.nilFunc], 0, 0, []⟩ := by kernel_rfl
theorem ty64 : tyOf Try.prog 64 = some ⟨1, 24, false, [.slice none 0 0], 1, 66, []⟩ := by kernel_rfl
theorem ty65 : tyOf Try.prog 65 = some ⟨2, 16, true, [.int .i64 0, .int .i64 0], 2, 0, [(0, 1, false), (1, 1, false)]⟩ := by kernel_rfl
theorem ty66 : tyOf Try.prog 66 = some ⟨2, 16, true, [.int .i64 0, .int .i64 0], 2, 0, [(0, 1, false), (1, 1, false)]⟩ := by kernel_rfl
theorem ty67 : tyOf Try.prog 67 = some ⟨1, 8, false, [.nilFunc], 0, 0, []⟩ := by kernel_rfl
theorem ty68 : tyOf Try.prog 68 = some ⟨1, 8, false, [.nilFunc], 0, 0, []⟩ := by kernel_rfl
theorem ty69 : tyOf Try.prog 69 = some ⟨1, 8, false, [.nilFunc], 0, 0, []⟩ := by kernel_rfl
theorem ty70 : tyOf Try.prog 70 = some ⟨1, 8, false, [.nilFunc], 0, 0, []⟩ := by kernel_rfl
theorem ty71 : tyOf Try.prog 71 = some ⟨1, 0, false, [.tuple { toList := [.agg { toList := [.slice none 0 0] }, .bool false] }], 0, 0, []⟩ := by kernel_rfl
theorem ty72 : tyOf Try.prog 72 = some ⟨1, 8, false, [.nilFunc], 0, 0, []⟩ := by kernel_rfl
theorem ty73 : tyOf Try.prog 73 = some ⟨1, 8, false, [.nilFunc], 0, 0, []⟩ := by kernel_rfl
theorem ty74 : tyOf Try.prog 74 = some ⟨1, 8, false, [.nilFunc], 0, 0, []⟩ := by kernel_rfl
theorem ty75 : tyOf Try.prog 75 = some ⟨1, 8, false, [.nilFunc], 0, 0, []⟩ := by kernel_rfl
theorem ty76 : tyOf Try.prog 76 = some ⟨1, 24, false, [.slice none 0 0], 1, 78, []⟩ := by kernel_rfl
theorem ty77 : tyOf Try.prog 77 = some ⟨2, 16, true, [.int .i64 0, .int .i64 0], 2, 0, [(0, 1, false), (1, 1, false)]⟩ := by kernel_rfl
theorem ty78 : tyOf Try.prog 78 = some ⟨2, 16, true, [.int .i64 0, .int .i64 0], 2, 0, [(0, 1, false), (1, 1, false)]⟩ := by kernel_rfl
theorem ty79 : tyOf Try.prog 79 = some ⟨1, 8, false, [.pointer none], 0, 0, []⟩ := by kernel_rfl
theorem ty80 : tyOf Try.prog 80 = some ⟨1, 8, false, [.nilFunc], 0, 0, []⟩ := by kernel_rfl
theorem ty81 : tyOf Try.prog 81 = some ⟨1, 8, false, [.nilFunc], 0, 0, []⟩ := by kernel_rfl
theorem ty82 : tyOf Try.prog 82 = some ⟨1, 8, false, [.nilFunc], 0, 0, []⟩ := by kernel_rfl
theorem ty83 : tyOf Try.prog 83 = some ⟨1, 8, false, [.nilFunc], 0, 0, []⟩ := by kernel_rfl
theorem ty84 : tyOf Try.prog 84 = some ⟨1, 24, false, [.slice none 0 0], 1, 22, []⟩ := by kernel_rfl
theorem ty85 : tyOf Try.prog 85 = some ⟨1, 8, false, [.map none], 3, 3, []⟩ := by kernel_rfl
theorem ty86 : tyOf Try.prog 86 = some ⟨1, 0, false, [.tuple { toList := [.int .i64 0, .bool false] }], 0, 0, []⟩ := by kernel_rfl
theorem ty88 : tyOf Try.prog 88 = some ⟨1, 8, false, [.nilFunc], 0, 0, []⟩ := by kernel_rfl
theorem ty90 : tyOf Try.prog 90 = some ⟨1, 24, false, [.slice none 0 0], 1, 5, []⟩ := by kernel_rfl
theorem ty91 : tyOf Try.prog 91 = some ⟨1, 8, false, [.int .u64 0], 5, 0, []⟩ := by kernel_rfl
theorem ty95 : tyOf Try.prog 95 = some ⟨1, 0, false, [.tuple { toList := [.int .u64 0, .int .u64 0] }], 0, 0, []⟩ := by kernel_rfl
theorem ty97 : tyOf Try.prog 97 = some ⟨1, 8, false, [.nilFunc], 0, 0, []⟩ := by kernel_rfl
theorem ty98 : tyOf Try.prog 98 = some ⟨1, 8, false, [.nilFunc], 0, 0, []⟩ := by kernel_rfl
theorem ty99 : tyOf Try.prog 99 = some ⟨1, 8, false, [.nilFunc], 0, 0, []⟩ := by kernel_rfl
theorem ty100 : tyOf Try.prog 100 = some ⟨1, 4, false, [.int .u32 0], 5, 0, []⟩ := by kernel_rfl
theorem ty101 : tyOf Try.prog 101 = some ⟨1, 0, false, [.tuple { toList := [.int .u32 0, .int .u32 0] }], 0, 0, []⟩ := by kernel_rfl
theorem ty102 : tyOf Try.prog 102 = some ⟨1, 8, false, [.nilFunc], 0, 0, []⟩ := by kernel_rfl
theorem ty103 : tyOf Try.prog 103 = some ⟨1, 8, false, [.int .u64 0], 5, 0, []⟩ := by kernel_rfl
theorem ty104 : tyOf Try.prog 104 = some ⟨1, 0, false, [.tuple { toList := [.int .u64 0, .int .u64 0] }], 0, 0, []⟩ := by kernel_rfl
theorem ty105 : tyOf Try.prog 105 = some ⟨1, 8, false, [.nilFunc], 0, 0, []⟩ := by kernel_rfl
theorem ty107 : tyOf Try.prog 107 = some ⟨1, 8, false, [.int .i64 0], 5, 0, []⟩ := by kernel_rfl
theorem ty108 : tyOf Try.prog 108 = some ⟨1, 0, false, [.tuple { toList := [.int .i64 0, .int .i64 0] }], 0, 0, []⟩ := by kernel_rfl
theorem ty109 : tyOf Try.prog 109 = some ⟨1, 8, false, [.nilFunc], 0, 0, []⟩ := by kernel_rfl
theorem ty110 : tyOf Try.prog 110 = some ⟨1, 8, false, [.nilFunc], 0, 0, []⟩ := by kernel_rfl
theorem ty111 : tyOf Try.prog 111 = some ⟨1, 8, false, [.nilFunc], 0, 0, []⟩ := by kernel_rfl
theorem ty112 : tyOf Try.prog 112 = some ⟨1, 8, false, [.nilFunc], 0, 0, []⟩ := by kernel_rfl
theorem ty114 : tyOf Try.prog 114 = some ⟨1, 8, false, [.nilFunc], 0, 0, []⟩ := by kernel_rfl
theorem ty115 : tyOf Try.prog 115 = some ⟨1, 8, false, [.nilFunc], 0, 0, []⟩ := by kernel_rfl
theorem ty116 : tyOf Try.prog 116 = some ⟨1, 8, false, [.nilFunc], 0, 0, []⟩ := by kernel_rfl
theorem ty117 : tyOf Try.prog 117 = some ⟨1, 8, false, [.nilFunc], 0, 0, []⟩ := by kernel_rfl
theorem ty118 : tyOf Try.prog 118 = some ⟨1, 8, false, [.nilFunc], 0, 0, []⟩ := by kernel_rfl
theorem ty119 : tyOf Try.prog 119 = some ⟨1, 8, false, [.nilFunc], 0, 0, []⟩ := by kernel_rfl
theorem ty120 : tyOf Try.prog 120 = some ⟨1, 8, false, [.int .u64 0], 5, 0, []⟩ := by kernel_rfl
theorem ty121 : tyOf Try.prog 121 = some ⟨1, 8, false, [.nilFunc], 0, 0, []⟩ := by kernel_rfl
theorem ty124 : tyOf Try.prog 124 = some ⟨1, 8, false, [.pointer none], 0, 0, []⟩ := by kernel_rfl
theorem ty128 : tyOf Try.prog 128 = some ⟨1, 8, false, [.pointer none], 0, 0, []⟩ := by kernel_rfl
theorem ty129 : tyOf Try.prog 129 = some ⟨1, 0, false, [.tuple { toList := [.int .i64 0, .int .i64 0] }], 0, 0, []⟩ := by kernel_rfl
attribute [go_sem] ty0 ty1 ty2 ty3 ty4 ty5 ty6 ty7 ty8 ty9 ty10 ty11 ty12 ty13 ty14 ty15 ty16 ty17 ty18 ty19 ty20 ty21 ty22 ty23 ty24 ty25 ty26 ty27 ty28 ty29 ty30 ty31 ty32 ty33 ty34 ty35 ty36 ty37 ty38 ty39 ty40 ty41 ty42 ty43 ty44 ty45 ty46 ty47 ty48 ty49 ty50 ty51 ty52 ty53 ty54 ty55 ty56 ty57 ty58 ty59 ty60 ty61 ty62 ty63 ty64 ty65 ty66 ty67 ty68 ty69 ty70 ty71 ty72 ty73 ty74 ty75 ty76 ty77 ty78 ty79 ty80 ty81 ty82 ty83 ty84 ty85 ty86 ty88 ty90 ty91 ty95 ty97 ty98 ty99 ty100 ty101 ty102 ty103 ty104 ty105 ty107 ty108 ty109 ty110 ty111 ty112 ty114 ty115 ty116 ty117 ty118 ty119 ty120 ty121 ty124 ty128 ty129
end Go.Proofs.Ytahnebicgbjonaa
