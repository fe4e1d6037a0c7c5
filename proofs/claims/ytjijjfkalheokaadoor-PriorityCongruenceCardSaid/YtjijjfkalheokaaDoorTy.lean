/- What the abstract machine knows of the types. -/
import Derived.Test.YtjijjfkalheokaaDoorMA
import Derived.Test.YtjijjfkalheokaaDoorProg
namespace Go.Proofs.YtjijjfkalheokaaDoor
theorem ty0 : tyOf Tryd.prog 0 = some ⟨1, 0, false, [.tuple { toList := [] }], 0, 0, []⟩ := by kernel_rfl
theorem ty1 : tyOf Tryd.prog 1 = some ⟨1, 8, false, [.nilFunc], 0, 0, []⟩ := by kernel_rfl
theorem ty2 : tyOf Tryd.prog 2 = some ⟨1, 8, false, [.int .i64 0], 5, 0, []⟩ := by kernel_rfl
theorem ty3 : tyOf Tryd.prog 3 = some ⟨1, 8, false, [.int .i64 0], 5, 0, []⟩ := by kernel_rfl
theorem ty4 : tyOf Tryd.prog 4 = some ⟨1, 1, false, [.bool false], 0, 0, []⟩ := by kernel_rfl
theorem ty5 : tyOf Tryd.prog 5 = some ⟨1, 1, false, [.int .u8 0], 5, 0, []⟩ := by kernel_rfl
theorem ty6 : tyOf Tryd.prog 6 = some ⟨1, 1, false, [.int .u8 0], 5, 0, []⟩ := by kernel_rfl
theorem ty7 : tyOf Tryd.prog 7 = some ⟨4, 24, true, [.int .i64 0, .int .i64 0, .bool false, .int .u8 0], 2, 0, [(0, 1, false), (1, 1, false), (2, 1, false), (3, 1, false)]⟩ := by kernel_rfl
theorem ty8 : tyOf Tryd.prog 8 = some ⟨4, 24, true, [.int .i64 0, .int .i64 0, .bool false, .int .u8 0], 2, 0, [(0, 1, false), (1, 1, false), (2, 1, false), (3, 1, false)]⟩ := by kernel_rfl
theorem ty9 : tyOf Tryd.prog 9 = some ⟨1, 16, false, [.string { data := { toList := [] } }], 4, 0, []⟩ := by kernel_rfl
theorem ty10 : tyOf Tryd.prog 10 = some ⟨1, 16, false, [.string { data := { toList := [] } }], 4, 0, []⟩ := by kernel_rfl
theorem ty11 : tyOf Tryd.prog 11 = some ⟨1, 16, false, [.string { data := { toList := [] } }], 4, 0, []⟩ := by kernel_rfl
theorem ty12 : tyOf Tryd.prog 12 = some ⟨1, 8, false, [.int .u64 0], 5, 0, []⟩ := by kernel_rfl
theorem ty13 : tyOf Tryd.prog 13 = some ⟨2, 24, true, [.string { data := { toList := [] } }, .int .u64 0], 2, 0, [(0, 1, false), (1, 1, false)]⟩ := by kernel_rfl
theorem ty14 : tyOf Tryd.prog 14 = some ⟨2, 24, true, [.string { data := { toList := [] } }, .int .u64 0], 2, 0, [(0, 1, false), (1, 1, false)]⟩ := by kernel_rfl
theorem ty15 : tyOf Tryd.prog 15 = some ⟨1, 8, false, [.pointer none], 0, 0, []⟩ := by kernel_rfl
theorem ty18 : tyOf Tryd.prog 18 = some ⟨1, 8, true, [.pointer none], 2, 0, [(0, 1, false)]⟩ := by kernel_rfl
theorem ty19 : tyOf Tryd.prog 19 = some ⟨1, 8, true, [.pointer none], 2, 0, [(0, 1, false)]⟩ := by kernel_rfl
theorem ty20 : tyOf Tryd.prog 20 = some ⟨1, 16, false, [.nilIface], 0, 0, []⟩ := by kernel_rfl
theorem ty22 : tyOf Tryd.prog 22 = some ⟨1, 24, false, [.slice none 0 0], 1, 30, []⟩ := by kernel_rfl
theorem ty23 : tyOf Tryd.prog 23 = some ⟨1, 24, true, [.slice none 0 0], 2, 0, [(0, 1, false)]⟩ := by kernel_rfl
theorem ty24 : tyOf Tryd.prog 24 = some ⟨1, 24, true, [.slice none 0 0], 2, 0, [(0, 1, false)]⟩ := by kernel_rfl
theorem ty25 : tyOf Tryd.prog 25 = some ⟨1, 8, false, [.int .i64 0], 5, 0, []⟩ := by kernel_rfl
theorem ty26 : tyOf Tryd.prog 26 = some ⟨1, 0, false, [.tuple { toList := [.agg { toList := [.slice none 0 0] }, .int .i64 0] }], 0, 0, []⟩ := by kernel_rfl
theorem ty27 : tyOf Tryd.prog 27 = some ⟨1, 8, false, [.nilFunc], 0, 0, []⟩ := by kernel_rfl
theorem ty28 : tyOf Tryd.prog 28 = some ⟨2, 16, true, [.int .i64 0, .int .i64 0], 2, 0, [(0, 1, false), (1, 1, false)]⟩ := by kernel_rfl
theorem ty29 : tyOf Tryd.prog 29 = some ⟨2, 16, true, [.int .i64 0, .int .i64 0], 2, 0, [(0, 1, false), (1, 1, false)]⟩ := by kernel_rfl
theorem ty30 : tyOf Tryd.prog 30 = some ⟨1, 24, false, [.slice none 0 0], 1, 29, []⟩ := by kernel_rfl
theorem ty31 : tyOf Tryd.prog 31 = some ⟨1, 8, false, [.nilFunc], 0, 0, []⟩ := by kernel_rfl
theorem ty32 : tyOf Tryd.prog 32 = some ⟨1, 8, false, [.nilFunc], 0, 0, []⟩ := by kernel_rfl
theorem ty33 : tyOf Tryd.prog 33 = some ⟨1, 8, false, [.nilFunc], 0, 0, []⟩ := by kernel_rfl
theorem ty34 : tyOf Tryd.prog 34 = some ⟨1, 24, false, [.slice none 0 0], 1, 3, []⟩ := by kernel_rfl
theorem ty35 : tyOf Tryd.prog 35 = some ⟨1, 8, false, [.pointer none], 0, 0, []⟩ := by kernel_rfl
theorem ty36 : tyOf Tryd.prog 36 = some ⟨1, 8, false, [.nilFunc], 0, 0, []⟩ := by kernel_rfl
theorem ty37 : tyOf Tryd.prog 37 = some ⟨1, 8, false, [.nilFunc], 0, 0, []⟩ := by kernel_rfl
theorem ty38 : tyOf Tryd.prog 38 = some ⟨1, 24, false, [.slice none 0 0], 1, 52, []⟩ := by kernel_rfl
theorem ty39 : tyOf Tryd.prog 39 = some ⟨1, 8, false, [.nilFunc], 0, 0, []⟩ := by kernel_rfl
theorem ty40 : tyOf Tryd.prog 40 = some ⟨1, 8, false, [.nilFunc], 0, 0, []⟩ := by kernel_rfl
theorem ty41 : tyOf Tryd.prog 41 = some ⟨1, 8, false, [.nilFunc], 0, 0, []⟩ := by kernel_rfl
theorem ty42 : tyOf Tryd.prog 42 = some ⟨1, 8, false, [.nilFunc], 0, 0, []⟩ := by kernel_rfl
theorem ty43 : tyOf Tryd.prog 43 = some ⟨1, 8, false, [.nilFunc], 0, 0, []⟩ := by kernel_rfl
theorem ty44 : tyOf Tryd.prog 44 = some ⟨1, 0, false, [.tuple { toList := [.agg { toList := [.slice none 0 0] }, .slice none 0 0, .int .i64 0] }], 0, 0, []⟩ := by kernel_rfl
theorem ty46 : tyOf Tryd.prog 46 = some ⟨1, 24, false, [.slice none 0 0], 1, 4, []⟩ := by kernel_rfl
theorem ty47 : tyOf Tryd.prog 47 = some ⟨1, 8, false, [.nilFunc], 0, 0, []⟩ := by kernel_rfl
theorem ty48 : tyOf Tryd.prog 48 = some ⟨1, 8, false, [.nilFunc], 0, 0, []⟩ := by kernel_rfl
theorem ty49 : tyOf Tryd.prog 49 = some ⟨1, 8, false, [.nilFunc], 0, 0, []⟩ := by kernel_rfl
theorem ty50 : tyOf Tryd.prog 50 = some ⟨1, 8, false, [.nilFunc], 0, 0, []⟩ := by kernel_rfl
theorem ty51 : tyOf Tryd.prog 51 = some ⟨2, 16, true, [.int .i64 0, .int .i64 0], 2, 0, [(0, 1, false), (1, 1, false)]⟩ := by kernel_rfl
theorem ty52 : tyOf Tryd.prog 52 = some ⟨2, 16, true, [.int .i64 0, .int .i64 0], 2, 0, [(0, 1, false), (1, 1, false)]⟩ := by kernel_rfl
theorem ty53 : tyOf Tryd.prog 53 = some ⟨2, 32, true, [.slice none 0 0, .int .i64 0], 2, 0, [(0, 1, false), (1, 1, false)]⟩ := by kernel_rfl
theorem ty54 : tyOf Tryd.prog 54 = some ⟨2, 32, true, [.slice none 0 0, .int .i64 0], 2, 0, [(0, 1, false), (1, 1, false)]⟩ := by kernel_rfl
theorem ty55 : tyOf Tryd.prog 55 = some ⟨1, 8, false, [.nilFunc], 0, 0, []⟩ := by kernel_rfl
theorem ty56 : tyOf Tryd.prog 56 = some ⟨1, 8, false, [.nilFunc], 0, 0, []⟩ := by kernel_rfl
theorem ty57 : tyOf Tryd.prog 57 = some ⟨1, 24, false, [.slice none 0 0], 1, 38, []⟩ := by kernel_rfl
theorem ty58 : tyOf Tryd.prog 58 = some ⟨1, 8, false, [.nilFunc], 0, 0, []⟩ := by kernel_rfl
theorem ty59 : tyOf Tryd.prog 59 = some ⟨1, 8, false, [.nilFunc], 0, 0, []⟩ := by kernel_rfl
theorem ty60 : tyOf Tryd.prog 60 = some ⟨1, 8, false, [.nilFunc], 0, 0, []⟩ := by kernel_rfl
theorem ty61 : tyOf Tryd.prog 61 = some ⟨1, 8, false, [.nilFunc], 0, 0, []⟩ := by kernel_rfl
theorem ty62 : tyOf Tryd.prog 62 = some ⟨1, 8, false, [.nilFunc], 0, 0, []⟩ := by kernel_rfl
theorem ty63 : tyOf Tryd.prog 63 = some ⟨1, 8, false, [.nilFunc], 0, 0, []⟩ := by kernel_rfl
theorem ty64 : tyOf Tryd.prog 64 = some ⟨1, 8, false, [.nilFunc], 0, 0, []⟩ := by kernel_rfl
theorem ty65 : tyOf Tryd.prog 65 = some ⟨1, 8, false, [.pointer none], 0, 0, []⟩ := by kernel_rfl
theorem ty66 : tyOf Tryd.prog 66 = some ⟨1, 8, false, [.nilFunc], 0, 0, []⟩ := by kernel_rfl
theorem ty68 : tyOf Tryd.prog 68 = some ⟨1, 8, false, [.nilFunc], 0, 0, []⟩ := by kernel_rfl
theorem ty69 : tyOf Tryd.prog 69 = some ⟨1, 8, false, [.nilFunc], 0, 0, []⟩ := by kernel_rfl
theorem ty70 : tyOf Tryd.prog 70 = some ⟨1, 8, false, [.nilFunc], 0, 0, []⟩ := by kernel_rfl
theorem ty71 : tyOf Tryd.prog 71 = some ⟨1, 8, false, [.nilFunc], 0, 0, []⟩ := by kernel_rfl
theorem ty72 : tyOf Tryd.prog 72 = some ⟨1, 8, false, [.nilFunc], 0, 0, []⟩ := by kernel_rfl
theorem ty73 : tyOf Tryd.prog 73 = some ⟨1, 8, false, [.nilFunc], 0, 0, []⟩ := by kernel_rfl
theorem ty74 : tyOf Tryd.prog 74 = some ⟨1, 8, false, [.nilFunc], 0, 0, []⟩ := by kernel_rfl
theorem ty75 : tyOf Tryd.prog 75 = some ⟨1, 8, false, [.nilFunc], 0, 0, []⟩ := by kernel_rfl
theorem ty76 : tyOf Tryd.prog 76 = some ⟨1, 8, false, [.pointer none], 0, 0, []⟩ := by kernel_rfl
theorem ty77 : tyOf Tryd.prog 77 = some ⟨1, 8, false, [.nilFunc], 0, 0, []⟩ := by kernel_rfl
theorem ty78 : tyOf Tryd.prog 78 = some ⟨1, 8, false, [.nilFunc], 0, 0, []⟩ := by kernel_rfl
theorem ty79 : tyOf Tryd.prog 79 = some ⟨1, 8, false, [.nilFunc], 0, 0, []⟩ := by kernel_rfl
theorem ty80 : tyOf Tryd.prog 80 = some ⟨1, 8, false, [.nilFunc], 0, 0, []⟩ := by kernel_rfl
theorem ty81 : tyOf Tryd.prog 81 = some ⟨1, 8, false, [.nilFunc], 0, 0, []⟩ := by kernel_rfl
theorem ty82 : tyOf Tryd.prog 82 = some ⟨1, 0, false, [.tuple { toList := [.agg { toList := [.slice none 0 0] }, .bool false] }], 0, 0, []⟩ := by kernel_rfl
theorem ty83 : tyOf Tryd.prog 83 = some ⟨1, 8, false, [.nilFunc], 0, 0, []⟩ := by kernel_rfl
theorem ty84 : tyOf Tryd.prog 84 = some ⟨1, 8, false, [.nilFunc], 0, 0, []⟩ := by kernel_rfl
theorem ty85 : tyOf Tryd.prog 85 = some ⟨1, 8, false, [.nilFunc], 0, 0, []⟩ := by kernel_rfl
theorem ty86 : tyOf Tryd.prog 86 = some ⟨1, 8, false, [.nilFunc], 0, 0, []⟩ := by kernel_rfl
theorem ty87 : tyOf Tryd.prog 87 = some ⟨1, 8, false, [.nilFunc], 0, 0, []⟩ := by kernel_rfl
theorem ty88 : tyOf Tryd.prog 88 = some ⟨1, 24, false, [.slice none 0 0], 1, 24, []⟩ := by kernel_rfl
theorem ty89 : tyOf Tryd.prog 89 = some ⟨1, 24, false, [.slice none 0 0], 1, 34, []⟩ := by kernel_rfl
theorem ty90 : tyOf Tryd.prog 90 = some ⟨5, 120, true, [.slice none 0 0, .slice none 0 0, .slice none 0 0, .slice none 0 0, .slice none 0 0], 2, 0, [(0, 1, true), (1, 1, false), (2, 1, false), (3, 1, false), (4, 1, false)]⟩ := by kernel_rfl
theorem ty91 : tyOf Tryd.prog 91 = some ⟨5, 120, true, [.slice none 0 0, .slice none 0 0, .slice none 0 0, .slice none 0 0, .slice none 0 0], 2, 0, [(0, 1, true), (1, 1, false), (2, 1, false), (3, 1, false), (4, 1, false)]⟩ := by kernel_rfl
theorem ty92 : tyOf Tryd.prog 92 = some ⟨1, 8, false, [.nilFunc], 0, 0, []⟩ := by kernel_rfl
theorem ty93 : tyOf Tryd.prog 93 = some ⟨1, 24, false, [.slice none 0 0], 1, 9, []⟩ := by kernel_rfl
theorem ty94 : tyOf Tryd.prog 94 = some ⟨1, 0, false, [.tuple { toList := [.slice none 0 0, .int .i64 0] }], 0, 0, []⟩ := by kernel_rfl
theorem ty95 : tyOf Tryd.prog 95 = some ⟨1, 8, false, [.nilFunc], 0, 0, []⟩ := by kernel_rfl
theorem ty96 : tyOf Tryd.prog 96 = some ⟨1, 8, false, [.pointer none], 0, 0, []⟩ := by kernel_rfl
theorem ty97 : tyOf Tryd.prog 97 = some ⟨1, 8, false, [.nilFunc], 0, 0, []⟩ := by kernel_rfl
theorem ty98 : tyOf Tryd.prog 98 = some ⟨1, 8, false, [.nilFunc], 0, 0, []⟩ := by kernel_rfl
theorem ty99 : tyOf Tryd.prog 99 = some ⟨1, 8, false, [.nilFunc], 0, 0, []⟩ := by kernel_rfl
theorem ty100 : tyOf Tryd.prog 100 = some ⟨1, 8, false, [.nilFunc], 0, 0, []⟩ := by kernel_rfl
theorem ty101 : tyOf Tryd.prog 101 = some ⟨1, 8, false, [.int .u64 0], 5, 0, []⟩ := by kernel_rfl
theorem ty102 : tyOf Tryd.prog 102 = some ⟨1, 0, false, [.tuple { toList := [.int .u64 0, .int .u64 0] }], 0, 0, []⟩ := by kernel_rfl
theorem ty103 : tyOf Tryd.prog 103 = some ⟨1, 8, false, [.nilFunc], 0, 0, []⟩ := by kernel_rfl
theorem ty104 : tyOf Tryd.prog 104 = some ⟨1, 8, false, [.nilFunc], 0, 0, []⟩ := by kernel_rfl
theorem ty105 : tyOf Tryd.prog 105 = some ⟨1, 8, false, [.nilFunc], 0, 0, []⟩ := by kernel_rfl
theorem ty106 : tyOf Tryd.prog 106 = some ⟨1, 8, false, [.nilFunc], 0, 0, []⟩ := by kernel_rfl
theorem ty107 : tyOf Tryd.prog 107 = some ⟨1, 24, false, [.slice none 0 0], 1, 109, []⟩ := by kernel_rfl
theorem ty108 : tyOf Tryd.prog 108 = some ⟨2, 16, true, [.int .i64 0, .int .i64 0], 2, 0, [(0, 1, false), (1, 1, false)]⟩ := by kernel_rfl
theorem ty109 : tyOf Tryd.prog 109 = some ⟨2, 16, true, [.int .i64 0, .int .i64 0], 2, 0, [(0, 1, false), (1, 1, false)]⟩ := by kernel_rfl
theorem ty110 : tyOf Tryd.prog 110 = some ⟨1, 8, false, [.pointer none], 0, 0, []⟩ := by kernel_rfl
theorem ty111 : tyOf Tryd.prog 111 = some ⟨1, 8, false, [.nilFunc], 0, 0, []⟩ := by kernel_rfl
theorem ty112 : tyOf Tryd.prog 112 = some ⟨3, 56, true, [.slice none 0 0, .slice none 0 0, .int .i64 0], 2, 0, [(0, 1, true), (1, 1, false), (2, 1, false)]⟩ := by kernel_rfl
theorem ty114 : tyOf Tryd.prog 114 = some ⟨1, 8, false, [.nilFunc], 0, 0, []⟩ := by kernel_rfl
theorem ty115 : tyOf Tryd.prog 115 = some ⟨1, 8, false, [.nilFunc], 0, 0, []⟩ := by kernel_rfl
theorem ty116 : tyOf Tryd.prog 116 = some ⟨1, 8, false, [.map none], 3, 3, []⟩ := by kernel_rfl
theorem ty117 : tyOf Tryd.prog 117 = some ⟨1, 0, false, [.tuple { toList := [.int .i64 0, .bool false] }], 0, 0, []⟩ := by kernel_rfl
theorem ty118 : tyOf Tryd.prog 118 = some ⟨1, 24, false, [.slice none 0 0], 1, 123, []⟩ := by kernel_rfl
theorem ty119 : tyOf Tryd.prog 119 = some ⟨1, 24, false, [.slice none 0 0], 1, 126, []⟩ := by kernel_rfl
theorem ty120 : tyOf Tryd.prog 120 = some ⟨2, 48, true, [.slice none 0 0, .slice none 0 0], 2, 0, [(0, 1, false), (1, 1, false)]⟩ := by kernel_rfl
theorem ty121 : tyOf Tryd.prog 121 = some ⟨2, 48, true, [.slice none 0 0, .slice none 0 0], 2, 0, [(0, 1, false), (1, 1, false)]⟩ := by kernel_rfl
theorem ty123 : tyOf Tryd.prog 123 = some ⟨1, 24, false, [.slice none 0 0], 1, 132, []⟩ := by kernel_rfl
theorem ty126 : tyOf Tryd.prog 126 = some ⟨1, 8, false, [.map none], 3, 123, []⟩ := by kernel_rfl
theorem ty127 : tyOf Tryd.prog 127 = some ⟨1, 8, false, [.nilFunc], 0, 0, []⟩ := by kernel_rfl
theorem ty129 : tyOf Tryd.prog 129 = some ⟨1, 4, false, [.int .u32 0], 5, 0, []⟩ := by kernel_rfl
theorem ty130 : tyOf Tryd.prog 130 = some ⟨1, 0, false, [.tuple { toList := [.int .u32 0, .int .u32 0] }], 0, 0, []⟩ := by kernel_rfl
theorem ty132 : tyOf Tryd.prog 132 = some ⟨1, 8, false, [.int .u64 0], 5, 0, []⟩ := by kernel_rfl
theorem ty133 : tyOf Tryd.prog 133 = some ⟨1, 0, false, [.tuple { toList := [.int .u64 0, .int .u64 0] }], 0, 0, []⟩ := by kernel_rfl
theorem ty136 : tyOf Tryd.prog 136 = some ⟨1, 8, false, [.int .i64 0], 5, 0, []⟩ := by kernel_rfl
theorem ty137 : tyOf Tryd.prog 137 = some ⟨1, 0, false, [.tuple { toList := [.int .i64 0, .int .i64 0] }], 0, 0, []⟩ := by kernel_rfl
theorem ty145 : tyOf Tryd.prog 145 = some ⟨1, 24, false, [.slice none 0 0], 1, 5, []⟩ := by kernel_rfl
theorem ty146 : tyOf Tryd.prog 146 = some ⟨1, 8, false, [.int .u64 0], 5, 0, []⟩ := by kernel_rfl
theorem ty150 : tyOf Tryd.prog 150 = some ⟨1, 8, false, [.pointer none], 0, 0, []⟩ := by kernel_rfl
theorem ty159 : tyOf Tryd.prog 159 = some ⟨1, 8, false, [.pointer none], 0, 0, []⟩ := by kernel_rfl
theorem ty160 : tyOf Tryd.prog 160 = some ⟨1, 0, false, [.tuple { toList := [.int .i64 0, .int .i64 0] }], 0, 0, []⟩ := by kernel_rfl
attribute [go_sem] ty0 ty1 ty2 ty3 ty4 ty5 ty6 ty7 ty8 ty9 ty10 ty11 ty12 ty13 ty14 ty15 ty18 ty19 ty20 ty22 ty23 ty24 ty25 ty26 ty27 ty28 ty29 ty30 ty31 ty32 ty33 ty34 ty35 ty36 ty37 ty38 ty39 ty40 ty41 ty42 ty43 ty44 ty46 ty47 ty48 ty49 ty50 ty51 ty52 ty53 ty54 ty55 ty56 ty57 ty58 ty59 ty60 ty61 ty62 ty63 ty64 ty65 ty66 ty68 ty69 ty70 ty71 ty72 ty73 ty74 ty75 ty76 ty77 ty78 ty79 ty80 ty81 ty82 ty83 ty84 ty85 ty86 ty87 ty88 ty89 ty90 ty91 ty92 ty93 ty94 ty95 ty96 ty97 ty98 ty99 ty100 ty101 ty102 ty103 ty104 ty105 ty106 ty107 ty108 ty109 ty110 ty111 ty112 ty114 ty115 ty116 ty117 ty118 ty119 ty120 ty121 ty123 ty126 ty127 ty129 ty130 ty132 ty133 ty136 ty137 ty145 ty146 ty150 ty159 ty160
end Go.Proofs.YtjijjfkalheokaaDoor
