/- What the abstract machine knows of the types. -/
import Derived.Test.YtbnabodoabimnaaGreatMA
import Derived.Test.YtbnabodoabimnaaGreatProg
namespace Go.Proofs.YtbnabodoabimnaaGreat
theorem ty0 : tyOf Tryz.prog 0 = some ⟨1, 0, false, [.tuple { toList := [] }], 0, 0, []⟩ := by kernel_rfl
theorem ty1 : tyOf Tryz.prog 1 = some ⟨1, 8, false, [.nilFunc], 0, 0, []⟩ := by kernel_rfl
theorem ty2 : tyOf Tryz.prog 2 = some ⟨1, 8, false, [.int .i64 0], 5, 0, []⟩ := by kernel_rfl
theorem ty3 : tyOf Tryz.prog 3 = some ⟨1, 8, false, [.int .i64 0], 5, 0, []⟩ := by kernel_rfl
theorem ty4 : tyOf Tryz.prog 4 = some ⟨1, 1, false, [.bool false], 0, 0, []⟩ := by kernel_rfl
theorem ty5 : tyOf Tryz.prog 5 = some ⟨1, 1, false, [.int .u8 0], 5, 0, []⟩ := by kernel_rfl
theorem ty6 : tyOf Tryz.prog 6 = some ⟨1, 1, false, [.int .u8 0], 5, 0, []⟩ := by kernel_rfl
theorem ty7 : tyOf Tryz.prog 7 = some ⟨4, 24, true, [.int .i64 0, .int .i64 0, .bool false, .int .u8 0], 2, 0, [(0, 1, false), (1, 1, false), (2, 1, false), (3, 1, false)]⟩ := by kernel_rfl
theorem ty8 : tyOf Tryz.prog 8 = some ⟨4, 24, true, [.int .i64 0, .int .i64 0, .bool false, .int .u8 0], 2, 0, [(0, 1, false), (1, 1, false), (2, 1, false), (3, 1, false)]⟩ := by kernel_rfl
theorem ty9 : tyOf Tryz.prog 9 = some ⟨1, 16, false, [.string { data := { toList := [] } }], 4, 0, []⟩ := by kernel_rfl
theorem ty10 : tyOf Tryz.prog 10 = some ⟨1, 16, false, [.string { data := { toList := [] } }], 4, 0, []⟩ := by kernel_rfl
theorem ty11 : tyOf Tryz.prog 11 = some ⟨1, 16, false, [.string { data := { toList := [] } }], 4, 0, []⟩ := by kernel_rfl
theorem ty12 : tyOf Tryz.prog 12 = some ⟨1, 8, false, [.int .u64 0], 5, 0, []⟩ := by kernel_rfl
theorem ty13 : tyOf Tryz.prog 13 = some ⟨2, 24, true, [.string { data := { toList := [] } }, .int .u64 0], 2, 0, [(0, 1, false), (1, 1, false)]⟩ := by kernel_rfl
theorem ty14 : tyOf Tryz.prog 14 = some ⟨2, 24, true, [.string { data := { toList := [] } }, .int .u64 0], 2, 0, [(0, 1, false), (1, 1, false)]⟩ := by kernel_rfl
theorem ty15 : tyOf Tryz.prog 15 = some ⟨1, 8, false, [.pointer none], 0, 0, []⟩ := by kernel_rfl
theorem ty18 : tyOf Tryz.prog 18 = some ⟨1, 8, true, [.pointer none], 2, 0, [(0, 1, false)]⟩ := by kernel_rfl
theorem ty19 : tyOf Tryz.prog 19 = some ⟨1, 8, true, [.pointer none], 2, 0, [(0, 1, false)]⟩ := by kernel_rfl
theorem ty20 : tyOf Tryz.prog 20 = some ⟨1, 16, false, [.nilIface], 0, 0, []⟩ := by kernel_rfl
theorem ty21 : tyOf Tryz.prog 21 = some ⟨1, 4, false, [.int .i32 0], 5, 0, []⟩ := by kernel_rfl
theorem ty23 : tyOf Tryz.prog 23 = some ⟨2, 16, true, [.int .i64 0, .int .i64 0], 2, 0, [(0, 1, false), (1, 1, false)]⟩ := by kernel_rfl
theorem ty24 : tyOf Tryz.prog 24 = some ⟨1, 24, false, [.slice none 0 0], 1, 23, []⟩ := by kernel_rfl
theorem ty25 : tyOf Tryz.prog 25 = some ⟨1, 24, false, [.slice none 0 0], 1, 24, []⟩ := by kernel_rfl
theorem ty26 : tyOf Tryz.prog 26 = some ⟨1, 24, true, [.slice none 0 0], 2, 0, [(0, 1, false)]⟩ := by kernel_rfl
theorem ty27 : tyOf Tryz.prog 27 = some ⟨1, 24, true, [.slice none 0 0], 2, 0, [(0, 1, false)]⟩ := by kernel_rfl
theorem ty28 : tyOf Tryz.prog 28 = some ⟨1, 24, false, [.slice none 0 0], 1, 35, []⟩ := by kernel_rfl
theorem ty29 : tyOf Tryz.prog 29 = some ⟨1, 24, false, [.slice none 0 0], 1, 35, []⟩ := by kernel_rfl
theorem ty30 : tyOf Tryz.prog 30 = some ⟨1, 8, false, [.int .i64 0], 5, 0, []⟩ := by kernel_rfl
theorem ty31 : tyOf Tryz.prog 31 = some ⟨1, 0, false, [.tuple { toList := [.slice none 0 0, .int .i64 0] }], 0, 0, []⟩ := by kernel_rfl
theorem ty32 : tyOf Tryz.prog 32 = some ⟨1, 8, false, [.nilFunc], 0, 0, []⟩ := by kernel_rfl
theorem ty33 : tyOf Tryz.prog 33 = some ⟨1, 24, false, [.slice none 0 0], 1, 37, []⟩ := by kernel_rfl
theorem ty35 : tyOf Tryz.prog 35 = some ⟨3, 56, true, [.slice none 0 0, .slice none 0 0, .bool false], 2, 0, [(0, 1, false), (1, 1, false), (2, 1, false)]⟩ := by kernel_rfl
theorem ty36 : tyOf Tryz.prog 36 = some ⟨1, 8, false, [.nilFunc], 0, 0, []⟩ := by kernel_rfl
theorem ty37 : tyOf Tryz.prog 37 = some ⟨1, 24, false, [.slice none 0 0], 1, 3, []⟩ := by kernel_rfl
theorem ty38 : tyOf Tryz.prog 38 = some ⟨1, 8, false, [.nilFunc], 0, 0, []⟩ := by kernel_rfl
theorem ty39 : tyOf Tryz.prog 39 = some ⟨1, 8, false, [.pointer none], 0, 0, []⟩ := by kernel_rfl
theorem ty40 : tyOf Tryz.prog 40 = some ⟨1, 8, false, [.nilFunc], 0, 0, []⟩ := by kernel_rfl
theorem ty41 : tyOf Tryz.prog 41 = some ⟨1, 8, false, [.nilFunc], 0, 0, []⟩ := by kernel_rfl
theorem ty42 : tyOf Tryz.prog 42 = some ⟨1, 8, false, [.nilFunc], 0, 0, []⟩ := by kernel_rfl
theorem ty43 : tyOf Tryz.prog 43 = some ⟨1, 8, false, [.nilFunc], 0, 0, []⟩ := by kernel_rfl
theorem ty44 : tyOf Tryz.prog 44 = some ⟨1, 8, false, [.nilFunc], 0, 0, []⟩ := by kernel_rfl
theorem ty45 : tyOf Tryz.prog 45 = some ⟨1, 8, false, [.nilFunc], 0, 0, []⟩ := by kernel_rfl
theorem ty46 : tyOf Tryz.prog 46 = some ⟨1, 8, false, [.nilFunc], 0, 0, []⟩ := by kernel_rfl
theorem ty47 : tyOf Tryz.prog 47 = some ⟨1, 8, false, [.nilFunc], 0, 0, []⟩ := by kernel_rfl
theorem ty48 : tyOf Tryz.prog 48 = some ⟨1, 8, false, [.nilFunc], 0, 0, []⟩ := by kernel_rfl
theorem ty49 : tyOf Tryz.prog 49 = some ⟨1, 8, false, [.nilFunc], 0, 0, []⟩ := by kernel_rfl
theorem ty50 : tyOf Tryz.prog 50 = some ⟨1, 8, false, [.nilFunc], 0, 0, []⟩ := by kernel_rfl
theorem ty51 : tyOf Tryz.prog 51 = some ⟨1, 8, false, [.nilFunc], 0, 0, []⟩ := by kernel_rfl
theorem ty52 : tyOf Tryz.prog 52 = some ⟨1, 0, false, [.tuple { toList := [.slice none 0 0, .slice none 0 0, .int .i64 0] }], 0, 0, []⟩ := by kernel_rfl
theorem ty53 : tyOf Tryz.prog 53 = some ⟨1, 8, false, [.nilFunc], 0, 0, []⟩ := by kernel_rfl
theorem ty54 : tyOf Tryz.prog 54 = some ⟨1, 8, false, [.nilFunc], 0, 0, []⟩ := by kernel_rfl
theorem ty55 : tyOf Tryz.prog 55 = some ⟨1, 8, false, [.nilFunc], 0, 0, []⟩ := by kernel_rfl
theorem ty56 : tyOf Tryz.prog 56 = some ⟨1, 8, false, [.nilFunc], 0, 0, []⟩ := by kernel_rfl
theorem ty57 : tyOf Tryz.prog 57 = some ⟨1, 8, false, [.nilFunc], 0, 0, []⟩ := by kernel_rfl
theorem ty58 : tyOf Tryz.prog 58 = some ⟨1, 0, false, [.tuple { toList := [.agg { toList := [.slice none 0 0] }, .int .i64 0] }], 0, 0, []⟩ := by kernel_rfl
theorem ty59 : tyOf Tryz.prog 59 = some ⟨1, 8, false, [.nilFunc], 0, 0, []⟩ := by kernel_rfl
theorem ty60 : tyOf Tryz.prog 60 = some ⟨1, 8, false, [.nilFunc], 0, 0, []⟩ := by kernel_rfl
theorem ty61 : tyOf Tryz.prog 61 = some ⟨1, 0, false, [.tuple { toList := [.slice none 0 0, .slice none 0 0, .int .i64 0] }], 0, 0, []⟩ := by kernel_rfl
theorem ty62 : tyOf Tryz.prog 62 = some ⟨1, 8, false, [.nilFunc], 0, 0, []⟩ := by kernel_rfl
theorem ty63 : tyOf Tryz.prog 63 = some ⟨1, 8, false, [.nilFunc], 0, 0, []⟩ := by kernel_rfl
theorem ty64 : tyOf Tryz.prog 64 = some ⟨1, 8, false, [.nilFunc], 0, 0, []⟩ := by kernel_rfl
theorem ty65 : tyOf Tryz.prog 65 = some ⟨2, 32, true, [.slice none 0 0, .int .i64 0], 2, 0, [(0, 1, false), (1, 1, false)]⟩ := by kernel_rfl
theorem ty66 : tyOf Tryz.prog 66 = some ⟨2, 32, true, [.slice none 0 0, .int .i64 0], 2, 0, [(0, 1, false), (1, 1, false)]⟩ := by kernel_rfl
theorem ty68 : tyOf Tryz.prog 68 = some ⟨1, 8, false, [.nilFunc], 0, 0, []⟩ := by kernel_rfl
theorem ty72 : tyOf Tryz.prog 72 = some ⟨1, 8, false, [.nilFunc], 0, 0, []⟩ := by kernel_rfl
theorem ty74 : tyOf Tryz.prog 74 = some ⟨1, 0, false, [.tuple { toList := [.slice none 0 0, .bool false] }], 0, 0, []⟩ := by kernel_rfl
theorem ty75 : tyOf Tryz.prog 75 = some ⟨1, 8, false, [.nilFunc], 0, 0, []⟩ := by kernel_rfl
theorem ty76 : tyOf Tryz.prog 76 = some ⟨1, 8, false, [.nilFunc], 0, 0, []⟩ := by kernel_rfl
theorem ty77 : tyOf Tryz.prog 77 = some ⟨1, 8, false, [.nilFunc], 0, 0, []⟩ := by kernel_rfl
theorem ty78 : tyOf Tryz.prog 78 = some ⟨1, 8, false, [.nilFunc], 0, 0, []⟩ := by kernel_rfl
theorem ty79 : tyOf Tryz.prog 79 = some ⟨1, 8, false, [.nilFunc], 0, 0, []⟩ := by kernel_rfl
theorem ty80 : tyOf Tryz.prog 80 = some ⟨1, 8, false, [.nilFunc], 0, 0, []⟩ := by kernel_rfl
theorem ty81 : tyOf Tryz.prog 81 = some ⟨1, 8, false, [.nilFunc], 0, 0, []⟩ := by kernel_rfl
theorem ty82 : tyOf Tryz.prog 82 = some ⟨1, 8, false, [.nilFunc], 0, 0, []⟩ := by kernel_rfl
theorem ty83 : tyOf Tryz.prog 83 = some ⟨1, 0, false, [.tuple { toList := [.int .i64 0, .bool false] }], 0, 0, []⟩ := by kernel_rfl
theorem ty84 : tyOf Tryz.prog 84 = some ⟨1, 8, false, [.nilFunc], 0, 0, []⟩ := by kernel_rfl
theorem ty85 : tyOf Tryz.prog 85 = some ⟨1, 8, false, [.nilFunc], 0, 0, []⟩ := by kernel_rfl
theorem ty86 : tyOf Tryz.prog 86 = some ⟨1, 8, false, [.nilFunc], 0, 0, []⟩ := by kernel_rfl
theorem ty87 : tyOf Tryz.prog 87 = some ⟨1, 8, false, [.nilFunc], 0, 0, []⟩ := by kernel_rfl
theorem ty88 : tyOf Tryz.prog 88 = some ⟨1, 8, false, [.nilFunc], 0, 0, []⟩ := by kernel_rfl
theorem ty89 : tyOf Tryz.prog 89 = some ⟨1, 0, false, [.tuple { toList := [.agg { toList := [.slice none 0 0] }, .slice none 0 0, .int .i64 0] }], 0, 0, []⟩ := by kernel_rfl
theorem ty90 : tyOf Tryz.prog 90 = some ⟨1, 8, false, [.nilFunc], 0, 0, []⟩ := by kernel_rfl
theorem ty91 : tyOf Tryz.prog 91 = some ⟨1, 0, false, [.tuple { toList := [.agg { toList := [.slice none 0 0] }, .slice none 0 0] }], 0, 0, []⟩ := by kernel_rfl
theorem ty92 : tyOf Tryz.prog 92 = some ⟨1, 8, false, [.nilFunc], 0, 0, []⟩ := by kernel_rfl
theorem ty93 : tyOf Tryz.prog 93 = some ⟨1, 8, false, [.pointer none], 0, 0, []⟩ := by kernel_rfl
theorem ty94 : tyOf Tryz.prog 94 = some ⟨1, 8, false, [.pointer none], 0, 0, []⟩ := by kernel_rfl
theorem ty95 : tyOf Tryz.prog 95 = some ⟨1, 8, false, [.nilFunc], 0, 0, []⟩ := by kernel_rfl
theorem ty96 : tyOf Tryz.prog 96 = some ⟨1, 24, false, [.slice none 0 0], 1, 4, []⟩ := by kernel_rfl
theorem ty97 : tyOf Tryz.prog 97 = some ⟨1, 8, false, [.nilFunc], 0, 0, []⟩ := by kernel_rfl
theorem ty98 : tyOf Tryz.prog 98 = some ⟨1, 8, false, [.map none], 3, 3, []⟩ := by kernel_rfl
theorem ty99 : tyOf Tryz.prog 99 = some ⟨6, 96, true, [.slice none 0 0, .int .i64 0, .pointer none, .slice none 0 0, .map none, .slice none 0 0], 2, 0, [(0, 1, true), (1, 1, false), (2, 1, false), (3, 1, false), (4, 1, false), (5, 1, false)]⟩ := by kernel_rfl
theorem ty100 : tyOf Tryz.prog 100 = some ⟨6, 96, true, [.slice none 0 0, .int .i64 0, .pointer none, .slice none 0 0, .map none, .slice none 0 0], 2, 0, [(0, 1, true), (1, 1, false), (2, 1, false), (3, 1, false), (4, 1, false), (5, 1, false)]⟩ := by kernel_rfl
theorem ty101 : tyOf Tryz.prog 101 = some ⟨1, 8, false, [.nilFunc], 0, 0, []⟩ := by kernel_rfl
theorem ty102 : tyOf Tryz.prog 102 = some ⟨1, 8, false, [.nilFunc], 0, 0, []⟩ := by kernel_rfl
theorem ty103 : tyOf Tryz.prog 103 = some ⟨1, 0, false, [.tuple { toList := [.agg { toList := [.slice none 0 0, .slice none 0 0, .bool false] }, .int .i64 0] }], 0, 0, []⟩ := by kernel_rfl
theorem ty104 : tyOf Tryz.prog 104 = some ⟨1, 8, false, [.nilFunc], 0, 0, []⟩ := by kernel_rfl
theorem ty105 : tyOf Tryz.prog 105 = some ⟨1, 0, false, [.tuple { toList := [.slice none 0 0, .int .i64 0] }], 0, 0, []⟩ := by kernel_rfl
theorem ty106 : tyOf Tryz.prog 106 = some ⟨1, 8, false, [.nilFunc], 0, 0, []⟩ := by kernel_rfl
theorem ty107 : tyOf Tryz.prog 107 = some ⟨1, 8, false, [.nilFunc], 0, 0, []⟩ := by kernel_rfl
theorem ty108 : tyOf Tryz.prog 108 = some ⟨1, 8, false, [.nilFunc], 0, 0, []⟩ := by kernel_rfl
theorem ty109 : tyOf Tryz.prog 109 = some ⟨1, 8, false, [.nilFunc], 0, 0, []⟩ := by kernel_rfl
theorem ty110 : tyOf Tryz.prog 110 = some ⟨1, 8, false, [.nilFunc], 0, 0, []⟩ := by kernel_rfl
theorem ty111 : tyOf Tryz.prog 111 = some ⟨1, 8, false, [.nilFunc], 0, 0, []⟩ := by kernel_rfl
theorem ty112 : tyOf Tryz.prog 112 = some ⟨1, 8, false, [.nilFunc], 0, 0, []⟩ := by kernel_rfl
theorem ty113 : tyOf Tryz.prog 113 = some ⟨1, 8, false, [.nilFunc], 0, 0, []⟩ := by kernel_rfl
theorem ty114 : tyOf Tryz.prog 114 = some ⟨1, 0, false, [.tuple { toList := [.slice none 0 0, .bool false] }], 0, 0, []⟩ := by kernel_rfl
theorem ty115 : tyOf Tryz.prog 115 = some ⟨1, 8, false, [.nilFunc], 0, 0, []⟩ := by kernel_rfl
theorem ty116 : tyOf Tryz.prog 116 = some ⟨1, 8, false, [.nilFunc], 0, 0, []⟩ := by kernel_rfl
theorem ty117 : tyOf Tryz.prog 117 = some ⟨1, 8, false, [.nilFunc], 0, 0, []⟩ := by kernel_rfl
theorem ty118 : tyOf Tryz.prog 118 = some ⟨1, 8, false, [.nilFunc], 0, 0, []⟩ := by kernel_rfl
theorem ty119 : tyOf Tryz.prog 119 = some ⟨1, 8, false, [.nilFunc], 0, 0, []⟩ := by kernel_rfl
theorem ty120 : tyOf Tryz.prog 120 = some ⟨1, 8, false, [.nilFunc], 0, 0, []⟩ := by kernel_rfl
theorem ty121 : tyOf Tryz.prog 121 = some ⟨1, 8, false, [.nilFunc], 0, 0, []⟩ := by kernel_rfl
theorem ty122 : tyOf Tryz.prog 122 = some ⟨1, 8, false, [.nilFunc], 0, 0, []⟩ := by kernel_rfl
theorem ty123 : tyOf Tryz.prog 123 = some ⟨3, 56, true, [.slice none 0 0, .slice none 0 0, .int .i64 0], 2, 0, [(0, 1, true), (1, 1, false), (2, 1, false)]⟩ := by kernel_rfl
theorem ty124 : tyOf Tryz.prog 124 = some ⟨3, 56, true, [.slice none 0 0, .slice none 0 0, .int .i64 0], 2, 0, [(0, 1, true), (1, 1, false), (2, 1, false)]⟩ := by kernel_rfl
theorem ty125 : tyOf Tryz.prog 125 = some ⟨1, 8, false, [.nilFunc], 0, 0, []⟩ := by kernel_rfl
theorem ty126 : tyOf Tryz.prog 126 = some ⟨1, 8, false, [.nilFunc], 0, 0, []⟩ := by kernel_rfl
theorem ty127 : tyOf Tryz.prog 127 = some ⟨1, 8, false, [.nilFunc], 0, 0, []⟩ := by kernel_rfl
theorem ty129 : tyOf Tryz.prog 129 = some ⟨1, 8, false, [.nilFunc], 0, 0, []⟩ := by kernel_rfl
theorem ty130 : tyOf Tryz.prog 130 = some ⟨1, 8, false, [.nilFunc], 0, 0, []⟩ := by kernel_rfl
theorem ty131 : tyOf Tryz.prog 131 = some ⟨1, 8, false, [.nilFunc], 0, 0, []⟩ := by kernel_rfl
theorem ty132 : tyOf Tryz.prog 132 = some ⟨1, 8, false, [.map none], 3, 4, []⟩ := by kernel_rfl
theorem ty133 : tyOf Tryz.prog 133 = some ⟨1, 24, false, [.slice none 0 0], 1, 9, []⟩ := by kernel_rfl
theorem ty134 : tyOf Tryz.prog 134 = some ⟨1, 8, false, [.nilFunc], 0, 0, []⟩ := by kernel_rfl
theorem ty135 : tyOf Tryz.prog 135 = some ⟨1, 8, false, [.nilFunc], 0, 0, []⟩ := by kernel_rfl
theorem ty136 : tyOf Tryz.prog 136 = some ⟨1, 8, false, [.nilFunc], 0, 0, []⟩ := by kernel_rfl
theorem ty137 : tyOf Tryz.prog 137 = some ⟨1, 8, false, [.int .u64 0], 5, 0, []⟩ := by kernel_rfl
theorem ty138 : tyOf Tryz.prog 138 = some ⟨1, 0, false, [.tuple { toList := [.int .u64 0, .int .u64 0] }], 0, 0, []⟩ := by kernel_rfl
theorem ty139 : tyOf Tryz.prog 139 = some ⟨1, 8, false, [.nilFunc], 0, 0, []⟩ := by kernel_rfl
theorem ty140 : tyOf Tryz.prog 140 = some ⟨1, 8, false, [.nilFunc], 0, 0, []⟩ := by kernel_rfl
theorem ty141 : tyOf Tryz.prog 141 = some ⟨1, 8, false, [.nilFunc], 0, 0, []⟩ := by kernel_rfl
theorem ty142 : tyOf Tryz.prog 142 = some ⟨1, 8, false, [.nilFunc], 0, 0, []⟩ := by kernel_rfl
theorem ty143 : tyOf Tryz.prog 143 = some ⟨1, 8, false, [.nilFunc], 0, 0, []⟩ := by kernel_rfl
theorem ty144 : tyOf Tryz.prog 144 = some ⟨1, 8, false, [.nilFunc], 0, 0, []⟩ := by kernel_rfl
theorem ty145 : tyOf Tryz.prog 145 = some ⟨1, 8, false, [.nilFunc], 0, 0, []⟩ := by kernel_rfl
theorem ty146 : tyOf Tryz.prog 146 = some ⟨1, 24, false, [.slice none 0 0], 1, 148, []⟩ := by kernel_rfl
theorem ty147 : tyOf Tryz.prog 147 = some ⟨2, 16, true, [.int .i64 0, .int .i64 0], 2, 0, [(0, 1, false), (1, 1, false)]⟩ := by kernel_rfl
theorem ty148 : tyOf Tryz.prog 148 = some ⟨2, 16, true, [.int .i64 0, .int .i64 0], 2, 0, [(0, 1, false), (1, 1, false)]⟩ := by kernel_rfl
theorem ty149 : tyOf Tryz.prog 149 = some ⟨1, 8, false, [.pointer none], 0, 0, []⟩ := by kernel_rfl
theorem ty151 : tyOf Tryz.prog 151 = some ⟨1, 24, false, [.slice none 0 0], 1, 5, []⟩ := by kernel_rfl
theorem ty155 : tyOf Tryz.prog 155 = some ⟨1, 8, false, [.nilFunc], 0, 0, []⟩ := by kernel_rfl
theorem ty157 : tyOf Tryz.prog 157 = some ⟨1, 4, false, [.int .u32 0], 5, 0, []⟩ := by kernel_rfl
theorem ty158 : tyOf Tryz.prog 158 = some ⟨1, 0, false, [.tuple { toList := [.int .u32 0, .int .u32 0] }], 0, 0, []⟩ := by kernel_rfl
theorem ty159 : tyOf Tryz.prog 159 = some ⟨1, 8, false, [.nilFunc], 0, 0, []⟩ := by kernel_rfl
theorem ty160 : tyOf Tryz.prog 160 = some ⟨1, 8, false, [.int .u64 0], 5, 0, []⟩ := by kernel_rfl
theorem ty161 : tyOf Tryz.prog 161 = some ⟨1, 0, false, [.tuple { toList := [.int .u64 0, .int .u64 0] }], 0, 0, []⟩ := by kernel_rfl
theorem ty162 : tyOf Tryz.prog 162 = some ⟨1, 8, false, [.nilFunc], 0, 0, []⟩ := by kernel_rfl
theorem ty163 : tyOf Tryz.prog 163 = some ⟨1, 8, false, [.nilFunc], 0, 0, []⟩ := by kernel_rfl
theorem ty164 : tyOf Tryz.prog 164 = some ⟨1, 8, false, [.nilFunc], 0, 0, []⟩ := by kernel_rfl
theorem ty165 : tyOf Tryz.prog 165 = some ⟨1, 8, false, [.int .i64 0], 5, 0, []⟩ := by kernel_rfl
theorem ty166 : tyOf Tryz.prog 166 = some ⟨1, 0, false, [.tuple { toList := [.int .i64 0, .int .i64 0] }], 0, 0, []⟩ := by kernel_rfl
theorem ty167 : tyOf Tryz.prog 167 = some ⟨1, 8, false, [.nilFunc], 0, 0, []⟩ := by kernel_rfl
theorem ty168 : tyOf Tryz.prog 168 = some ⟨1, 8, false, [.nilFunc], 0, 0, []⟩ := by kernel_rfl
theorem ty169 : tyOf Tryz.prog 169 = some ⟨1, 8, false, [.nilFunc], 0, 0, []⟩ := by kernel_rfl
theorem ty170 : tyOf Tryz.prog 170 = some ⟨1, 8, false, [.nilFunc], 0, 0, []⟩ := by kernel_rfl
theorem ty171 : tyOf Tryz.prog 171 = some ⟨1, 8, false, [.nilFunc], 0, 0, []⟩ := by kernel_rfl
theorem ty172 : tyOf Tryz.prog 172 = some ⟨1, 8, false, [.nilFunc], 0, 0, []⟩ := by kernel_rfl
theorem ty173 : tyOf Tryz.prog 173 = some ⟨1, 8, false, [.nilFunc], 0, 0, []⟩ := by kernel_rfl
theorem ty174 : tyOf Tryz.prog 174 = some ⟨1, 8, false, [.nilFunc], 0, 0, []⟩ := by kernel_rfl
theorem ty176 : tyOf Tryz.prog 176 = some ⟨1, 8, false, [.nilFunc], 0, 0, []⟩ := by kernel_rfl
theorem ty177 : tyOf Tryz.prog 177 = some ⟨1, 8, false, [.nilFunc], 0, 0, []⟩ := by kernel_rfl
theorem ty180 : tyOf Tryz.prog 180 = some ⟨1, 8, false, [.nilFunc], 0, 0, []⟩ := by kernel_rfl
theorem ty181 : tyOf Tryz.prog 181 = some ⟨1, 8, false, [.int .u64 0], 5, 0, []⟩ := by kernel_rfl
theorem ty182 : tyOf Tryz.prog 182 = some ⟨1, 8, false, [.nilFunc], 0, 0, []⟩ := by kernel_rfl
theorem ty183 : tyOf Tryz.prog 183 = some ⟨1, 8, false, [.nilFunc], 0, 0, []⟩ := by kernel_rfl
theorem ty184 : tyOf Tryz.prog 184 = some ⟨1, 8, false, [.nilFunc], 0, 0, []⟩ := by kernel_rfl
theorem ty185 : tyOf Tryz.prog 185 = some ⟨1, 8, false, [.pointer none], 0, 0, []⟩ := by kernel_rfl
theorem ty186 : tyOf Tryz.prog 186 = some ⟨1, 8, false, [.nilFunc], 0, 0, []⟩ := by kernel_rfl
theorem ty187 : tyOf Tryz.prog 187 = some ⟨1, 8, false, [.nilFunc], 0, 0, []⟩ := by kernel_rfl
theorem ty188 : tyOf Tryz.prog 188 = some ⟨1, 8, false, [.nilFunc], 0, 0, []⟩ := by kernel_rfl
theorem ty189 : tyOf Tryz.prog 189 = some ⟨1, 8, false, [.nilFunc], 0, 0, []⟩ := by kernel_rfl
theorem ty190 : tyOf Tryz.prog 190 = some ⟨1, 8, false, [.nilFunc], 0, 0, []⟩ := by kernel_rfl
theorem ty192 : tyOf Tryz.prog 192 = some ⟨1, 8, false, [.nilFunc], 0, 0, []⟩ := by kernel_rfl
theorem ty193 : tyOf Tryz.prog 193 = some ⟨1, 8, false, [.nilFunc], 0, 0, []⟩ := by kernel_rfl
theorem ty194 : tyOf Tryz.prog 194 = some ⟨1, 8, false, [.pointer none], 0, 0, []⟩ := by kernel_rfl
theorem ty195 : tyOf Tryz.prog 195 = some ⟨1, 0, false, [.tuple { toList := [.int .i64 0, .int .i64 0] }], 0, 0, []⟩ := by kernel_rfl
theorem ty196 : tyOf Tryz.prog 196 = some ⟨1, 8, false, [.nilFunc], 0, 0, []⟩ := by kernel_rfl
attribute [go_sem] ty0 ty1 ty2 ty3 ty4 ty5 ty6 ty7 ty8 ty9 ty10 ty11 ty12 ty13 ty14 ty15 ty18 ty19 ty20 ty21 ty23 ty24 ty25 ty26 ty27 ty28 ty29 ty30 ty31 ty32 ty33 ty35 ty36 ty37 ty38 ty39 ty40 ty41 ty42 ty43 ty44 ty45 ty46 ty47 ty48 ty49 ty50 ty51 ty52 ty53 ty54 ty55 ty56 ty57 ty58 ty59 ty60 ty61 ty62 ty63 ty64 ty65 ty66 ty68 ty72 ty74 ty75 ty76 ty77 ty78 ty79 ty80 ty81 ty82 ty83 ty84 ty85 ty86 ty87 ty88 ty89 ty90 ty91 ty92 ty93 ty94 ty95 ty96 ty97 ty98 ty99 ty100 ty101 ty102 ty103 ty104 ty105 ty106 ty107 ty108 ty109 ty110 ty111 ty112 ty113 ty114 ty115 ty116 ty117 ty118 ty119 ty120 ty121 ty122 ty123 ty124 ty125 ty126 ty127 ty129 ty130 ty131 ty132 ty133 ty134 ty135 ty136 ty137 ty138 ty139 ty140 ty141 ty142 ty143 ty144 ty145 ty146 ty147 ty148 ty149 ty151 ty155 ty157 ty158 ty159 ty160 ty161 ty162 ty163 ty164 ty165 ty166 ty167 ty168 ty169 ty170 ty171 ty172 ty173 ty174 ty176 ty177 ty180 ty181 ty182 ty183 ty184 ty185 ty186 ty187 ty188 ty189 ty190 ty192 ty193 ty194 ty195 ty196
end Go.Proofs.YtbnabodoabimnaaGreat
