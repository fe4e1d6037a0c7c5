/-
  DERIVED: THE SHELF's CONTRACTS AT THIS DUMP, IN PLAIN WORDS (tools/lay-plain.mjs out of 'YtjijjfkalheokaaDoorShlfS0.lean', which tools/lay-shelf.mjs wrote): THE SAME DECLARATIONS UNDER THE SAME NAMES: 'import', 'namespace', 'open', 'def', 'theorem' AND NOTHING ELSE: no command of the shelf's: FOR A HAND-IN. Each laying: the table of numbers ('.._ren') and one theorem, a field a fact of the dump's own or the kernel's comparison; each contract: ONE APPLICATION.
-/
import Derived.Test.YtjijjfkalheokaaDoorProg
import Derived.Shelf.Sort.Plain
import Derived.Shelf.Slices.In.SortNone
import Derived.Ground.NamesProg
namespace Go.Proofs
open Go.Shelf
def Tryd.sortInts_ren : Go.Shelf.Ren := ⟨fun | 189 => 69 | 125 => 64 | 257 => 91 | 128 => 88 | 129 => 89 | 294 => 98 | 295 => 99 | 296 => 100 | 297 => 101 | 298 => 102 | 299 => 103 | 216 => 104 | 300 => 105 | 301 => 106 | 328 => 108 | 329 => 94 | 330 => 95 | 331 => 109 | 332 => 110 | 215 => 77 | 343 => 111 | n => n, fun | 28 => 34 | 3 => 3 | 46 => 101 | 0 => 0 | 51 => 129 | 53 => 132 | 4 => 4 | 183 => 137 | 182 => 136 | 131 => 117 | 5 => 5 | 9 => 9 | 218 => 146 | 222 => 150 | 228 => 159 | 229 => 160 | n => n, fun | n => n⟩
theorem Tryd.sortInts : Go.Proofs.Lays.n189 Tryd.prog Tryd.sortInts_ren := {
  mixed := by kernel_rfl
  f125 := Tryd.func64.trans (congrArg some (by kernel_rfl))
  f128 := Tryd.func88.trans (congrArg some (by kernel_rfl))
  f129 := Tryd.func89.trans (congrArg some (by kernel_rfl))
  f189 := Tryd.func69.trans (congrArg some (by kernel_rfl))
  f215 := Tryd.func77.trans (congrArg some (by kernel_rfl))
  f216 := Tryd.func104.trans (congrArg some (by kernel_rfl))
  f257 := Tryd.func91.trans (congrArg some (by kernel_rfl))
  f294 := Tryd.func98.trans (congrArg some (by kernel_rfl))
  f295 := Tryd.func99.trans (congrArg some (by kernel_rfl))
  f296 := Tryd.func100.trans (congrArg some (by kernel_rfl))
  f297 := Tryd.func101.trans (congrArg some (by kernel_rfl))
  f298 := Tryd.func102.trans (congrArg some (by kernel_rfl))
  f299 := Tryd.func103.trans (congrArg some (by kernel_rfl))
  f300 := Tryd.func105.trans (congrArg some (by kernel_rfl))
  f301 := Tryd.func106.trans (congrArg some (by kernel_rfl))
  f328 := Tryd.func108.trans (congrArg some (by kernel_rfl))
  f329 := Tryd.func94.trans (congrArg some (by kernel_rfl))
  f330 := Tryd.func95.trans (congrArg some (by kernel_rfl))
  f331 := Tryd.func109.trans (congrArg some (by kernel_rfl))
  f332 := Tryd.func110.trans (congrArg some (by kernel_rfl))
  f343 := Tryd.func111.trans (congrArg some (by kernel_rfl))
  t0 := Tryd.underlying0
  a0 := Tryd.isAgg0
  z0 := Tryd.sizeOf0
  v0 := Tryd.zeroValue0
  t3 := Tryd.underlying3
  a3 := Tryd.isAgg3
  z3 := Tryd.sizeOf3
  v3 := Tryd.zeroValue3
  t4 := Tryd.underlying4
  a4 := Tryd.isAgg4
  z4 := Tryd.sizeOf4
  v4 := Tryd.zeroValue4
  t5 := Tryd.underlying5
  a5 := Tryd.isAgg5
  z5 := Tryd.sizeOf5
  v5 := Tryd.zeroValue5
  t9 := Tryd.underlying9
  a9 := Tryd.isAgg9
  z9 := Tryd.sizeOf9
  v9 := Tryd.zeroValue9
  t28 := Tryd.underlying34
  a28 := Tryd.isAgg34
  z28 := Tryd.sizeOf34
  v28 := Tryd.zeroValue34
  t46 := Tryd.underlying101
  a46 := Tryd.isAgg101
  z46 := Tryd.sizeOf101
  v46 := Tryd.zeroValue101
  t51 := Tryd.underlying129
  a51 := Tryd.isAgg129
  z51 := Tryd.sizeOf129
  v51 := Tryd.zeroValue129
  t53 := Tryd.underlying132
  a53 := Tryd.isAgg132
  z53 := Tryd.sizeOf132
  v53 := Tryd.zeroValue132
  t131 := Tryd.underlying117
  a131 := Tryd.isAgg117
  z131 := Tryd.sizeOf117
  v131 := Tryd.zeroValue117
  t182 := Tryd.underlying136
  a182 := Tryd.isAgg136
  z182 := Tryd.sizeOf136
  v182 := Tryd.zeroValue136
  t183 := Tryd.underlying137
  a183 := Tryd.isAgg137
  z183 := Tryd.sizeOf137
  v183 := Tryd.zeroValue137
  t218 := Tryd.underlying146
  a218 := Tryd.isAgg146
  z218 := Tryd.sizeOf146
  v218 := Tryd.zeroValue146
  t222 := Tryd.underlying150
  a222 := Tryd.isAgg150
  z222 := Tryd.sizeOf150
  v222 := Tryd.zeroValue150
  t228 := Tryd.underlying159
  a228 := Tryd.isAgg159
  z228 := Tryd.sizeOf159
  v228 := Tryd.zeroValue159
  t229 := Tryd.underlying160
  a229 := Tryd.isAgg160
  z229 := Tryd.sizeOf160
  v229 := Tryd.zeroValue160 }
end Go.Proofs
