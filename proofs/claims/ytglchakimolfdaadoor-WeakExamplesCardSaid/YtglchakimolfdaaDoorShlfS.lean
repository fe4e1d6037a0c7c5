/-
  DERIVED: THE SHELF's CONTRACTS AT THIS DUMP, IN PLAIN WORDS (tools/lay-plain.mjs out of 'YtglchakimolfdaaDoorShlfS0.lean', which tools/lay-shelf.mjs wrote): THE SAME DECLARATIONS UNDER THE SAME NAMES: 'import', 'namespace', 'open', 'def', 'theorem' AND NOTHING ELSE: no command of the shelf's: FOR A HAND-IN. Each laying: the table of numbers ('.._ren') and one theorem, a field a fact of the dump's own or the kernel's comparison; each contract: ONE APPLICATION.
-/
import Derived.Test.YtglchakimolfdaaDoorProg
import Derived.Shelf.Sort.Plain
import Derived.Shelf.Slices.In.SortNone
import Derived.Ground.NamesProg
namespace Go.Proofs
open Go.Shelf
def Tryd.sortInts_ren : Go.Shelf.Ren := ⟨fun | 189 => 55 | 125 => 62 | 257 => 73 | 128 => 85 | 129 => 86 | 294 => 88 | 295 => 89 | 296 => 90 | 297 => 91 | 298 => 92 | 299 => 93 | 216 => 94 | 300 => 95 | 301 => 96 | 328 => 102 | 329 => 98 | 330 => 99 | 331 => 103 | 332 => 104 | 215 => 70 | 343 => 106 | n => n, fun | 28 => 30 | 3 => 3 | 46 => 107 | 0 => 0 | 51 => 122 | 53 => 118 | 4 => 4 | 183 => 129 | 182 => 128 | 131 => 90 | 5 => 5 | 9 => 9 | 218 => 143 | 222 => 147 | 228 => 151 | 229 => 152 | n => n, fun | n => n⟩
theorem Tryd.sortInts : Go.Proofs.Lays.n189 Tryd.prog Tryd.sortInts_ren := {
  mixed := by kernel_rfl
  f125 := Tryd.func62.trans (congrArg some (by kernel_rfl))
  f128 := Tryd.func85.trans (congrArg some (by kernel_rfl))
  f129 := Tryd.func86.trans (congrArg some (by kernel_rfl))
  f189 := Tryd.func55.trans (congrArg some (by kernel_rfl))
  f215 := Tryd.func70.trans (congrArg some (by kernel_rfl))
  f216 := Tryd.func94.trans (congrArg some (by kernel_rfl))
  f257 := Tryd.func73.trans (congrArg some (by kernel_rfl))
  f294 := Tryd.func88.trans (congrArg some (by kernel_rfl))
  f295 := Tryd.func89.trans (congrArg some (by kernel_rfl))
  f296 := Tryd.func90.trans (congrArg some (by kernel_rfl))
  f297 := Tryd.func91.trans (congrArg some (by kernel_rfl))
  f298 := Tryd.func92.trans (congrArg some (by kernel_rfl))
  f299 := Tryd.func93.trans (congrArg some (by kernel_rfl))
  f300 := Tryd.func95.trans (congrArg some (by kernel_rfl))
  f301 := Tryd.func96.trans (congrArg some (by kernel_rfl))
  f328 := Tryd.func102.trans (congrArg some (by kernel_rfl))
  f329 := Tryd.func98.trans (congrArg some (by kernel_rfl))
  f330 := Tryd.func99.trans (congrArg some (by kernel_rfl))
  f331 := Tryd.func103.trans (congrArg some (by kernel_rfl))
  f332 := Tryd.func104.trans (congrArg some (by kernel_rfl))
  f343 := Tryd.func106.trans (congrArg some (by kernel_rfl))
  t0 := Tryd.underlying0
  a0 := Tryd.isAgg0
  z0 := Tryd.sizeOf0
  v0 := Tryd.zeroValue0
  t3 := Tryd.underlying3
  a3 := Tryd.isAgg3
  z3 := Tryd.sizeOf3
  v3 := Tryd.zeroValue3
  t4 := Tryd.underlying4
  a4 := Tryd.isAgg4
  z4 := Tryd.sizeOf4
  v4 := Tryd.zeroValue4
  t5 := Tryd.underlying5
  a5 := Tryd.isAgg5
  z5 := Tryd.sizeOf5
  v5 := Tryd.zeroValue5
  t9 := Tryd.underlying9
  a9 := Tryd.isAgg9
  z9 := Tryd.sizeOf9
  v9 := Tryd.zeroValue9
  t28 := Tryd.underlying30
  a28 := Tryd.isAgg30
  z28 := Tryd.sizeOf30
  v28 := Tryd.zeroValue30
  t46 := Tryd.underlying107
  a46 := Tryd.isAgg107
  z46 := Tryd.sizeOf107
  v46 := Tryd.zeroValue107
  t51 := Tryd.underlying122
  a51 := Tryd.isAgg122
  z51 := Tryd.sizeOf122
  v51 := Tryd.zeroValue122
  t53 := Tryd.underlying118
  a53 := Tryd.isAgg118
  z53 := Tryd.sizeOf118
  v53 := Tryd.zeroValue118
  t131 := Tryd.underlying90
  a131 := Tryd.isAgg90
  z131 := Tryd.sizeOf90
  v131 := Tryd.zeroValue90
  t182 := Tryd.underlying128
  a182 := Tryd.isAgg128
  z182 := Tryd.sizeOf128
  v182 := Tryd.zeroValue128
  t183 := Tryd.underlying129
  a183 := Tryd.isAgg129
  z183 := Tryd.sizeOf129
  v183 := Tryd.zeroValue129
  t218 := Tryd.underlying143
  a218 := Tryd.isAgg143
  z218 := Tryd.sizeOf143
  v218 := Tryd.zeroValue143
  t222 := Tryd.underlying147
  a222 := Tryd.isAgg147
  z222 := Tryd.sizeOf147
  v222 := Tryd.zeroValue147
  t228 := Tryd.underlying151
  a228 := Tryd.isAgg151
  z228 := Tryd.sizeOf151
  v228 := Tryd.zeroValue151
  t229 := Tryd.underlying152
  a229 := Tryd.isAgg152
  z229 := Tryd.sizeOf152
  v229 := Tryd.zeroValue152 }
end Go.Proofs
