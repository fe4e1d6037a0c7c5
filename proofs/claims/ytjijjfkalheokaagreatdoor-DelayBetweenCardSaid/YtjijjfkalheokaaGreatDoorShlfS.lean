/-
  DERIVED: THE SHELF's CONTRACTS AT THIS DUMP, IN PLAIN WORDS (tools/lay-plain.mjs out of 'YtjijjfkalheokaaGreatDoorShlfS0.lean', which tools/lay-shelf.mjs wrote): THE SAME DECLARATIONS UNDER THE SAME NAMES: 'import', 'namespace', 'open', 'def', 'theorem' AND NOTHING ELSE: no command of the shelf's: FOR A HAND-IN. Each laying: the table of numbers ('.._ren') and one theorem, a field a fact of the dump's own or the kernel's comparison; each contract: ONE APPLICATION.
-/
import Derived.Test.YtjijjfkalheokaaGreatDoorProg
import Derived.Shelf.Sort.Plain
import Derived.Shelf.Slices.In.SortNone
import Derived.Ground.NamesProg
namespace Go.Proofs
open Go.Shelf
def Tryz.sortInts_ren : Go.Shelf.Ren := ⟨fun | 189 => 106 | 125 => 101 | 257 => 135 | 128 => 132 | 129 => 133 | 294 => 150 | 295 => 151 | 296 => 152 | 297 => 153 | 298 => 154 | 299 => 155 | 216 => 156 | 300 => 157 | 301 => 158 | 328 => 172 | 329 => 146 | 330 => 147 | 331 => 173 | 332 => 174 | 215 => 121 | 343 => 187 | n => n, fun | 28 => 22 | 3 => 3 | 46 => 114 | 0 => 0 | 51 => 152 | 53 => 155 | 4 => 4 | 183 => 160 | 182 => 159 | 131 => 129 | 5 => 5 | 9 => 9 | 218 => 175 | 222 => 179 | 228 => 196 | 229 => 197 | n => n, fun | n => n⟩
theorem Tryz.sortInts : Go.Proofs.Lays.n189 Tryz.prog Tryz.sortInts_ren := {
  mixed := by kernel_rfl
  f125 := Tryz.func101.trans (congrArg some (by kernel_rfl))
  f128 := Tryz.func132.trans (congrArg some (by kernel_rfl))
  f129 := Tryz.func133.trans (congrArg some (by kernel_rfl))
  f189 := Tryz.func106.trans (congrArg some (by kernel_rfl))
  f215 := Tryz.func121.trans (congrArg some (by kernel_rfl))
  f216 := Tryz.func156.trans (congrArg some (by kernel_rfl))
  f257 := Tryz.func135.trans (congrArg some (by kernel_rfl))
  f294 := Tryz.func150.trans (congrArg some (by kernel_rfl))
  f295 := Tryz.func151.trans (congrArg some (by kernel_rfl))
  f296 := Tryz.func152.trans (congrArg some (by kernel_rfl))
  f297 := Tryz.func153.trans (congrArg some (by kernel_rfl))
  f298 := Tryz.func154.trans (congrArg some (by kernel_rfl))
  f299 := Tryz.func155.trans (congrArg some (by kernel_rfl))
  f300 := Tryz.func157.trans (congrArg some (by kernel_rfl))
  f301 := Tryz.func158.trans (congrArg some (by kernel_rfl))
  f328 := Tryz.func172.trans (congrArg some (by kernel_rfl))
  f329 := Tryz.func146.trans (congrArg some (by kernel_rfl))
  f330 := Tryz.func147.trans (congrArg some (by kernel_rfl))
  f331 := Tryz.func173.trans (congrArg some (by kernel_rfl))
  f332 := Tryz.func174.trans (congrArg some (by kernel_rfl))
  f343 := Tryz.func187.trans (congrArg some (by kernel_rfl))
  t0 := Tryz.underlying0
  a0 := Tryz.isAgg0
  z0 := Tryz.sizeOf0
  v0 := Tryz.zeroValue0
  t3 := Tryz.underlying3
  a3 := Tryz.isAgg3
  z3 := Tryz.sizeOf3
  v3 := Tryz.zeroValue3
  t4 := Tryz.underlying4
  a4 := Tryz.isAgg4
  z4 := Tryz.sizeOf4
  v4 := Tryz.zeroValue4
  t5 := Tryz.underlying5
  a5 := Tryz.isAgg5
  z5 := Tryz.sizeOf5
  v5 := Tryz.zeroValue5
  t9 := Tryz.underlying9
  a9 := Tryz.isAgg9
  z9 := Tryz.sizeOf9
  v9 := Tryz.zeroValue9
  t28 := Tryz.underlying22
  a28 := Tryz.isAgg22
  z28 := Tryz.sizeOf22
  v28 := Tryz.zeroValue22
  t46 := Tryz.underlying114
  a46 := Tryz.isAgg114
  z46 := Tryz.sizeOf114
  v46 := Tryz.zeroValue114
  t51 := Tryz.underlying152
  a51 := Tryz.isAgg152
  z51 := Tryz.sizeOf152
  v51 := Tryz.zeroValue152
  t53 := Tryz.underlying155
  a53 := Tryz.isAgg155
  z53 := Tryz.sizeOf155
  v53 := Tryz.zeroValue155
  t131 := Tryz.underlying129
  a131 := Tryz.isAgg129
  z131 := Tryz.sizeOf129
  v131 := Tryz.zeroValue129
  t182 := Tryz.underlying159
  a182 := Tryz.isAgg159
  z182 := Tryz.sizeOf159
  v182 := Tryz.zeroValue159
  t183 := Tryz.underlying160
  a183 := Tryz.isAgg160
  z183 := Tryz.sizeOf160
  v183 := Tryz.zeroValue160
  t218 := Tryz.underlying175
  a218 := Tryz.isAgg175
  z218 := Tryz.sizeOf175
  v218 := Tryz.zeroValue175
  t222 := Tryz.underlying179
  a222 := Tryz.isAgg179
  z222 := Tryz.sizeOf179
  v222 := Tryz.zeroValue179
  t228 := Tryz.underlying196
  a228 := Tryz.isAgg196
  z228 := Tryz.sizeOf196
  v228 := Tryz.zeroValue196
  t229 := Tryz.underlying197
  a229 := Tryz.isAgg197
  z229 := Tryz.sizeOf197
  v229 := Tryz.zeroValue197 }
end Go.Proofs
