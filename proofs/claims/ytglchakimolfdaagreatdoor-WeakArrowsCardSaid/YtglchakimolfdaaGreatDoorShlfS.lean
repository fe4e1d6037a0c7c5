/-
  DERIVED: THE SHELF's CONTRACTS AT THIS DUMP, IN PLAIN WORDS (tools/lay-plain.mjs out of 'YtglchakimolfdaaGreatDoorShlfS0.lean', which tools/lay-shelf.mjs wrote): THE SAME DECLARATIONS UNDER THE SAME NAMES: 'import', 'namespace', 'open', 'def', 'theorem' AND NOTHING ELSE: no command of the shelf's: FOR A HAND-IN. Each laying: the table of numbers ('.._ren') and one theorem, a field a fact of the dump's own or the kernel's comparison; each contract: ONE APPLICATION.
-/
import Derived.Test.YtglchakimolfdaaGreatDoorProg
import Derived.Shelf.Sort.Plain
import Derived.Shelf.Slices.In.SortNone
import Derived.Ground.NamesProg
namespace Go.Proofs
open Go.Shelf
def Tryz.sortInts_ren : Go.Shelf.Ren := ⟨fun | 189 => 84 | 125 => 108 | 257 => 107 | 128 => 127 | 129 => 128 | 294 => 118 | 295 => 119 | 296 => 120 | 297 => 121 | 298 => 122 | 299 => 123 | 216 => 124 | 300 => 125 | 301 => 126 | 328 => 147 | 329 => 148 | 330 => 149 | 331 => 150 | 332 => 151 | 215 => 103 | 343 => 158 | n => n, fun | 28 => 22 | 3 => 3 | 46 => 131 | 0 => 0 | 51 => 145 | 53 => 135 | 4 => 4 | 183 => 153 | 182 => 152 | 131 => 108 | 5 => 5 | 9 => 9 | 218 => 172 | 222 => 176 | 228 => 182 | 229 => 183 | n => n, fun | n => n⟩
theorem Tryz.sortInts : Go.Proofs.Lays.n189 Tryz.prog Tryz.sortInts_ren := {
  mixed := by kernel_rfl
  f125 := Tryz.func108.trans (congrArg some (by kernel_rfl))
  f128 := Tryz.func127.trans (congrArg some (by kernel_rfl))
  f129 := Tryz.func128.trans (congrArg some (by kernel_rfl))
  f189 := Tryz.func84.trans (congrArg some (by kernel_rfl))
  f215 := Tryz.func103.trans (congrArg some (by kernel_rfl))
  f216 := Tryz.func124.trans (congrArg some (by kernel_rfl))
  f257 := Tryz.func107.trans (congrArg some (by kernel_rfl))
  f294 := Tryz.func118.trans (congrArg some (by kernel_rfl))
  f295 := Tryz.func119.trans (congrArg some (by kernel_rfl))
  f296 := Tryz.func120.trans (congrArg some (by kernel_rfl))
  f297 := Tryz.func121.trans (congrArg some (by kernel_rfl))
  f298 := Tryz.func122.trans (congrArg some (by kernel_rfl))
  f299 := Tryz.func123.trans (congrArg some (by kernel_rfl))
  f300 := Tryz.func125.trans (congrArg some (by kernel_rfl))
  f301 := Tryz.func126.trans (congrArg some (by kernel_rfl))
  f328 := Tryz.func147.trans (congrArg some (by kernel_rfl))
  f329 := Tryz.func148.trans (congrArg some (by kernel_rfl))
  f330 := Tryz.func149.trans (congrArg some (by kernel_rfl))
  f331 := Tryz.func150.trans (congrArg some (by kernel_rfl))
  f332 := Tryz.func151.trans (congrArg some (by kernel_rfl))
  f343 := Tryz.func158.trans (congrArg some (by kernel_rfl))
  t0 := Tryz.underlying0
  a0 := Tryz.isAgg0
  z0 := Tryz.sizeOf0
  v0 := Tryz.zeroValue0
  t3 := Tryz.underlying3
  a3 := Tryz.isAgg3
  z3 := Tryz.sizeOf3
  v3 := Tryz.zeroValue3
  t4 := Tryz.underlying4
  a4 := Tryz.isAgg4
  z4 := Tryz.sizeOf4
  v4 := Tryz.zeroValue4
  t5 := Tryz.underlying5
  a5 := Tryz.isAgg5
  z5 := Tryz.sizeOf5
  v5 := Tryz.zeroValue5
  t9 := Tryz.underlying9
  a9 := Tryz.isAgg9
  z9 := Tryz.sizeOf9
  v9 := Tryz.zeroValue9
  t28 := Tryz.underlying22
  a28 := Tryz.isAgg22
  z28 := Tryz.sizeOf22
  v28 := Tryz.zeroValue22
  t46 := Tryz.underlying131
  a46 := Tryz.isAgg131
  z46 := Tryz.sizeOf131
  v46 := Tryz.zeroValue131
  t51 := Tryz.underlying145
  a51 := Tryz.isAgg145
  z51 := Tryz.sizeOf145
  v51 := Tryz.zeroValue145
  t53 := Tryz.underlying135
  a53 := Tryz.isAgg135
  z53 := Tryz.sizeOf135
  v53 := Tryz.zeroValue135
  t131 := Tryz.underlying108
  a131 := Tryz.isAgg108
  z131 := Tryz.sizeOf108
  v131 := Tryz.zeroValue108
  t182 := Tryz.underlying152
  a182 := Tryz.isAgg152
  z182 := Tryz.sizeOf152
  v182 := Tryz.zeroValue152
  t183 := Tryz.underlying153
  a183 := Tryz.isAgg153
  z183 := Tryz.sizeOf153
  v183 := Tryz.zeroValue153
  t218 := Tryz.underlying172
  a218 := Tryz.isAgg172
  z218 := Tryz.sizeOf172
  v218 := Tryz.zeroValue172
  t222 := Tryz.underlying176
  a222 := Tryz.isAgg176
  z222 := Tryz.sizeOf176
  v222 := Tryz.zeroValue176
  t228 := Tryz.underlying182
  a228 := Tryz.isAgg182
  z228 := Tryz.sizeOf182
  v228 := Tryz.zeroValue182
  t229 := Tryz.underlying183
  a229 := Tryz.isAgg183
  z229 := Tryz.sizeOf183
  v229 := Tryz.zeroValue183 }
end Go.Proofs
