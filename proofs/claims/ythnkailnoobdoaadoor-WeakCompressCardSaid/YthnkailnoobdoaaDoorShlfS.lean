/-
  DERIVED: THE SHELF's CONTRACTS AT THIS DUMP, IN PLAIN WORDS (tools/lay-plain.mjs out of 'YthnkailnoobdoaaDoorShlfS0.lean', which tools/lay-shelf.mjs wrote): THE SAME DECLARATIONS UNDER THE SAME NAMES: 'import', 'namespace', 'open', 'def', 'theorem' AND NOTHING ELSE: no command of the shelf's: FOR A HAND-IN. Each laying: the table of numbers ('.._ren') and one theorem, a field a fact of the dump's own or the kernel's comparison; each contract: ONE APPLICATION.
-/
import Derived.Test.YthnkailnoobdoaaDoorProg
import Derived.Shelf.Sort.Plain
import Derived.Shelf.Slices.In.SortNone
import Derived.Ground.NamesProg
namespace Go.Proofs
open Go.Shelf
def Tryd.sortInts_ren : Go.Shelf.Ren := ⟨fun | 189 => 66 | 125 => 70 | 257 => 81 | 128 => 92 | 129 => 93 | 294 => 95 | 295 => 96 | 296 => 97 | 297 => 98 | 298 => 99 | 299 => 100 | 216 => 101 | 300 => 102 | 301 => 103 | 328 => 109 | 329 => 105 | 330 => 106 | 331 => 110 | 332 => 111 | 215 => 78 | 343 => 113 | n => n, fun | 28 => 22 | 3 => 3 | 46 => 117 | 0 => 0 | 51 => 132 | 53 => 128 | 4 => 4 | 183 => 139 | 182 => 138 | 131 => 104 | 5 => 5 | 9 => 9 | 218 => 153 | 222 => 157 | 228 => 161 | 229 => 162 | n => n, fun | n => n⟩
theorem Tryd.sortInts : Go.Proofs.Lays.n189 Tryd.prog Tryd.sortInts_ren := {
  mixed := by kernel_rfl
  f125 := Tryd.func70.trans (congrArg some (by kernel_rfl))
  f128 := Tryd.func92.trans (congrArg some (by kernel_rfl))
  f129 := Tryd.func93.trans (congrArg some (by kernel_rfl))
  f189 := Tryd.func66.trans (congrArg some (by kernel_rfl))
  f215 := Tryd.func78.trans (congrArg some (by kernel_rfl))
  f216 := Tryd.func101.trans (congrArg some (by kernel_rfl))
  f257 := Tryd.func81.trans (congrArg some (by kernel_rfl))
  f294 := Tryd.func95.trans (congrArg some (by kernel_rfl))
  f295 := Tryd.func96.trans (congrArg some (by kernel_rfl))
  f296 := Tryd.func97.trans (congrArg some (by kernel_rfl))
  f297 := Tryd.func98.trans (congrArg some (by kernel_rfl))
  f298 := Tryd.func99.trans (congrArg some (by kernel_rfl))
  f299 := Tryd.func100.trans (congrArg some (by kernel_rfl))
  f300 := Tryd.func102.trans (congrArg some (by kernel_rfl))
  f301 := Tryd.func103.trans (congrArg some (by kernel_rfl))
  f328 := Tryd.func109.trans (congrArg some (by kernel_rfl))
  f329 := Tryd.func105.trans (congrArg some (by kernel_rfl))
  f330 := Tryd.func106.trans (congrArg some (by kernel_rfl))
  f331 := Tryd.func110.trans (congrArg some (by kernel_rfl))
  f332 := Tryd.func111.trans (congrArg some (by kernel_rfl))
  f343 := Tryd.func113.trans (congrArg some (by kernel_rfl))
  t0 := Tryd.underlying0
  a0 := Tryd.isAgg0
  z0 := Tryd.sizeOf0
  v0 := Tryd.zeroValue0
  t3 := Tryd.underlying3
  a3 := Tryd.isAgg3
  z3 := Tryd.sizeOf3
  v3 := Tryd.zeroValue3
  t4 := Tryd.underlying4
  a4 := Tryd.isAgg4
  z4 := Tryd.sizeOf4
  v4 := Tryd.zeroValue4
  t5 := Tryd.underlying5
  a5 := Tryd.isAgg5
  z5 := Tryd.sizeOf5
  v5 := Tryd.zeroValue5
  t9 := Tryd.underlying9
  a9 := Tryd.isAgg9
  z9 := Tryd.sizeOf9
  v9 := Tryd.zeroValue9
  t28 := Tryd.underlying22
  a28 := Tryd.isAgg22
  z28 := Tryd.sizeOf22
  v28 := Tryd.zeroValue22
  t46 := Tryd.underlying117
  a46 := Tryd.isAgg117
  z46 := Tryd.sizeOf117
  v46 := Tryd.zeroValue117
  t51 := Tryd.underlying132
  a51 := Tryd.isAgg132
  z51 := Tryd.sizeOf132
  v51 := Tryd.zeroValue132
  t53 := Tryd.underlying128
  a53 := Tryd.isAgg128
  z53 := Tryd.sizeOf128
  v53 := Tryd.zeroValue128
  t131 := Tryd.underlying104
  a131 := Tryd.isAgg104
  z131 := Tryd.sizeOf104
  v131 := Tryd.zeroValue104
  t182 := Tryd.underlying138
  a182 := Tryd.isAgg138
  z182 := Tryd.sizeOf138
  v182 := Tryd.zeroValue138
  t183 := Tryd.underlying139
  a183 := Tryd.isAgg139
  z183 := Tryd.sizeOf139
  v183 := Tryd.zeroValue139
  t218 := Tryd.underlying153
  a218 := Tryd.isAgg153
  z218 := Tryd.sizeOf153
  v218 := Tryd.zeroValue153
  t222 := Tryd.underlying157
  a222 := Tryd.isAgg157
  z222 := Tryd.sizeOf157
  v222 := Tryd.zeroValue157
  t228 := Tryd.underlying161
  a228 := Tryd.isAgg161
  z228 := Tryd.sizeOf161
  v228 := Tryd.zeroValue161
  t229 := Tryd.underlying162
  a229 := Tryd.isAgg162
  z229 := Tryd.sizeOf162
  v229 := Tryd.zeroValue162 }
end Go.Proofs
