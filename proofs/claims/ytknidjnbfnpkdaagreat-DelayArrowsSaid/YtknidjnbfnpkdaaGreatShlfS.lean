/-
  DERIVED: THE SHELF's CONTRACTS AT THIS DUMP, IN PLAIN WORDS (tools/lay-plain.mjs out of 'YtknidjnbfnpkdaaGreatShlfS0.lean', which tools/lay-shelf.mjs wrote): THE SAME DECLARATIONS UNDER THE SAME NAMES: 'import', 'namespace', 'open', 'def', 'theorem' AND NOTHING ELSE: no command of the shelf's: FOR A HAND-IN. Each laying: the table of numbers ('.._ren') and one theorem, a field a fact of the dump's own or the kernel's comparison; each contract: ONE APPLICATION.
-/
import Derived.Test.YtknidjnbfnpkdaaGreatProg
import Derived.Shelf.Sort.Plain
import Derived.Shelf.Slices.In.SortNone
import Derived.Ground.NamesProg
namespace Go.Proofs
open Go.Shelf
def Tryz.sortInts_ren : Go.Shelf.Ren := ⟨fun | 189 => 36 | 125 => 49 | 257 => 48 | 128 => 71 | 129 => 72 | 294 => 62 | 295 => 63 | 296 => 64 | 297 => 65 | 298 => 66 | 299 => 67 | 216 => 68 | 300 => 69 | 301 => 70 | 328 => 80 | 329 => 81 | 330 => 82 | 331 => 83 | 332 => 84 | 215 => 61 | 343 => 96 | n => n, fun | 28 => 22 | 3 => 3 | 46 => 85 | 0 => 0 | 51 => 115 | 53 => 117 | 4 => 4 | 183 => 108 | 182 => 107 | 131 => 100 | 5 => 5 | 9 => 9 | 218 => 123 | 222 => 127 | 228 => 139 | 229 => 140 | n => n, fun | n => n⟩
theorem Tryz.sortInts : Go.Proofs.Lays.n189 Tryz.prog Tryz.sortInts_ren := {
  mixed := by kernel_rfl
  f125 := Tryz.func49.trans (congrArg some (by kernel_rfl))
  f128 := Tryz.func71.trans (congrArg some (by kernel_rfl))
  f129 := Tryz.func72.trans (congrArg some (by kernel_rfl))
  f189 := Tryz.func36.trans (congrArg some (by kernel_rfl))
  f215 := Tryz.func61.trans (congrArg some (by kernel_rfl))
  f216 := Tryz.func68.trans (congrArg some (by kernel_rfl))
  f257 := Tryz.func48.trans (congrArg some (by kernel_rfl))
  f294 := Tryz.func62.trans (congrArg some (by kernel_rfl))
  f295 := Tryz.func63.trans (congrArg some (by kernel_rfl))
  f296 := Tryz.func64.trans (congrArg some (by kernel_rfl))
  f297 := Tryz.func65.trans (congrArg some (by kernel_rfl))
  f298 := Tryz.func66.trans (congrArg some (by kernel_rfl))
  f299 := Tryz.func67.trans (congrArg some (by kernel_rfl))
  f300 := Tryz.func69.trans (congrArg some (by kernel_rfl))
  f301 := Tryz.func70.trans (congrArg some (by kernel_rfl))
  f328 := Tryz.func80.trans (congrArg some (by kernel_rfl))
  f329 := Tryz.func81.trans (congrArg some (by kernel_rfl))
  f330 := Tryz.func82.trans (congrArg some (by kernel_rfl))
  f331 := Tryz.func83.trans (congrArg some (by kernel_rfl))
  f332 := Tryz.func84.trans (congrArg some (by kernel_rfl))
  f343 := Tryz.func96.trans (congrArg some (by kernel_rfl))
  t0 := Tryz.underlying0
  a0 := Tryz.isAgg0
  z0 := Tryz.sizeOf0
  v0 := Tryz.zeroValue0
  t3 := Tryz.underlying3
  a3 := Tryz.isAgg3
  z3 := Tryz.sizeOf3
  v3 := Tryz.zeroValue3
  t4 := Tryz.underlying4
  a4 := Tryz.isAgg4
  z4 := Tryz.sizeOf4
  v4 := Tryz.zeroValue4
  t5 := Tryz.underlying5
  a5 := Tryz.isAgg5
  z5 := Tryz.sizeOf5
  v5 := Tryz.zeroValue5
  t9 := Tryz.underlying9
  a9 := Tryz.isAgg9
  z9 := Tryz.sizeOf9
  v9 := Tryz.zeroValue9
  t28 := Tryz.underlying22
  a28 := Tryz.isAgg22
  z28 := Tryz.sizeOf22
  v28 := Tryz.zeroValue22
  t46 := Tryz.underlying85
  a46 := Tryz.isAgg85
  z46 := Tryz.sizeOf85
  v46 := Tryz.zeroValue85
  t51 := Tryz.underlying115
  a51 := Tryz.isAgg115
  z51 := Tryz.sizeOf115
  v51 := Tryz.zeroValue115
  t53 := Tryz.underlying117
  a53 := Tryz.isAgg117
  z53 := Tryz.sizeOf117
  v53 := Tryz.zeroValue117
  t131 := Tryz.underlying100
  a131 := Tryz.isAgg100
  z131 := Tryz.sizeOf100
  v131 := Tryz.zeroValue100
  t182 := Tryz.underlying107
  a182 := Tryz.isAgg107
  z182 := Tryz.sizeOf107
  v182 := Tryz.zeroValue107
  t183 := Tryz.underlying108
  a183 := Tryz.isAgg108
  z183 := Tryz.sizeOf108
  v183 := Tryz.zeroValue108
  t218 := Tryz.underlying123
  a218 := Tryz.isAgg123
  z218 := Tryz.sizeOf123
  v218 := Tryz.zeroValue123
  t222 := Tryz.underlying127
  a222 := Tryz.isAgg127
  z222 := Tryz.sizeOf127
  v222 := Tryz.zeroValue127
  t228 := Tryz.underlying139
  a228 := Tryz.isAgg139
  z228 := Tryz.sizeOf139
  v228 := Tryz.zeroValue139
  t229 := Tryz.underlying140
  a229 := Tryz.isAgg140
  z229 := Tryz.sizeOf140
  v229 := Tryz.zeroValue140 }
end Go.Proofs
