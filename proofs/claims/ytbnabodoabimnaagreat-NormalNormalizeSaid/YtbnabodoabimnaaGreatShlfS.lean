/-
  DERIVED: THE SHELF's CONTRACTS AT THIS DUMP, IN PLAIN WORDS (tools/lay-plain.mjs out of 'YtbnabodoabimnaaGreatShlfS0.lean', which tools/lay-shelf.mjs wrote): THE SAME DECLARATIONS UNDER THE SAME NAMES: 'import', 'namespace', 'open', 'def', 'theorem' AND NOTHING ELSE: no command of the shelf's: FOR A HAND-IN. Each laying: the table of numbers ('.._ren') and one theorem, a field a fact of the dump's own or the kernel's comparison; each contract: ONE APPLICATION.
-/
import Derived.Test.YtbnabodoabimnaaGreatProg
import Derived.Shelf.Sort.Plain
import Derived.Shelf.Slices.In.SortNone
import Derived.Ground.NamesProg
namespace Go.Proofs
open Go.Shelf
def Tryz.sortInts_ren : Go.Shelf.Ren := ⟨fun | 189 => 110 | 125 => 129 | 257 => 134 | 128 => 158 | 129 => 159 | 294 => 162 | 295 => 163 | 296 => 164 | 297 => 165 | 298 => 166 | 299 => 167 | 216 => 168 | 300 => 169 | 301 => 170 | 328 => 180 | 329 => 176 | 330 => 177 | 331 => 181 | 332 => 182 | 215 => 160 | 343 => 192 | n => n, fun | 28 => 37 | 3 => 3 | 46 => 137 | 0 => 0 | 51 => 157 | 53 => 160 | 4 => 4 | 183 => 166 | 182 => 165 | 131 => 83 | 5 => 5 | 9 => 9 | 218 => 181 | 222 => 185 | 228 => 194 | 229 => 195 | n => n, fun | n => n⟩
theorem Tryz.sortInts : Go.Proofs.Lays.n189 Tryz.prog Tryz.sortInts_ren := {
  mixed := by kernel_rfl
  f125 := Tryz.func129.trans (congrArg some (by kernel_rfl))
  f128 := Tryz.func158.trans (congrArg some (by kernel_rfl))
  f129 := Tryz.func159.trans (congrArg some (by kernel_rfl))
  f189 := Tryz.func110.trans (congrArg some (by kernel_rfl))
  f215 := Tryz.func160.trans (congrArg some (by kernel_rfl))
  f216 := Tryz.func168.trans (congrArg some (by kernel_rfl))
  f257 := Tryz.func134.trans (congrArg some (by kernel_rfl))
  f294 := Tryz.func162.trans (congrArg some (by kernel_rfl))
  f295 := Tryz.func163.trans (congrArg some (by kernel_rfl))
  f296 := Tryz.func164.trans (congrArg some (by kernel_rfl))
  f297 := Tryz.func165.trans (congrArg some (by kernel_rfl))
  f298 := Tryz.func166.trans (congrArg some (by kernel_rfl))
  f299 := Tryz.func167.trans (congrArg some (by kernel_rfl))
  f300 := Tryz.func169.trans (congrArg some (by kernel_rfl))
  f301 := Tryz.func170.trans (congrArg some (by kernel_rfl))
  f328 := Tryz.func180.trans (congrArg some (by kernel_rfl))
  f329 := Tryz.func176.trans (congrArg some (by kernel_rfl))
  f330 := Tryz.func177.trans (congrArg some (by kernel_rfl))
  f331 := Tryz.func181.trans (congrArg some (by kernel_rfl))
  f332 := Tryz.func182.trans (congrArg some (by kernel_rfl))
  f343 := Tryz.func192.trans (congrArg some (by kernel_rfl))
  t0 := Tryz.underlying0
  a0 := Tryz.isAgg0
  z0 := Tryz.sizeOf0
  v0 := Tryz.zeroValue0
  t3 := Tryz.underlying3
  a3 := Tryz.isAgg3
  z3 := Tryz.sizeOf3
  v3 := Tryz.zeroValue3
  t4 := Tryz.underlying4
  a4 := Tryz.isAgg4
  z4 := Tryz.sizeOf4
  v4 := Tryz.zeroValue4
  t5 := Tryz.underlying5
  a5 := Tryz.isAgg5
  z5 := Tryz.sizeOf5
  v5 := Tryz.zeroValue5
  t9 := Tryz.underlying9
  a9 := Tryz.isAgg9
  z9 := Tryz.sizeOf9
  v9 := Tryz.zeroValue9
  t28 := Tryz.underlying37
  a28 := Tryz.isAgg37
  z28 := Tryz.sizeOf37
  v28 := Tryz.zeroValue37
  t46 := Tryz.underlying137
  a46 := Tryz.isAgg137
  z46 := Tryz.sizeOf137
  v46 := Tryz.zeroValue137
  t51 := Tryz.underlying157
  a51 := Tryz.isAgg157
  z51 := Tryz.sizeOf157
  v51 := Tryz.zeroValue157
  t53 := Tryz.underlying160
  a53 := Tryz.isAgg160
  z53 := Tryz.sizeOf160
  v53 := Tryz.zeroValue160
  t131 := Tryz.underlying83
  a131 := Tryz.isAgg83
  z131 := Tryz.sizeOf83
  v131 := Tryz.zeroValue83
  t182 := Tryz.underlying165
  a182 := Tryz.isAgg165
  z182 := Tryz.sizeOf165
  v182 := Tryz.zeroValue165
  t183 := Tryz.underlying166
  a183 := Tryz.isAgg166
  z183 := Tryz.sizeOf166
  v183 := Tryz.zeroValue166
  t218 := Tryz.underlying181
  a218 := Tryz.isAgg181
  z218 := Tryz.sizeOf181
  v218 := Tryz.zeroValue181
  t222 := Tryz.underlying185
  a222 := Tryz.isAgg185
  z222 := Tryz.sizeOf185
  v222 := Tryz.zeroValue185
  t228 := Tryz.underlying194
  a228 := Tryz.isAgg194
  z228 := Tryz.sizeOf194
  v228 := Tryz.zeroValue194
  t229 := Tryz.underlying195
  a229 := Tryz.isAgg195
  z229 := Tryz.sizeOf195
  v229 := Tryz.zeroValue195 }
end Go.Proofs
