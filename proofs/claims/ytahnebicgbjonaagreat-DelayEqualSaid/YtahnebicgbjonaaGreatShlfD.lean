/-
  DERIVED: THE SHELF's CONTRACTS AT THIS DUMP, IN PLAIN WORDS (tools/lay-plain.mjs out of 'YtahnebicgbjonaaGreatShlfD0.lean', which tools/lay-shelf.mjs wrote): THE SAME DECLARATIONS UNDER THE SAME NAMES: 'import', 'namespace', 'open', 'def', 'theorem' AND NOTHING ELSE: no command of the shelf's: FOR A HAND-IN. Each laying: the table of numbers ('.._ren') and one theorem, a field a fact of the dump's own or the kernel's comparison; each contract: ONE APPLICATION.
-/
import Derived.Test.YtahnebicgbjonaaGreatProg
import Derived.Shelf.SlSortCmp.NoneTotal
import Derived.Shelf.SlGeneric
import Derived.Ground.SlsfProg
import Derived.Ground.NamesProg
namespace Go.Proofs
open Go.Shelf
def Tryz.sortArrows_ren : Go.Shelf.Ren := ⟨fun | 6 => 61 | 15 => 78 | 14 => 77 | 28 => 97 | 29 => 98 | 20 => 89 | 21 => 90 | 22 => 91 | 23 => 92 | 24 => 93 | 25 => 94 | 26 => 95 | 27 => 96 | 46 => 101 | 47 => 102 | 48 => 103 | 49 => 104 | 50 => 105 | 57 => 114 | n => n, fun | 22 => 71 | 24 => 73 | 25 => 97 | 3 => 3 | 39 => 100 | 0 => 0 | 53 => 116 | 55 => 119 | 4 => 4 | 46 => 124 | 45 => 123 | 50 => 95 | 5 => 5 | 9 => 9 | 66 => 133 | 70 => 137 | 76 => 144 | 77 => 145 | n => n, fun | n => n⟩
theorem Tryz.sortArrows : Go.Proofs.SlLaysF0.n6 Tryz.prog Tryz.sortArrows_ren := {
  mixed := by kernel_rfl
  f6 := ⟨Tryz.f61.name, by decide, Tryz.func61.trans (congrArg some (by kernel_rfl))⟩
  f14 := ⟨Tryz.f77.name, by decide, Tryz.func77.trans (congrArg some (by kernel_rfl))⟩
  f15 := Tryz.func78.trans (congrArg some (by kernel_rfl))
  f20 := ⟨Tryz.f89.name, by decide, Tryz.func89.trans (congrArg some (by kernel_rfl))⟩
  f21 := ⟨Tryz.f90.name, by decide, Tryz.func90.trans (congrArg some (by kernel_rfl))⟩
  f22 := ⟨Tryz.f91.name, by decide, Tryz.func91.trans (congrArg some (by kernel_rfl))⟩
  f23 := ⟨Tryz.f92.name, by decide, Tryz.func92.trans (congrArg some (by kernel_rfl))⟩
  f24 := ⟨Tryz.f93.name, by decide, Tryz.func93.trans (congrArg some (by kernel_rfl))⟩
  f25 := ⟨Tryz.f94.name, by decide, Tryz.func94.trans (congrArg some (by kernel_rfl))⟩
  f26 := ⟨Tryz.f95.name, by decide, Tryz.func95.trans (congrArg some (by kernel_rfl))⟩
  f27 := ⟨Tryz.f96.name, by decide, Tryz.func96.trans (congrArg some (by kernel_rfl))⟩
  f28 := Tryz.func97.trans (congrArg some (by kernel_rfl))
  f29 := Tryz.func98.trans (congrArg some (by kernel_rfl))
  f46 := ⟨Tryz.f101.name, by decide, Tryz.func101.trans (congrArg some (by kernel_rfl))⟩
  f47 := Tryz.func102.trans (congrArg some (by kernel_rfl))
  f48 := Tryz.func103.trans (congrArg some (by kernel_rfl))
  f49 := ⟨Tryz.f104.name, by decide, Tryz.func104.trans (congrArg some (by kernel_rfl))⟩
  f50 := ⟨Tryz.f105.name, by decide, Tryz.func105.trans (congrArg some (by kernel_rfl))⟩
  f57 := ⟨Tryz.f114.name, by decide, Tryz.func114.trans (congrArg some (by kernel_rfl))⟩
  t0 := Tryz.underlying0
  a0 := Tryz.isAgg0
  z0 := Tryz.sizeOf0
  v0 := Tryz.zeroValue0
  t3 := Tryz.underlying3
  a3 := Tryz.isAgg3
  z3 := Tryz.sizeOf3
  v3 := Tryz.zeroValue3
  t4 := Tryz.underlying4
  a4 := Tryz.isAgg4
  z4 := Tryz.sizeOf4
  v4 := Tryz.zeroValue4
  t5 := Tryz.underlying5
  a5 := Tryz.isAgg5
  z5 := Tryz.sizeOf5
  v5 := Tryz.zeroValue5
  t9 := Tryz.underlying9
  a9 := Tryz.isAgg9
  z9 := Tryz.sizeOf9
  v9 := Tryz.zeroValue9
  t22 := Tryz.underlying71
  a22 := Tryz.isAgg71
  z22 := Tryz.sizeOf71
  v22 := Tryz.zeroValue71
  t25 := Tryz.underlying97
  a25 := Tryz.isAgg97
  z25 := Tryz.sizeOf97
  v25 := Tryz.zeroValue97
  t39 := Tryz.underlying100
  a39 := Tryz.isAgg100
  z39 := Tryz.sizeOf100
  v39 := Tryz.zeroValue100
  t45 := Tryz.underlying123
  a45 := Tryz.isAgg123
  z45 := Tryz.sizeOf123
  v45 := Tryz.zeroValue123
  t46 := Tryz.underlying124
  a46 := Tryz.isAgg124
  z46 := Tryz.sizeOf124
  v46 := Tryz.zeroValue124
  t50 := Tryz.underlying95
  a50 := Tryz.isAgg95
  z50 := Tryz.sizeOf95
  v50 := Tryz.zeroValue95
  t53 := Tryz.underlying116
  a53 := Tryz.isAgg116
  z53 := Tryz.sizeOf116
  v53 := Tryz.zeroValue116
  t55 := Tryz.underlying119
  a55 := Tryz.isAgg119
  z55 := Tryz.sizeOf119
  v55 := Tryz.zeroValue119
  t66 := Tryz.underlying133
  a66 := Tryz.isAgg133
  z66 := Tryz.sizeOf133
  v66 := Tryz.zeroValue133
  t70 := Tryz.underlying137
  a70 := Tryz.isAgg137
  z70 := Tryz.sizeOf137
  v70 := Tryz.zeroValue137
  t76 := Tryz.underlying144
  a76 := Tryz.isAgg144
  z76 := Tryz.sizeOf144
  v76 := Tryz.zeroValue144
  t77 := Tryz.underlying145
  a77 := Tryz.isAgg145
  z77 := Tryz.sizeOf145
  v77 := Tryz.zeroValue145 }
end Go.Proofs
