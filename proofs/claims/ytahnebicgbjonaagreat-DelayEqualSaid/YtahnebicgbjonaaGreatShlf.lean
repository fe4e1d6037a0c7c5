/-
  DERIVED: THE SHELF's CONTRACTS AT THIS DUMP, IN PLAIN WORDS (tools/lay-plain.mjs out of 'YtahnebicgbjonaaGreatShlf0.lean', which tools/lay-shelf.mjs wrote): THE SAME DECLARATIONS UNDER THE SAME NAMES: 'import', 'namespace', 'open', 'def', 'theorem' AND NOTHING ELSE: no command of the shelf's: FOR A HAND-IN. Each laying: the table of numbers ('.._ren') and one theorem, a field a fact of the dump's own or the kernel's comparison; each contract: ONE APPLICATION.
-/
import Derived.Test.YtahnebicgbjonaaGreatProg
import Derived.Shelf.SlSortCmp.NoneTotal
import Derived.Shelf.SlGeneric
import Derived.Ground.SlsfProg
import Derived.Shelf.Bits.Mul64
import Derived.Ground.NamesProg
namespace Go.Proofs
open Go.Shelf
def Tryz.sortArcs_ren : Go.Shelf.Ren := ⟨fun | 6 => 84 | 15 => 78 | 14 => 100 | 28 => 97 | 29 => 98 | 20 => 106 | 21 => 107 | 22 => 108 | 23 => 109 | 24 => 110 | 25 => 111 | 26 => 112 | 27 => 113 | 46 => 115 | 47 => 102 | 48 => 103 | 49 => 116 | 50 => 117 | 57 => 118 | n => n, fun | 22 => 45 | 24 => 49 | 25 => 63 | 3 => 3 | 39 => 100 | 0 => 0 | 53 => 116 | 55 => 119 | 4 => 4 | 46 => 124 | 45 => 123 | 50 => 95 | 5 => 5 | 9 => 9 | 66 => 133 | 70 => 137 | 76 => 144 | 77 => 145 | n => n, fun | n => n⟩
theorem Tryz.sortArcs : Go.Proofs.SlLaysF0.n6 Tryz.prog Tryz.sortArcs_ren := {
  mixed := by kernel_rfl
  f6 := ⟨Tryz.f84.name, by decide, Tryz.func84.trans (congrArg some (by kernel_rfl))⟩
  f14 := ⟨Tryz.f100.name, by decide, Tryz.func100.trans (congrArg some (by kernel_rfl))⟩
  f15 := Tryz.func78.trans (congrArg some (by kernel_rfl))
  f20 := ⟨Tryz.f106.name, by decide, Tryz.func106.trans (congrArg some (by kernel_rfl))⟩
  f21 := ⟨Tryz.f107.name, by decide, Tryz.func107.trans (congrArg some (by kernel_rfl))⟩
  f22 := ⟨Tryz.f108.name, by decide, Tryz.func108.trans (congrArg some (by kernel_rfl))⟩
  f23 := ⟨Tryz.f109.name, by decide, Tryz.func109.trans (congrArg some (by kernel_rfl))⟩
  f24 := ⟨Tryz.f110.name, by decide, Tryz.func110.trans (congrArg some (by kernel_rfl))⟩
  f25 := ⟨Tryz.f111.name, by decide, Tryz.func111.trans (congrArg some (by kernel_rfl))⟩
  f26 := ⟨Tryz.f112.name, by decide, Tryz.func112.trans (congrArg some (by kernel_rfl))⟩
  f27 := ⟨Tryz.f113.name, by decide, Tryz.func113.trans (congrArg some (by kernel_rfl))⟩
  f28 := Tryz.func97.trans (congrArg some (by kernel_rfl))
  f29 := Tryz.func98.trans (congrArg some (by kernel_rfl))
  f46 := ⟨Tryz.f115.name, by decide, Tryz.func115.trans (congrArg some (by kernel_rfl))⟩
  f47 := Tryz.func102.trans (congrArg some (by kernel_rfl))
  f48 := Tryz.func103.trans (congrArg some (by kernel_rfl))
  f49 := ⟨Tryz.f116.name, by decide, Tryz.func116.trans (congrArg some (by kernel_rfl))⟩
  f50 := ⟨Tryz.f117.name, by decide, Tryz.func117.trans (congrArg some (by kernel_rfl))⟩
  f57 := ⟨Tryz.f118.name, by decide, Tryz.func118.trans (congrArg some (by kernel_rfl))⟩
  t0 := Tryz.underlying0
  a0 := Tryz.isAgg0
  z0 := Tryz.sizeOf0
  v0 := Tryz.zeroValue0
  t3 := Tryz.underlying3
  a3 := Tryz.isAgg3
  z3 := Tryz.sizeOf3
  v3 := Tryz.zeroValue3
  t4 := Tryz.underlying4
  a4 := Tryz.isAgg4
  z4 := Tryz.sizeOf4
  v4 := Tryz.zeroValue4
  t5 := Tryz.underlying5
  a5 := Tryz.isAgg5
  z5 := Tryz.sizeOf5
  v5 := Tryz.zeroValue5
  t9 := Tryz.underlying9
  a9 := Tryz.isAgg9
  z9 := Tryz.sizeOf9
  v9 := Tryz.zeroValue9
  t22 := Tryz.underlying45
  a22 := Tryz.isAgg45
  z22 := Tryz.sizeOf45
  v22 := Tryz.zeroValue45
  t25 := Tryz.underlying63
  a25 := Tryz.isAgg63
  z25 := Tryz.sizeOf63
  v25 := Tryz.zeroValue63
  t39 := Tryz.underlying100
  a39 := Tryz.isAgg100
  z39 := Tryz.sizeOf100
  v39 := Tryz.zeroValue100
  t45 := Tryz.underlying123
  a45 := Tryz.isAgg123
  z45 := Tryz.sizeOf123
  v45 := Tryz.zeroValue123
  t46 := Tryz.underlying124
  a46 := Tryz.isAgg124
  z46 := Tryz.sizeOf124
  v46 := Tryz.zeroValue124
  t50 := Tryz.underlying95
  a50 := Tryz.isAgg95
  z50 := Tryz.sizeOf95
  v50 := Tryz.zeroValue95
  t53 := Tryz.underlying116
  a53 := Tryz.isAgg116
  z53 := Tryz.sizeOf116
  v53 := Tryz.zeroValue116
  t55 := Tryz.underlying119
  a55 := Tryz.isAgg119
  z55 := Tryz.sizeOf119
  v55 := Tryz.zeroValue119
  t66 := Tryz.underlying133
  a66 := Tryz.isAgg133
  z66 := Tryz.sizeOf133
  v66 := Tryz.zeroValue133
  t70 := Tryz.underlying137
  a70 := Tryz.isAgg137
  z70 := Tryz.sizeOf137
  v70 := Tryz.zeroValue137
  t76 := Tryz.underlying144
  a76 := Tryz.isAgg144
  z76 := Tryz.sizeOf144
  v76 := Tryz.zeroValue144
  t77 := Tryz.underlying145
  a77 := Tryz.isAgg145
  z77 := Tryz.sizeOf145
  v77 := Tryz.zeroValue145 }
def Tryz.bitsMul_ren : Go.Shelf.Ren := ⟨fun | 212 => 75 | 263 => 87 | 264 => 88 | n => n, fun | 46 => 100 | 51 => 116 | 146 => 117 | 53 => 119 | 148 => 120 | n => n, fun | n => n⟩
theorem Tryz.bitsMul : Go.Proofs.Lays.n212 Tryz.prog Tryz.bitsMul_ren := {
  mixed := by kernel_rfl
  f212 := Tryz.func75.trans (congrArg some (by kernel_rfl))
  f263 := Tryz.func87.trans (congrArg some (by kernel_rfl))
  f264 := Tryz.func88.trans (congrArg some (by kernel_rfl))
  t46 := Tryz.underlying100
  a46 := Tryz.isAgg100
  z46 := Tryz.sizeOf100
  v46 := Tryz.zeroValue100
  t51 := Tryz.underlying116
  a51 := Tryz.isAgg116
  z51 := Tryz.sizeOf116
  v51 := Tryz.zeroValue116
  t53 := Tryz.underlying119
  a53 := Tryz.isAgg119
  z53 := Tryz.sizeOf119
  v53 := Tryz.zeroValue119
  t146 := Tryz.underlying117
  a146 := Tryz.isAgg117
  z146 := Tryz.sizeOf117
  v146 := Tryz.zeroValue117
  t148 := Tryz.underlying120
  a148 := Tryz.isAgg120
  z148 := Tryz.sizeOf120
  v148 := Tryz.zeroValue120 }
end Go.Proofs
