/-
  DERIVED: THE SHELF's CONTRACTS AT THIS DUMP, IN PLAIN WORDS (tools/lay-plain.mjs out of 'YtahnebicgbjonaaShlf0.lean', which tools/lay-shelf.mjs wrote): THE SAME DECLARATIONS UNDER THE SAME NAMES: 'import', 'namespace', 'open', 'def', 'theorem' AND NOTHING ELSE: no command of the shelf's: FOR A HAND-IN. Each laying: the table of numbers ('.._ren') and one theorem, a field a fact of the dump's own or the kernel's comparison; each contract: ONE APPLICATION.
-/
import Derived.Test.YtahnebicgbjonaaProg
import Derived.Shelf.SlSortCmp.NoneTotal
import Derived.Shelf.SlGeneric
import Derived.Ground.SlsfProg
import Derived.Shelf.Bits.Mul64
import Derived.Ground.NamesProg
namespace Go.Proofs
open Go.Shelf
def Try.sortArcs_ren : Go.Shelf.Ren := ⟨fun | 6 => 46 | 15 => 53 | 14 => 54 | 28 => 65 | 29 => 66 | 20 => 67 | 21 => 68 | 22 => 69 | 23 => 70 | 24 => 71 | 25 => 72 | 26 => 73 | 27 => 74 | 46 => 80 | 47 => 76 | 48 => 77 | 49 => 81 | 50 => 82 | 57 => 84 | n => n, fun | 22 => 38 | 24 => 42 | 25 => 55 | 3 => 3 | 39 => 91 | 0 => 0 | 53 => 100 | 55 => 103 | 4 => 4 | 46 => 108 | 45 => 107 | 50 => 86 | 5 => 5 | 9 => 9 | 66 => 120 | 70 => 124 | 76 => 128 | 77 => 129 | n => n, fun | n => n⟩
theorem Try.sortArcs : Go.Proofs.SlLaysF0.n6 Try.prog Try.sortArcs_ren := {
  mixed := by kernel_rfl
  f6 := ⟨Try.f46.name, by decide, Try.func46.trans (congrArg some (by kernel_rfl))⟩
  f14 := ⟨Try.f54.name, by decide, Try.func54.trans (congrArg some (by kernel_rfl))⟩
  f15 := Try.func53.trans (congrArg some (by kernel_rfl))
  f20 := ⟨Try.f67.name, by decide, Try.func67.trans (congrArg some (by kernel_rfl))⟩
  f21 := ⟨Try.f68.name, by decide, Try.func68.trans (congrArg some (by kernel_rfl))⟩
  f22 := ⟨Try.f69.name, by decide, Try.func69.trans (congrArg some (by kernel_rfl))⟩
  f23 := ⟨Try.f70.name, by decide, Try.func70.trans (congrArg some (by kernel_rfl))⟩
  f24 := ⟨Try.f71.name, by decide, Try.func71.trans (congrArg some (by kernel_rfl))⟩
  f25 := ⟨Try.f72.name, by decide, Try.func72.trans (congrArg some (by kernel_rfl))⟩
  f26 := ⟨Try.f73.name, by decide, Try.func73.trans (congrArg some (by kernel_rfl))⟩
  f27 := ⟨Try.f74.name, by decide, Try.func74.trans (congrArg some (by kernel_rfl))⟩
  f28 := Try.func65.trans (congrArg some (by kernel_rfl))
  f29 := Try.func66.trans (congrArg some (by kernel_rfl))
  f46 := ⟨Try.f80.name, by decide, Try.func80.trans (congrArg some (by kernel_rfl))⟩
  f47 := Try.func76.trans (congrArg some (by kernel_rfl))
  f48 := Try.func77.trans (congrArg some (by kernel_rfl))
  f49 := ⟨Try.f81.name, by decide, Try.func81.trans (congrArg some (by kernel_rfl))⟩
  f50 := ⟨Try.f82.name, by decide, Try.func82.trans (congrArg some (by kernel_rfl))⟩
  f57 := ⟨Try.f84.name, by decide, Try.func84.trans (congrArg some (by kernel_rfl))⟩
  t0 := Try.underlying0
  a0 := Try.isAgg0
  z0 := Try.sizeOf0
  v0 := Try.zeroValue0
  t3 := Try.underlying3
  a3 := Try.isAgg3
  z3 := Try.sizeOf3
  v3 := Try.zeroValue3
  t4 := Try.underlying4
  a4 := Try.isAgg4
  z4 := Try.sizeOf4
  v4 := Try.zeroValue4
  t5 := Try.underlying5
  a5 := Try.isAgg5
  z5 := Try.sizeOf5
  v5 := Try.zeroValue5
  t9 := Try.underlying9
  a9 := Try.isAgg9
  z9 := Try.sizeOf9
  v9 := Try.zeroValue9
  t22 := Try.underlying38
  a22 := Try.isAgg38
  z22 := Try.sizeOf38
  v22 := Try.zeroValue38
  t25 := Try.underlying55
  a25 := Try.isAgg55
  z25 := Try.sizeOf55
  v25 := Try.zeroValue55
  t39 := Try.underlying91
  a39 := Try.isAgg91
  z39 := Try.sizeOf91
  v39 := Try.zeroValue91
  t45 := Try.underlying107
  a45 := Try.isAgg107
  z45 := Try.sizeOf107
  v45 := Try.zeroValue107
  t46 := Try.underlying108
  a46 := Try.isAgg108
  z46 := Try.sizeOf108
  v46 := Try.zeroValue108
  t50 := Try.underlying86
  a50 := Try.isAgg86
  z50 := Try.sizeOf86
  v50 := Try.zeroValue86
  t53 := Try.underlying100
  a53 := Try.isAgg100
  z53 := Try.sizeOf100
  v53 := Try.zeroValue100
  t55 := Try.underlying103
  a55 := Try.isAgg103
  z55 := Try.sizeOf103
  v55 := Try.zeroValue103
  t66 := Try.underlying120
  a66 := Try.isAgg120
  z66 := Try.sizeOf120
  v66 := Try.zeroValue120
  t70 := Try.underlying124
  a70 := Try.isAgg124
  z70 := Try.sizeOf124
  v70 := Try.zeroValue124
  t76 := Try.underlying128
  a76 := Try.isAgg128
  z76 := Try.sizeOf128
  v76 := Try.zeroValue128
  t77 := Try.underlying129
  a77 := Try.isAgg129
  z77 := Try.sizeOf129
  v77 := Try.zeroValue129 }
def Try.bitsMul_ren : Go.Shelf.Ren := ⟨fun | 212 => 50 | 263 => 55 | 264 => 56 | n => n, fun | 46 => 91 | 51 => 100 | 146 => 101 | 53 => 103 | 148 => 104 | n => n, fun | n => n⟩
theorem Try.bitsMul : Go.Proofs.Lays.n212 Try.prog Try.bitsMul_ren := {
  mixed := by kernel_rfl
  f212 := Try.func50.trans (congrArg some (by kernel_rfl))
  f263 := Try.func55.trans (congrArg some (by kernel_rfl))
  f264 := Try.func56.trans (congrArg some (by kernel_rfl))
  t46 := Try.underlying91
  a46 := Try.isAgg91
  z46 := Try.sizeOf91
  v46 := Try.zeroValue91
  t51 := Try.underlying100
  a51 := Try.isAgg100
  z51 := Try.sizeOf100
  v51 := Try.zeroValue100
  t53 := Try.underlying103
  a53 := Try.isAgg103
  z53 := Try.sizeOf103
  v53 := Try.zeroValue103
  t146 := Try.underlying101
  a146 := Try.isAgg101
  z146 := Try.sizeOf101
  v146 := Try.zeroValue101
  t148 := Try.underlying104
  a148 := Try.isAgg104
  z148 := Try.sizeOf104
  v148 := Try.zeroValue104 }
end Go.Proofs
