/-
  DERIVED: THE SHELF's CONTRACTS AT THIS DUMP, IN PLAIN WORDS (tools/lay-plain.mjs out of 'YtahnebicgbjonaaShlfD0.lean', which tools/lay-shelf.mjs wrote): THE SAME DECLARATIONS UNDER THE SAME NAMES: 'import', 'namespace', 'open', 'def', 'theorem' AND NOTHING ELSE: no command of the shelf's: FOR A HAND-IN. Each laying: the table of numbers ('.._ren') and one theorem, a field a fact of the dump's own or the kernel's comparison; each contract: ONE APPLICATION.
-/
import Derived.Test.YtahnebicgbjonaaProg
import Derived.Shelf.SlSortCmp.NoneTotal
import Derived.Shelf.SlGeneric
import Derived.Ground.SlsfProg
import Derived.Ground.NamesProg
namespace Go.Proofs
open Go.Shelf
def Try.sortArrows_ren : Go.Shelf.Ren := ⟨fun | 6 => 42 | 15 => 53 | 14 => 52 | 28 => 65 | 29 => 66 | 20 => 57 | 21 => 58 | 22 => 59 | 23 => 60 | 24 => 61 | 25 => 62 | 26 => 63 | 27 => 64 | 46 => 75 | 47 => 76 | 48 => 77 | 49 => 78 | 50 => 79 | 57 => 83 | n => n, fun | 22 => 64 | 24 => 66 | 25 => 88 | 3 => 3 | 39 => 91 | 0 => 0 | 53 => 100 | 55 => 103 | 4 => 4 | 46 => 108 | 45 => 107 | 50 => 86 | 5 => 5 | 9 => 9 | 66 => 120 | 70 => 124 | 76 => 128 | 77 => 129 | n => n, fun | n => n⟩
theorem Try.sortArrows : Go.Proofs.SlLaysF0.n6 Try.prog Try.sortArrows_ren := {
  mixed := by kernel_rfl
  f6 := ⟨Try.f42.name, by decide, Try.func42.trans (congrArg some (by kernel_rfl))⟩
  f14 := ⟨Try.f52.name, by decide, Try.func52.trans (congrArg some (by kernel_rfl))⟩
  f15 := Try.func53.trans (congrArg some (by kernel_rfl))
  f20 := ⟨Try.f57.name, by decide, Try.func57.trans (congrArg some (by kernel_rfl))⟩
  f21 := ⟨Try.f58.name, by decide, Try.func58.trans (congrArg some (by kernel_rfl))⟩
  f22 := ⟨Try.f59.name, by decide, Try.func59.trans (congrArg some (by kernel_rfl))⟩
  f23 := ⟨Try.f60.name, by decide, Try.func60.trans (congrArg some (by kernel_rfl))⟩
  f24 := ⟨Try.f61.name, by decide, Try.func61.trans (congrArg some (by kernel_rfl))⟩
  f25 := ⟨Try.f62.name, by decide, Try.func62.trans (congrArg some (by kernel_rfl))⟩
  f26 := ⟨Try.f63.name, by decide, Try.func63.trans (congrArg some (by kernel_rfl))⟩
  f27 := ⟨Try.f64.name, by decide, Try.func64.trans (congrArg some (by kernel_rfl))⟩
  f28 := Try.func65.trans (congrArg some (by kernel_rfl))
  f29 := Try.func66.trans (congrArg some (by kernel_rfl))
  f46 := ⟨Try.f75.name, by decide, Try.func75.trans (congrArg some (by kernel_rfl))⟩
  f47 := Try.func76.trans (congrArg some (by kernel_rfl))
  f48 := Try.func77.trans (congrArg some (by kernel_rfl))
  f49 := ⟨Try.f78.name, by decide, Try.func78.trans (congrArg some (by kernel_rfl))⟩
  f50 := ⟨Try.f79.name, by decide, Try.func79.trans (congrArg some (by kernel_rfl))⟩
  f57 := ⟨Try.f83.name, by decide, Try.func83.trans (congrArg some (by kernel_rfl))⟩
  t0 := Try.underlying0
  a0 := Try.isAgg0
  z0 := Try.sizeOf0
  v0 := Try.zeroValue0
  t3 := Try.underlying3
  a3 := Try.isAgg3
  z3 := Try.sizeOf3
  v3 := Try.zeroValue3
  t4 := Try.underlying4
  a4 := Try.isAgg4
  z4 := Try.sizeOf4
  v4 := Try.zeroValue4
  t5 := Try.underlying5
  a5 := Try.isAgg5
  z5 := Try.sizeOf5
  v5 := Try.zeroValue5
  t9 := Try.underlying9
  a9 := Try.isAgg9
  z9 := Try.sizeOf9
  v9 := Try.zeroValue9
  t22 := Try.underlying64
  a22 := Try.isAgg64
  z22 := Try.sizeOf64
  v22 := Try.zeroValue64
  t25 := Try.underlying88
  a25 := Try.isAgg88
  z25 := Try.sizeOf88
  v25 := Try.zeroValue88
  t39 := Try.underlying91
  a39 := Try.isAgg91
  z39 := Try.sizeOf91
  v39 := Try.zeroValue91
  t45 := Try.underlying107
  a45 := Try.isAgg107
  z45 := Try.sizeOf107
  v45 := Try.zeroValue107
  t46 := Try.underlying108
  a46 := Try.isAgg108
  z46 := Try.sizeOf108
  v46 := Try.zeroValue108
  t50 := Try.underlying86
  a50 := Try.isAgg86
  z50 := Try.sizeOf86
  v50 := Try.zeroValue86
  t53 := Try.underlying100
  a53 := Try.isAgg100
  z53 := Try.sizeOf100
  v53 := Try.zeroValue100
  t55 := Try.underlying103
  a55 := Try.isAgg103
  z55 := Try.sizeOf103
  v55 := Try.zeroValue103
  t66 := Try.underlying120
  a66 := Try.isAgg120
  z66 := Try.sizeOf120
  v66 := Try.zeroValue120
  t70 := Try.underlying124
  a70 := Try.isAgg124
  z70 := Try.sizeOf124
  v70 := Try.zeroValue124
  t76 := Try.underlying128
  a76 := Try.isAgg128
  z76 := Try.sizeOf128
  v76 := Try.zeroValue128
  t77 := Try.underlying129
  a77 := Try.isAgg129
  z77 := Try.sizeOf129
  v77 := Try.zeroValue129 }
end Go.Proofs
