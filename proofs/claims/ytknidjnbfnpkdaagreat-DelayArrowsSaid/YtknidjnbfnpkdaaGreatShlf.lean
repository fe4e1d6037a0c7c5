/-
  DERIVED: THE SHELF's CONTRACTS AT THIS DUMP, IN PLAIN WORDS (tools/lay-plain.mjs out of 'YtknidjnbfnpkdaaGreatShlf0.lean', which tools/lay-shelf.mjs wrote): THE SAME DECLARATIONS UNDER THE SAME NAMES: 'import', 'namespace', 'open', 'def', 'theorem' AND NOTHING ELSE: no command of the shelf's: FOR A HAND-IN. Each laying: the table of numbers ('.._ren') and one theorem, a field a fact of the dump's own or the kernel's comparison; each contract: ONE APPLICATION.
-/
import Derived.Test.YtknidjnbfnpkdaaGreatProg
import Derived.Shelf.SlSortCmp.NoneTotal
import Derived.Shelf.SlGeneric
import Derived.Ground.SlsfProg
import Derived.Shelf.Bits.Mul64
import Derived.Ground.NamesProg
namespace Go.Proofs
open Go.Shelf
def Tryz.sortArcs_ren : Go.Shelf.Ren := ⟨fun | 6 => 74 | 15 => 49 | 14 => 85 | 28 => 71 | 29 => 72 | 20 => 97 | 21 => 98 | 22 => 99 | 23 => 100 | 24 => 101 | 25 => 102 | 26 => 103 | 27 => 104 | 46 => 108 | 47 => 81 | 48 => 82 | 49 => 109 | 50 => 110 | 57 => 112 | n => n, fun | 22 => 38 | 24 => 41 | 25 => 64 | 3 => 3 | 39 => 85 | 0 => 0 | 53 => 115 | 55 => 117 | 4 => 4 | 46 => 108 | 45 => 107 | 50 => 100 | 5 => 5 | 9 => 9 | 66 => 123 | 70 => 127 | 76 => 139 | 77 => 140 | n => n, fun | n => n⟩
theorem Tryz.sortArcs : Go.Proofs.SlLaysF0.n6 Tryz.prog Tryz.sortArcs_ren := {
  mixed := by kernel_rfl
  f6 := ⟨Tryz.f74.name, by decide, Tryz.func74.trans (congrArg some (by kernel_rfl))⟩
  f14 := ⟨Tryz.f85.name, by decide, Tryz.func85.trans (congrArg some (by kernel_rfl))⟩
  f15 := Tryz.func49.trans (congrArg some (by kernel_rfl))
  f20 := ⟨Tryz.f97.name, by decide, Tryz.func97.trans (congrArg some (by kernel_rfl))⟩
  f21 := ⟨Tryz.f98.name, by decide, Tryz.func98.trans (congrArg some (by kernel_rfl))⟩
  f22 := ⟨Tryz.f99.name, by decide, Tryz.func99.trans (congrArg some (by kernel_rfl))⟩
  f23 := ⟨Tryz.f100.name, by decide, Tryz.func100.trans (congrArg some (by kernel_rfl))⟩
  f24 := ⟨Tryz.f101.name, by decide, Tryz.func101.trans (congrArg some (by kernel_rfl))⟩
  f25 := ⟨Tryz.f102.name, by decide, Tryz.func102.trans (congrArg some (by kernel_rfl))⟩
  f26 := ⟨Tryz.f103.name, by decide, Tryz.func103.trans (congrArg some (by kernel_rfl))⟩
  f27 := ⟨Tryz.f104.name, by decide, Tryz.func104.trans (congrArg some (by kernel_rfl))⟩
  f28 := Tryz.func71.trans (congrArg some (by kernel_rfl))
  f29 := Tryz.func72.trans (congrArg some (by kernel_rfl))
  f46 := ⟨Tryz.f108.name, by decide, Tryz.func108.trans (congrArg some (by kernel_rfl))⟩
  f47 := Tryz.func81.trans (congrArg some (by kernel_rfl))
  f48 := Tryz.func82.trans (congrArg some (by kernel_rfl))
  f49 := ⟨Tryz.f109.name, by decide, Tryz.func109.trans (congrArg some (by kernel_rfl))⟩
  f50 := ⟨Tryz.f110.name, by decide, Tryz.func110.trans (congrArg some (by kernel_rfl))⟩
  f57 := ⟨Tryz.f112.name, by decide, Tryz.func112.trans (congrArg some (by kernel_rfl))⟩
  t0 := Tryz.underlying0
  a0 := Tryz.isAgg0
  z0 := Tryz.sizeOf0
  v0 := Tryz.zeroValue0
  t3 := Tryz.underlying3
  a3 := Tryz.isAgg3
  z3 := Tryz.sizeOf3
  v3 := Tryz.zeroValue3
  t4 := Tryz.underlying4
  a4 := Tryz.isAgg4
  z4 := Tryz.sizeOf4
  v4 := Tryz.zeroValue4
  t5 := Tryz.underlying5
  a5 := Tryz.isAgg5
  z5 := Tryz.sizeOf5
  v5 := Tryz.zeroValue5
  t9 := Tryz.underlying9
  a9 := Tryz.isAgg9
  z9 := Tryz.sizeOf9
  v9 := Tryz.zeroValue9
  t22 := Tryz.underlying38
  a22 := Tryz.isAgg38
  z22 := Tryz.sizeOf38
  v22 := Tryz.zeroValue38
  t25 := Tryz.underlying64
  a25 := Tryz.isAgg64
  z25 := Tryz.sizeOf64
  v25 := Tryz.zeroValue64
  t39 := Tryz.underlying85
  a39 := Tryz.isAgg85
  z39 := Tryz.sizeOf85
  v39 := Tryz.zeroValue85
  t45 := Tryz.underlying107
  a45 := Tryz.isAgg107
  z45 := Tryz.sizeOf107
  v45 := Tryz.zeroValue107
  t46 := Tryz.underlying108
  a46 := Tryz.isAgg108
  z46 := Tryz.sizeOf108
  v46 := Tryz.zeroValue108
  t50 := Tryz.underlying100
  a50 := Tryz.isAgg100
  z50 := Tryz.sizeOf100
  v50 := Tryz.zeroValue100
  t53 := Tryz.underlying115
  a53 := Tryz.isAgg115
  z53 := Tryz.sizeOf115
  v53 := Tryz.zeroValue115
  t55 := Tryz.underlying117
  a55 := Tryz.isAgg117
  z55 := Tryz.sizeOf117
  v55 := Tryz.zeroValue117
  t66 := Tryz.underlying123
  a66 := Tryz.isAgg123
  z66 := Tryz.sizeOf123
  v66 := Tryz.zeroValue123
  t70 := Tryz.underlying127
  a70 := Tryz.isAgg127
  z70 := Tryz.sizeOf127
  v70 := Tryz.zeroValue127
  t76 := Tryz.underlying139
  a76 := Tryz.isAgg139
  z76 := Tryz.sizeOf139
  v76 := Tryz.zeroValue139
  t77 := Tryz.underlying140
  a77 := Tryz.isAgg140
  z77 := Tryz.sizeOf140
  v77 := Tryz.zeroValue140 }
def Tryz.bitsMul_ren : Go.Shelf.Ren := ⟨fun | 212 => 77 | 263 => 86 | 264 => 87 | n => n, fun | 46 => 85 | 51 => 115 | 146 => 130 | 53 => 117 | 148 => 132 | n => n, fun | n => n⟩
theorem Tryz.bitsMul : Go.Proofs.Lays.n212 Tryz.prog Tryz.bitsMul_ren := {
  mixed := by kernel_rfl
  f212 := Tryz.func77.trans (congrArg some (by kernel_rfl))
  f263 := Tryz.func86.trans (congrArg some (by kernel_rfl))
  f264 := Tryz.func87.trans (congrArg some (by kernel_rfl))
  t46 := Tryz.underlying85
  a46 := Tryz.isAgg85
  z46 := Tryz.sizeOf85
  v46 := Tryz.zeroValue85
  t51 := Tryz.underlying115
  a51 := Tryz.isAgg115
  z51 := Tryz.sizeOf115
  v51 := Tryz.zeroValue115
  t53 := Tryz.underlying117
  a53 := Tryz.isAgg117
  z53 := Tryz.sizeOf117
  v53 := Tryz.zeroValue117
  t146 := Tryz.underlying130
  a146 := Tryz.isAgg130
  z146 := Tryz.sizeOf130
  v146 := Tryz.zeroValue130
  t148 := Tryz.underlying132
  a148 := Tryz.isAgg132
  z148 := Tryz.sizeOf132
  v148 := Tryz.zeroValue132 }
end Go.Proofs
