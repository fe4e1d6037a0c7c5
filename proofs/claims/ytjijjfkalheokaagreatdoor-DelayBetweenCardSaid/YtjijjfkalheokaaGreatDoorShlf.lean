/-
  DERIVED: THE SHELF's CONTRACTS AT THIS DUMP, IN PLAIN WORDS (tools/lay-plain.mjs out of 'YtjijjfkalheokaaGreatDoorShlf0.lean', which tools/lay-shelf.mjs wrote): THE SAME DECLARATIONS UNDER THE SAME NAMES: 'import', 'namespace', 'open', 'def', 'theorem' AND NOTHING ELSE: no command of the shelf's: FOR A HAND-IN. Each laying: the table of numbers ('.._ren') and one theorem, a field a fact of the dump's own or the kernel's comparison; each contract: ONE APPLICATION.
-/
import Derived.Test.YtjijjfkalheokaaGreatDoorProg
import Derived.Shelf.SlSortCmp.NoneTotal
import Derived.Shelf.SlGeneric
import Derived.Ground.SlsfProg
import Derived.Shelf.Bits.Mul64
import Derived.Ground.NamesProg
namespace Go.Proofs
open Go.Shelf
def Tryz.sortArcs_ren : Go.Shelf.Ren := ⟨fun | 6 => 67 | 15 => 101 | 14 => 100 | 28 => 132 | 29 => 133 | 20 => 124 | 21 => 125 | 22 => 126 | 23 => 127 | 24 => 128 | 25 => 129 | 26 => 130 | 27 => 131 | 46 => 145 | 47 => 146 | 48 => 147 | 49 => 148 | 50 => 149 | 57 => 171 | n => n, fun | 22 => 42 | 24 => 46 | 25 => 78 | 3 => 3 | 39 => 114 | 0 => 0 | 53 => 152 | 55 => 155 | 4 => 4 | 46 => 160 | 45 => 159 | 50 => 129 | 5 => 5 | 9 => 9 | 66 => 175 | 70 => 179 | 76 => 196 | 77 => 197 | n => n, fun | n => n⟩
theorem Tryz.sortArcs : Go.Proofs.SlLaysF0.n6 Tryz.prog Tryz.sortArcs_ren := {
  mixed := by kernel_rfl
  f6 := ⟨Tryz.f67.name, by decide, Tryz.func67.trans (congrArg some (by kernel_rfl))⟩
  f14 := ⟨Tryz.f100.name, by decide, Tryz.func100.trans (congrArg some (by kernel_rfl))⟩
  f15 := Tryz.func101.trans (congrArg some (by kernel_rfl))
  f20 := ⟨Tryz.f124.name, by decide, Tryz.func124.trans (congrArg some (by kernel_rfl))⟩
  f21 := ⟨Tryz.f125.name, by decide, Tryz.func125.trans (congrArg some (by kernel_rfl))⟩
  f22 := ⟨Tryz.f126.name, by decide, Tryz.func126.trans (congrArg some (by kernel_rfl))⟩
  f23 := ⟨Tryz.f127.name, by decide, Tryz.func127.trans (congrArg some (by kernel_rfl))⟩
  f24 := ⟨Tryz.f128.name, by decide, Tryz.func128.trans (congrArg some (by kernel_rfl))⟩
  f25 := ⟨Tryz.f129.name, by decide, Tryz.func129.trans (congrArg some (by kernel_rfl))⟩
  f26 := ⟨Tryz.f130.name, by decide, Tryz.func130.trans (congrArg some (by kernel_rfl))⟩
  f27 := ⟨Tryz.f131.name, by decide, Tryz.func131.trans (congrArg some (by kernel_rfl))⟩
  f28 := Tryz.func132.trans (congrArg some (by kernel_rfl))
  f29 := Tryz.func133.trans (congrArg some (by kernel_rfl))
  f46 := ⟨Tryz.f145.name, by decide, Tryz.func145.trans (congrArg some (by kernel_rfl))⟩
  f47 := Tryz.func146.trans (congrArg some (by kernel_rfl))
  f48 := Tryz.func147.trans (congrArg some (by kernel_rfl))
  f49 := ⟨Tryz.f148.name, by decide, Tryz.func148.trans (congrArg some (by kernel_rfl))⟩
  f50 := ⟨Tryz.f149.name, by decide, Tryz.func149.trans (congrArg some (by kernel_rfl))⟩
  f57 := ⟨Tryz.f171.name, by decide, Tryz.func171.trans (congrArg some (by kernel_rfl))⟩
  t0 := Tryz.underlying0
  a0 := Tryz.isAgg0
  z0 := Tryz.sizeOf0
  v0 := Tryz.zeroValue0
  t3 := Tryz.underlying3
  a3 := Tryz.isAgg3
  z3 := Tryz.sizeOf3
  v3 := Tryz.zeroValue3
  t4 := Tryz.underlying4
  a4 := Tryz.isAgg4
  z4 := Tryz.sizeOf4
  v4 := Tryz.zeroValue4
  t5 := Tryz.underlying5
  a5 := Tryz.isAgg5
  z5 := Tryz.sizeOf5
  v5 := Tryz.zeroValue5
  t9 := Tryz.underlying9
  a9 := Tryz.isAgg9
  z9 := Tryz.sizeOf9
  v9 := Tryz.zeroValue9
  t22 := Tryz.underlying42
  a22 := Tryz.isAgg42
  z22 := Tryz.sizeOf42
  v22 := Tryz.zeroValue42
  t25 := Tryz.underlying78
  a25 := Tryz.isAgg78
  z25 := Tryz.sizeOf78
  v25 := Tryz.zeroValue78
  t39 := Tryz.underlying114
  a39 := Tryz.isAgg114
  z39 := Tryz.sizeOf114
  v39 := Tryz.zeroValue114
  t45 := Tryz.underlying159
  a45 := Tryz.isAgg159
  z45 := Tryz.sizeOf159
  v45 := Tryz.zeroValue159
  t46 := Tryz.underlying160
  a46 := Tryz.isAgg160
  z46 := Tryz.sizeOf160
  v46 := Tryz.zeroValue160
  t50 := Tryz.underlying129
  a50 := Tryz.isAgg129
  z50 := Tryz.sizeOf129
  v50 := Tryz.zeroValue129
  t53 := Tryz.underlying152
  a53 := Tryz.isAgg152
  z53 := Tryz.sizeOf152
  v53 := Tryz.zeroValue152
  t55 := Tryz.underlying155
  a55 := Tryz.isAgg155
  z55 := Tryz.sizeOf155
  v55 := Tryz.zeroValue155
  t66 := Tryz.underlying175
  a66 := Tryz.isAgg175
  z66 := Tryz.sizeOf175
  v66 := Tryz.zeroValue175
  t70 := Tryz.underlying179
  a70 := Tryz.isAgg179
  z70 := Tryz.sizeOf179
  v70 := Tryz.zeroValue179
  t76 := Tryz.underlying196
  a76 := Tryz.isAgg196
  z76 := Tryz.sizeOf196
  v76 := Tryz.zeroValue196
  t77 := Tryz.underlying197
  a77 := Tryz.isAgg197
  z77 := Tryz.sizeOf197
  v77 := Tryz.zeroValue197 }
def Tryz.bitsMul_ren : Go.Shelf.Ren := ⟨fun | 212 => 99 | 263 => 122 | 264 => 123 | n => n, fun | 46 => 114 | 51 => 152 | 146 => 153 | 53 => 155 | 148 => 156 | n => n, fun | n => n⟩
theorem Tryz.bitsMul : Go.Proofs.Lays.n212 Tryz.prog Tryz.bitsMul_ren := {
  mixed := by kernel_rfl
  f212 := Tryz.func99.trans (congrArg some (by kernel_rfl))
  f263 := Tryz.func122.trans (congrArg some (by kernel_rfl))
  f264 := Tryz.func123.trans (congrArg some (by kernel_rfl))
  t46 := Tryz.underlying114
  a46 := Tryz.isAgg114
  z46 := Tryz.sizeOf114
  v46 := Tryz.zeroValue114
  t51 := Tryz.underlying152
  a51 := Tryz.isAgg152
  z51 := Tryz.sizeOf152
  v51 := Tryz.zeroValue152
  t53 := Tryz.underlying155
  a53 := Tryz.isAgg155
  z53 := Tryz.sizeOf155
  v53 := Tryz.zeroValue155
  t146 := Tryz.underlying153
  a146 := Tryz.isAgg153
  z146 := Tryz.sizeOf153
  v146 := Tryz.zeroValue153
  t148 := Tryz.underlying156
  a148 := Tryz.isAgg156
  z148 := Tryz.sizeOf156
  v148 := Tryz.zeroValue156 }
end Go.Proofs
