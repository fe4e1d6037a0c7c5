/-
  DERIVED: THE SHELF's CONTRACTS AT THIS DUMP, IN PLAIN WORDS (tools/lay-plain.mjs out of 'YtjijjfkalheokaaGreatDoorShlfT0.lean', which tools/lay-shelf.mjs wrote): THE SAME DECLARATIONS UNDER THE SAME NAMES: 'import', 'namespace', 'open', 'def', 'theorem' AND NOTHING ELSE: no command of the shelf's: FOR A HAND-IN. Each laying: the table of numbers ('.._ren') and one theorem, a field a fact of the dump's own or the kernel's comparison; each contract: ONE APPLICATION.
-/
import Derived.Test.YtjijjfkalheokaaGreatDoorProg
import Derived.Shelf.Spec.TrailingZeros
import Derived.Ground.Names7Prog
namespace Go.Proofs
open Go.Shelf
def Tryz.tz64_ren : Go.Shelf.Ren := ⟨fun | 29 => 136 | n => n, fun | 22 => 155 | 3 => 3 | 4 => 4 | 25 => 114 | 54 => 187 | 0 => 0 | 5 => 5 | n => n, fun | 1 => 0 | n => n⟩
theorem Tryz.tz64 : Go.Proofs.Lays7.n29 Tryz.prog Tryz.tz64_ren := {
  mixed := by kernel_rfl
  f29 := Tryz.func136.trans (congrArg some (by kernel_rfl))
  t0 := Tryz.underlying0
  a0 := Tryz.isAgg0
  z0 := Tryz.sizeOf0
  v0 := Tryz.zeroValue0
  i0 := by kernel_rfl
  t3 := Tryz.underlying3
  a3 := Tryz.isAgg3
  z3 := Tryz.sizeOf3
  v3 := Tryz.zeroValue3
  i3 := by kernel_rfl
  t4 := Tryz.underlying4
  a4 := Tryz.isAgg4
  z4 := Tryz.sizeOf4
  v4 := Tryz.zeroValue4
  i4 := by kernel_rfl
  t5 := Tryz.underlying5
  a5 := Tryz.isAgg5
  z5 := Tryz.sizeOf5
  v5 := Tryz.zeroValue5
  i5 := by kernel_rfl
  t22 := Tryz.underlying155
  a22 := Tryz.isAgg155
  z22 := Tryz.sizeOf155
  v22 := Tryz.zeroValue155
  i22 := by kernel_rfl
  t25 := Tryz.underlying114
  a25 := Tryz.isAgg114
  z25 := Tryz.sizeOf114
  v25 := Tryz.zeroValue114
  i25 := by kernel_rfl
  t54 := Tryz.underlying187
  a54 := Tryz.isAgg187
  z54 := Tryz.sizeOf187
  g1 := by kernel_rfl }
end Go.Proofs
