/-
  DERIVED: THE SHELF's CONTRACTS AT THIS DUMP, IN PLAIN WORDS (tools/lay-plain.mjs out of 'YtjijjfkalheokaaDoorShlfT0.lean', which tools/lay-shelf.mjs wrote): THE SAME DECLARATIONS UNDER THE SAME NAMES: 'import', 'namespace', 'open', 'def', 'theorem' AND NOTHING ELSE: no command of the shelf's: FOR A HAND-IN. Each laying: the table of numbers ('.._ren') and one theorem, a field a fact of the dump's own or the kernel's comparison; each contract: ONE APPLICATION.
-/
import Derived.Test.YtjijjfkalheokaaDoorProg
import Derived.Shelf.Spec.TrailingZeros
import Derived.Ground.Names7Prog
namespace Go.Proofs
open Go.Shelf
def Tryd.tz64_ren : Go.Shelf.Ren := ⟨fun | 29 => 92 | n => n, fun | 22 => 132 | 3 => 3 | 4 => 4 | 25 => 101 | 54 => 158 | 0 => 0 | 5 => 5 | n => n, fun | 1 => 0 | n => n⟩
theorem Tryd.tz64 : Go.Proofs.Lays7.n29 Tryd.prog Tryd.tz64_ren := {
  mixed := by kernel_rfl
  f29 := Tryd.func92.trans (congrArg some (by kernel_rfl))
  t0 := Tryd.underlying0
  a0 := Tryd.isAgg0
  z0 := Tryd.sizeOf0
  v0 := Tryd.zeroValue0
  i0 := by kernel_rfl
  t3 := Tryd.underlying3
  a3 := Tryd.isAgg3
  z3 := Tryd.sizeOf3
  v3 := Tryd.zeroValue3
  i3 := by kernel_rfl
  t4 := Tryd.underlying4
  a4 := Tryd.isAgg4
  z4 := Tryd.sizeOf4
  v4 := Tryd.zeroValue4
  i4 := by kernel_rfl
  t5 := Tryd.underlying5
  a5 := Tryd.isAgg5
  z5 := Tryd.sizeOf5
  v5 := Tryd.zeroValue5
  i5 := by kernel_rfl
  t22 := Tryd.underlying132
  a22 := Tryd.isAgg132
  z22 := Tryd.sizeOf132
  v22 := Tryd.zeroValue132
  i22 := by kernel_rfl
  t25 := Tryd.underlying101
  a25 := Tryd.isAgg101
  z25 := Tryd.sizeOf101
  v25 := Tryd.zeroValue101
  i25 := by kernel_rfl
  t54 := Tryd.underlying158
  a54 := Tryd.isAgg158
  z54 := Tryd.sizeOf158
  g1 := by kernel_rfl }
end Go.Proofs
