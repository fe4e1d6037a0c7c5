/-
  No cell of these rows narrows 'for every input' (looked for: loops, veiled, ifaces, maps, wideKeys, modest, calm, conditions, laid).
  DERIVED. THE GIVEN ROWS OF THIS SEAT. 3 by the template 'for every input the law returns true; each argument reads behind the call as it read before'; 0 by the template 'total and deterministic' (their statements: YtahnebicgbjonaaGreatTotals.lean).
  GIVEN WITH THE SEED: the statements are not yours to turn. If you find one false, say at which input.
  Laid BY PROGRAM, IN A SANDBOX (cutbox-rows.mjs): the forced cells as the released guide's own fill.sh prints them over the translation 25aa634793ba2dec… (all of the seat's roots in one cut). By AI agents, Wed Nov 11 2026. No macro, syntax, notation, axiom, sorry.
-/
import Derived.Test.YtahnebicgbjonaaGreatChecked
import GoSem.Claim
import GoSem.ClaimJoined
import GoSem.ClaimMapViews
import Derived.JoinedTies
import Derived.KernelRfl
namespace Go.Proofs.YtahnebicgbjonaaGreat
/- THE CELL 'sum', in the pinned program and in every row, IS THE sha256 OF THE DUMP (.gsa) THAT YtahnebicgbjonaaGreatProg.lean LOADS. Nothing in Lean hashes anything: it is a label: what it is worth is what the hold of that sum in a sandbox is worth. -/
noncomputable def Tryz.pinned : Pinned := { name := "ytahnebicgbjonaagreat", sum := "25aa634793ba2deccbe4e288142a52cf1c95b334ca99f0e4d04e199d5f2311a7", checked := Tryz.checked }
namespace Rows
def none {H : Type} : Left H := { results := [], args := [] }

/-- 'cspchecklaw27.DelayClasses': WHATEVER THE INPUT: true; the input reads as it did. -/
def delayClassesSpec : ChangeSpec := { name := "delayClasses", fn := fun _ => fun
  | [d1, d2] => { results := [.lit (.bool true)], args := [d1, d2] }
  | _ => none }
def delayClassesRow : OpenClaim := { program := "ytahnebicgbjonaagreat", sum := "25aa634793ba2deccbe4e288142a52cf1c95b334ca99f0e4d04e199d5f2311a7", func := "cspcheck/cspchecklaw27.DelayClasses", spec := "delayClasses", unfollowed := true, recurses := true, apart := false }
def DelayClassesSaid : Prop := delayClassesRow.holds Tryz.pinned (OpenSpec.ofChange delayClassesSpec)

/-- ITS FALSE NEIGHBOUR: 'it returns false'. Refute it at one input. -/
def delayClassesWrong : ChangeSpec := { name := "delayClasses", fn := fun _ => fun
  | [d1, d2] => { results := [.lit (.bool false)], args := [d1, d2] }
  | _ => none }
def DelayClassesWrongFalsely : Prop := delayClassesRow.holds Tryz.pinned (OpenSpec.ofChange delayClassesWrong)

/-- 'cspchecklaw27.DelayQuotient': WHATEVER THE INPUT: true; the input reads as it did. -/
def delayQuotientSpec : ChangeSpec := { name := "delayQuotient", fn := fun _ => fun
  | [d1, d2, d3] => { results := [.lit (.bool true)], args := [d1, d2, d3] }
  | _ => none }
def delayQuotientRow : OpenClaim := { program := "ytahnebicgbjonaagreat", sum := "25aa634793ba2deccbe4e288142a52cf1c95b334ca99f0e4d04e199d5f2311a7", func := "cspcheck/cspchecklaw27.DelayQuotient", spec := "delayQuotient", unfollowed := true, recurses := true, apart := false }
def DelayQuotientSaid : Prop := delayQuotientRow.holds Tryz.pinned (OpenSpec.ofChange delayQuotientSpec)

/-- ITS FALSE NEIGHBOUR: 'it returns false'. Refute it at one input. -/
def delayQuotientWrong : ChangeSpec := { name := "delayQuotient", fn := fun _ => fun
  | [d1, d2, d3] => { results := [.lit (.bool false)], args := [d1, d2, d3] }
  | _ => none }
def DelayQuotientWrongFalsely : Prop := delayQuotientRow.holds Tryz.pinned (OpenSpec.ofChange delayQuotientWrong)

/-- 'cspchecklaw27.DelayEqual': WHATEVER THE INPUT: true; the input reads as it did. -/
def delayEqualSpec : ChangeSpec := { name := "delayEqual", fn := fun _ => fun
  | [d1, d2, d3] => { results := [.lit (.bool true)], args := [d1, d2, d3] }
  | _ => none }
def delayEqualRow : OpenClaim := { program := "ytahnebicgbjonaagreat", sum := "25aa634793ba2deccbe4e288142a52cf1c95b334ca99f0e4d04e199d5f2311a7", func := "cspcheck/cspchecklaw27.DelayEqual", spec := "delayEqual", unfollowed := true, recurses := true, apart := false }
def DelayEqualSaid : Prop := delayEqualRow.holds Tryz.pinned (OpenSpec.ofChange delayEqualSpec)

/-- ITS FALSE NEIGHBOUR: 'it returns false'. Refute it at one input. -/
def delayEqualWrong : ChangeSpec := { name := "delayEqual", fn := fun _ => fun
  | [d1, d2, d3] => { results := [.lit (.bool false)], args := [d1, d2, d3] }
  | _ => none }
def DelayEqualWrongFalsely : Prop := delayEqualRow.holds Tryz.pinned (OpenSpec.ofChange delayEqualWrong)

/- THE SECOND FORM. 'bulk': how many values and letters a reading holds, each counted each time it is reached (what is shared counts as often as it is met; a slice's spare places count too). A statement '..UptoSaid' is the law's where the arguments, and the package variables that the reading takes, are together of bulk at most 1048576: NARROWER than '..Said'. Prove '..Said' where nothing that the law and all that it calls make is longer than what came in: it says more and counts as full. Else prove '..UptoSaid'. A law counts once. -/
mutual
def uptoBulk {H : Type} : DataW H → Nat
  | .lit (.string bytes) => bytes.length + 1
  | .lit _ => 1
  | .nil => 1
  | .ptr d => uptoBulk d + 1
  | .slice elems spare => uptoBulkAll elems + uptoBulkAll spare + 1
  | .agg parts => uptoBulkAll parts + 1
  | .iface _ d => uptoBulk d + 1
  | .map entries => uptoBulkEntries entries + 1
  | .held _ => 1
def uptoBulkAll {H : Type} : List (DataW H) → Nat
  | [] => 0
  | d :: r => uptoBulk d + uptoBulkAll r
def uptoBulkEntries {H : Type} : List (Lit × DataW H) → Nat
  | [] => 0
  | x :: r => uptoBulkEntry x + uptoBulkEntries r
def uptoBulkEntry {H : Type} : Lit × DataW H → Nat
  | (.string bytes, d) => bytes.length + uptoBulk d + 1
  | (_, d) => uptoBulk d + 1
 end
def uptoSmall : (H : Type) → List (DataW H) → Bool := fun _ ds => decide (uptoBulkAll ds ≤ 1048576)
def OpenSpec.upto (s : _root_.Go.ChangeSpec) : _root_.Go.OpenSpec := { _root_.Go.OpenSpec.ofChange s with cond := some uptoSmall }

/-- 'cspchecklaw27.DelayClasses', WHERE WHAT IT READS IS OF BULK AT MOST 1048576: true; the input reads as it did. -/
def delayClassesUptoRow : OpenClaim := { program := "ytahnebicgbjonaagreat", sum := "25aa634793ba2deccbe4e288142a52cf1c95b334ca99f0e4d04e199d5f2311a7", func := "cspcheck/cspchecklaw27.DelayClasses", spec := "delayClasses", unfollowed := true, recurses := true, apart := false, narrowed := true }
def DelayClassesUptoSaid : Prop := delayClassesUptoRow.holds Tryz.pinned (OpenSpec.upto delayClassesSpec)

/-- 'cspchecklaw27.DelayQuotient', WHERE WHAT IT READS IS OF BULK AT MOST 1048576: true; the input reads as it did. -/
def delayQuotientUptoRow : OpenClaim := { program := "ytahnebicgbjonaagreat", sum := "25aa634793ba2deccbe4e288142a52cf1c95b334ca99f0e4d04e199d5f2311a7", func := "cspcheck/cspchecklaw27.DelayQuotient", spec := "delayQuotient", unfollowed := true, recurses := true, apart := false, narrowed := true }
def DelayQuotientUptoSaid : Prop := delayQuotientUptoRow.holds Tryz.pinned (OpenSpec.upto delayQuotientSpec)

/-- 'cspchecklaw27.DelayEqual', WHERE WHAT IT READS IS OF BULK AT MOST 1048576: true; the input reads as it did. -/
def delayEqualUptoRow : OpenClaim := { program := "ytahnebicgbjonaagreat", sum := "25aa634793ba2deccbe4e288142a52cf1c95b334ca99f0e4d04e199d5f2311a7", func := "cspcheck/cspchecklaw27.DelayEqual", spec := "delayEqual", unfollowed := true, recurses := true, apart := false, narrowed := true }
def DelayEqualUptoSaid : Prop := delayEqualUptoRow.holds Tryz.pinned (OpenSpec.upto delayEqualSpec)

end Rows
end Go.Proofs.YtahnebicgbjonaaGreat
