/-
  No cell of these rows narrows 'for every input' (looked for: loops, veiled, ifaces, maps, wideKeys, modest, calm, conditions, laid).
  DERIVED. THE GIVEN ROWS OF THIS SEAT. 9 by the template 'for every input the law returns true; each argument reads behind the call as it read before'; 0 by the template 'total and deterministic' (their statements: YtfjfllpcflddmaaGreatTotals.lean).
  GIVEN WITH THE SEED: the statements are not yours to turn. If you find one false, say at which input.
  Laid BY PROGRAM, IN A SANDBOX (cutbox-rows.mjs): the forced cells as the released guide's own fill.sh prints them over the translation 7520f14ebec9ea91… (all of the seat's roots in one cut). By AI agents, Wed Nov 11 2026. No macro, syntax, notation, axiom, sorry.
-/
import Derived.Test.YtfjfllpcflddmaaGreatChecked
import GoSem.Claim
import GoSem.ClaimJoined
import GoSem.ClaimMapViews
import Derived.JoinedTies
import Derived.KernelRfl
namespace Go.Proofs.YtfjfllpcflddmaaGreat
/- THE CELL 'sum', in the pinned program and in every row, IS THE sha256 OF THE DUMP (.gsa) THAT YtfjfllpcflddmaaGreatProg.lean LOADS. Nothing in Lean hashes anything: it is a label: what it is worth is what the hold of that sum in a sandbox is worth. -/
noncomputable def Tryz.pinned : Pinned := { name := "ytfjfllpcflddmaagreat", sum := "7520f14ebec9ea9129167598fe6f4a0bff5e02aa0e62e55b63bfb20cca58ca4f", checked := Tryz.checked }
namespace Rows
def none {H : Type} : Left H := { results := [], args := [] }

/-- 'cspchecklaw27.DelayQuotient': WHATEVER THE INPUT: true; the input reads as it did. -/
def delayQuotientSpec : ChangeSpec := { name := "delayQuotient", fn := fun _ => fun
  | [d1, d2, d3] => { results := [.lit (.bool true)], args := [d1, d2, d3] }
  | _ => none }
def delayQuotientRow : OpenClaim := { program := "ytfjfllpcflddmaagreat", sum := "7520f14ebec9ea9129167598fe6f4a0bff5e02aa0e62e55b63bfb20cca58ca4f", func := "cspcheck/cspchecklaw27.DelayQuotient", spec := "delayQuotient", unfollowed := true, recurses := true, plainKeys := false, apart := false }
def DelayQuotientSaid : Prop := delayQuotientRow.holds Tryz.pinned (OpenSpec.ofChange delayQuotientSpec)

/-- ITS FALSE NEIGHBOUR: 'it returns false'. Refute it at one input. -/
def delayQuotientWrong : ChangeSpec := { name := "delayQuotient", fn := fun _ => fun
  | [d1, d2, d3] => { results := [.lit (.bool false)], args := [d1, d2, d3] }
  | _ => none }
def DelayQuotientWrongFalsely : Prop := delayQuotientRow.holds Tryz.pinned (OpenSpec.ofChange delayQuotientWrong)

/-- 'cspchecklaw41.WatchdogTransversals': WHATEVER THE INPUT: true; the input reads as it did. -/
def watchdogTransversalsSpec : ChangeSpec := { name := "watchdogTransversals", fn := fun _ => fun
  | [d1, d2] => { results := [.lit (.bool true)], args := [d1, d2] }
  | _ => none }
def watchdogTransversalsRow : OpenClaim := { program := "ytfjfllpcflddmaagreat", sum := "7520f14ebec9ea9129167598fe6f4a0bff5e02aa0e62e55b63bfb20cca58ca4f", func := "cspcheck/cspchecklaw41.WatchdogTransversals", spec := "watchdogTransversals", inPlace := ["slices.overlaps[int]"], unfollowed := true, recurses := true, plainKeys := false, apart := false }
def WatchdogTransversalsSaid : Prop := watchdogTransversalsRow.holds Tryz.pinned (OpenSpec.ofChange watchdogTransversalsSpec)

/-- ITS FALSE NEIGHBOUR: 'it returns false'. Refute it at one input. -/
def watchdogTransversalsWrong : ChangeSpec := { name := "watchdogTransversals", fn := fun _ => fun
  | [d1, d2] => { results := [.lit (.bool false)], args := [d1, d2] }
  | _ => none }
def WatchdogTransversalsWrongFalsely : Prop := watchdogTransversalsRow.holds Tryz.pinned (OpenSpec.ofChange watchdogTransversalsWrong)

/-- 'cspchecklaw41.WatchdogDual': WHATEVER THE INPUT: true; the input reads as it did. -/
def watchdogDualSpec : ChangeSpec := { name := "watchdogDual", fn := fun _ => fun
  | [d] => { results := [.lit (.bool true)], args := [d] }
  | _ => none }
def watchdogDualRow : OpenClaim := { program := "ytfjfllpcflddmaagreat", sum := "7520f14ebec9ea9129167598fe6f4a0bff5e02aa0e62e55b63bfb20cca58ca4f", func := "cspcheck/cspchecklaw41.WatchdogDual", spec := "watchdogDual", inPlace := ["slices.overlaps[int]"], unfollowed := true, recurses := true, plainKeys := false, apart := false }
def WatchdogDualSaid : Prop := watchdogDualRow.holds Tryz.pinned (OpenSpec.ofChange watchdogDualSpec)

/-- ITS FALSE NEIGHBOUR: 'it returns false'. Refute it at one input. -/
def watchdogDualWrong : ChangeSpec := { name := "watchdogDual", fn := fun _ => fun
  | [d] => { results := [.lit (.bool false)], args := [d] }
  | _ => none }
def WatchdogDualWrongFalsely : Prop := watchdogDualRow.holds Tryz.pinned (OpenSpec.ofChange watchdogDualWrong)

/-- 'cspchecklaw31.LegalityContexts': WHATEVER THE INPUT: true; the input reads as it did. -/
def legalityContextsSpec : ChangeSpec := { name := "legalityContexts", fn := fun _ => fun
  | [d1, d2] => { results := [.lit (.bool true)], args := [d1, d2] }
  | _ => none }
def legalityContextsRow : OpenClaim := { program := "ytfjfllpcflddmaagreat", sum := "7520f14ebec9ea9129167598fe6f4a0bff5e02aa0e62e55b63bfb20cca58ca4f", func := "cspcheck/cspchecklaw31.LegalityContexts", spec := "legalityContexts", unfollowed := true, recurses := true, plainKeys := false, apart := false }
def LegalityContextsSaid : Prop := legalityContextsRow.holds Tryz.pinned (OpenSpec.ofChange legalityContextsSpec)

/-- ITS FALSE NEIGHBOUR: 'it returns false'. Refute it at one input. -/
def legalityContextsWrong : ChangeSpec := { name := "legalityContexts", fn := fun _ => fun
  | [d1, d2] => { results := [.lit (.bool false)], args := [d1, d2] }
  | _ => none }
def LegalityContextsWrongFalsely : Prop := legalityContextsRow.holds Tryz.pinned (OpenSpec.ofChange legalityContextsWrong)

/-- 'cspchecklaw31.LegalityLegal': WHATEVER THE INPUT: true; the input reads as it did. -/
def legalityLegalSpec : ChangeSpec := { name := "legalityLegal", fn := fun _ => fun
  | [d1, d2, d3] => { results := [.lit (.bool true)], args := [d1, d2, d3] }
  | _ => none }
def legalityLegalRow : OpenClaim := { program := "ytfjfllpcflddmaagreat", sum := "7520f14ebec9ea9129167598fe6f4a0bff5e02aa0e62e55b63bfb20cca58ca4f", func := "cspcheck/cspchecklaw31.LegalityLegal", spec := "legalityLegal", unfollowed := true, recurses := true, plainKeys := false, apart := false }
def LegalityLegalSaid : Prop := legalityLegalRow.holds Tryz.pinned (OpenSpec.ofChange legalityLegalSpec)

/-- ITS FALSE NEIGHBOUR: 'it returns false'. Refute it at one input. -/
def legalityLegalWrong : ChangeSpec := { name := "legalityLegal", fn := fun _ => fun
  | [d1, d2, d3] => { results := [.lit (.bool false)], args := [d1, d2, d3] }
  | _ => none }
def LegalityLegalWrongFalsely : Prop := legalityLegalRow.holds Tryz.pinned (OpenSpec.ofChange legalityLegalWrong)

/-- 'cspchecklaw28.DiamondTauLoops': WHATEVER THE INPUT: true; the input reads as it did. -/
def diamondTauLoopsSpec : ChangeSpec := { name := "diamondTauLoops", fn := fun _ => fun
  | [d1, d2] => { results := [.lit (.bool true)], args := [d1, d2] }
  | _ => none }
def diamondTauLoopsRow : OpenClaim := { program := "ytfjfllpcflddmaagreat", sum := "7520f14ebec9ea9129167598fe6f4a0bff5e02aa0e62e55b63bfb20cca58ca4f", func := "cspcheck/cspchecklaw28.DiamondTauLoops", spec := "diamondTauLoops", unfollowed := true, recurses := true, plainKeys := false, apart := false }
def DiamondTauLoopsSaid : Prop := diamondTauLoopsRow.holds Tryz.pinned (OpenSpec.ofChange diamondTauLoopsSpec)

/-- ITS FALSE NEIGHBOUR: 'it returns false'. Refute it at one input. -/
def diamondTauLoopsWrong : ChangeSpec := { name := "diamondTauLoops", fn := fun _ => fun
  | [d1, d2] => { results := [.lit (.bool false)], args := [d1, d2] }
  | _ => none }
def DiamondTauLoopsWrongFalsely : Prop := diamondTauLoopsRow.holds Tryz.pinned (OpenSpec.ofChange diamondTauLoopsWrong)

/-- 'cspchecklaw28.DiamondMinimal': WHATEVER THE INPUT: true; the input reads as it did. -/
def diamondMinimalSpec : ChangeSpec := { name := "diamondMinimal", fn := fun _ => fun
  | [d1, d2] => { results := [.lit (.bool true)], args := [d1, d2] }
  | _ => none }
def diamondMinimalRow : OpenClaim := { program := "ytfjfllpcflddmaagreat", sum := "7520f14ebec9ea9129167598fe6f4a0bff5e02aa0e62e55b63bfb20cca58ca4f", func := "cspcheck/cspchecklaw28.DiamondMinimal", spec := "diamondMinimal", unfollowed := true, recurses := true, plainKeys := false, apart := false }
def DiamondMinimalSaid : Prop := diamondMinimalRow.holds Tryz.pinned (OpenSpec.ofChange diamondMinimalSpec)

/-- ITS FALSE NEIGHBOUR: 'it returns false'. Refute it at one input. -/
def diamondMinimalWrong : ChangeSpec := { name := "diamondMinimal", fn := fun _ => fun
  | [d1, d2] => { results := [.lit (.bool false)], args := [d1, d2] }
  | _ => none }
def DiamondMinimalWrongFalsely : Prop := diamondMinimalRow.holds Tryz.pinned (OpenSpec.ofChange diamondMinimalWrong)

/-- 'cspchecklaw30.NormalValid': WHATEVER THE INPUT: true; the input reads as it did. -/
def normalValidSpec : ChangeSpec := { name := "normalValid", fn := fun _ => fun
  | [d1, d2, d3] => { results := [.lit (.bool true)], args := [d1, d2, d3] }
  | _ => none }
def normalValidRow : OpenClaim := { program := "ytfjfllpcflddmaagreat", sum := "7520f14ebec9ea9129167598fe6f4a0bff5e02aa0e62e55b63bfb20cca58ca4f", func := "cspcheck/cspchecklaw30.NormalValid", spec := "normalValid", unfollowed := true, recurses := true, plainKeys := false, apart := false }
def NormalValidSaid : Prop := normalValidRow.holds Tryz.pinned (OpenSpec.ofChange normalValidSpec)

/-- ITS FALSE NEIGHBOUR: 'it returns false'. Refute it at one input. -/
def normalValidWrong : ChangeSpec := { name := "normalValid", fn := fun _ => fun
  | [d1, d2, d3] => { results := [.lit (.bool false)], args := [d1, d2, d3] }
  | _ => none }
def NormalValidWrongFalsely : Prop := normalValidRow.holds Tryz.pinned (OpenSpec.ofChange normalValidWrong)

/-- 'cspchecklaw30.NormalWalk': WHATEVER THE INPUT: true; the input reads as it did. -/
def normalWalkSpec : ChangeSpec := { name := "normalWalk", fn := fun _ => fun
  | [d1, d2, d3] => { results := [.lit (.bool true)], args := [d1, d2, d3] }
  | _ => none }
def normalWalkRow : OpenClaim := { program := "ytfjfllpcflddmaagreat", sum := "7520f14ebec9ea9129167598fe6f4a0bff5e02aa0e62e55b63bfb20cca58ca4f", func := "cspcheck/cspchecklaw30.NormalWalk", spec := "normalWalk", unfollowed := true, recurses := true, plainKeys := false, apart := false }
def NormalWalkSaid : Prop := normalWalkRow.holds Tryz.pinned (OpenSpec.ofChange normalWalkSpec)

/-- ITS FALSE NEIGHBOUR: 'it returns false'. Refute it at one input. -/
def normalWalkWrong : ChangeSpec := { name := "normalWalk", fn := fun _ => fun
  | [d1, d2, d3] => { results := [.lit (.bool false)], args := [d1, d2, d3] }
  | _ => none }
def NormalWalkWrongFalsely : Prop := normalWalkRow.holds Tryz.pinned (OpenSpec.ofChange normalWalkWrong)

/- THE SECOND FORM. 'bulk': how many values and letters a reading holds, each counted each time it is reached (what is shared counts as often as it is met; a slice's spare places count too). A statement '..UptoSaid' is the law's where the arguments, and the package variables that the reading takes, are together of bulk at most 1048576: NARROWER than '..Said'. Prove '..Said' where nothing that the law and all that it calls make is longer than what came in: it says more and counts as full. Else prove '..UptoSaid'. A law counts once. -/
mutual
def uptoBulk {H : Type} : DataW H → Nat
  | .lit (.string bytes) => bytes.length + 1
  | .lit _ => 1
  | .nil => 1
  | .ptr d => uptoBulk d + 1
  | .slice elems spare => uptoBulkAll elems + uptoBulkAll spare + 1
  | .agg parts => uptoBulkAll parts + 1
  | .iface _ d => uptoBulk d + 1
  | .map entries => uptoBulkEntries entries + 1
  | .held _ => 1
def uptoBulkAll {H : Type} : List (DataW H) → Nat
  | [] => 0
  | d :: r => uptoBulk d + uptoBulkAll r
def uptoBulkEntries {H : Type} : List (Lit × DataW H) → Nat
  | [] => 0
  | x :: r => uptoBulkEntry x + uptoBulkEntries r
def uptoBulkEntry {H : Type} : Lit × DataW H → Nat
  | (.string bytes, d) => bytes.length + uptoBulk d + 1
  | (_, d) => uptoBulk d + 1
 end
def uptoSmall : (H : Type) → List (DataW H) → Bool := fun _ ds => decide (uptoBulkAll ds ≤ 1048576)
def OpenSpec.upto (s : _root_.Go.ChangeSpec) : _root_.Go.OpenSpec := { _root_.Go.OpenSpec.ofChange s with cond := some uptoSmall }

/-- 'cspchecklaw27.DelayQuotient', WHERE WHAT IT READS IS OF BULK AT MOST 1048576: true; the input reads as it did. -/
def delayQuotientUptoRow : OpenClaim := { program := "ytfjfllpcflddmaagreat", sum := "7520f14ebec9ea9129167598fe6f4a0bff5e02aa0e62e55b63bfb20cca58ca4f", func := "cspcheck/cspchecklaw27.DelayQuotient", spec := "delayQuotient", unfollowed := true, recurses := true, plainKeys := false, apart := false, narrowed := true }
def DelayQuotientUptoSaid : Prop := delayQuotientUptoRow.holds Tryz.pinned (OpenSpec.upto delayQuotientSpec)

/-- 'cspchecklaw41.WatchdogTransversals', WHERE WHAT IT READS IS OF BULK AT MOST 1048576: true; the input reads as it did. -/
def watchdogTransversalsUptoRow : OpenClaim := { program := "ytfjfllpcflddmaagreat", sum := "7520f14ebec9ea9129167598fe6f4a0bff5e02aa0e62e55b63bfb20cca58ca4f", func := "cspcheck/cspchecklaw41.WatchdogTransversals", spec := "watchdogTransversals", inPlace := ["slices.overlaps[int]"], unfollowed := true, recurses := true, plainKeys := false, apart := false, narrowed := true }
def WatchdogTransversalsUptoSaid : Prop := watchdogTransversalsUptoRow.holds Tryz.pinned (OpenSpec.upto watchdogTransversalsSpec)

/-- 'cspchecklaw41.WatchdogDual', WHERE WHAT IT READS IS OF BULK AT MOST 1048576: true; the input reads as it did. -/
def watchdogDualUptoRow : OpenClaim := { program := "ytfjfllpcflddmaagreat", sum := "7520f14ebec9ea9129167598fe6f4a0bff5e02aa0e62e55b63bfb20cca58ca4f", func := "cspcheck/cspchecklaw41.WatchdogDual", spec := "watchdogDual", inPlace := ["slices.overlaps[int]"], unfollowed := true, recurses := true, plainKeys := false, apart := false, narrowed := true }
def WatchdogDualUptoSaid : Prop := watchdogDualUptoRow.holds Tryz.pinned (OpenSpec.upto watchdogDualSpec)

/-- 'cspchecklaw31.LegalityContexts', WHERE WHAT IT READS IS OF BULK AT MOST 1048576: true; the input reads as it did. -/
def legalityContextsUptoRow : OpenClaim := { program := "ytfjfllpcflddmaagreat", sum := "7520f14ebec9ea9129167598fe6f4a0bff5e02aa0e62e55b63bfb20cca58ca4f", func := "cspcheck/cspchecklaw31.LegalityContexts", spec := "legalityContexts", unfollowed := true, recurses := true, plainKeys := false, apart := false, narrowed := true }
def LegalityContextsUptoSaid : Prop := legalityContextsUptoRow.holds Tryz.pinned (OpenSpec.upto legalityContextsSpec)

/-- 'cspchecklaw31.LegalityLegal', WHERE WHAT IT READS IS OF BULK AT MOST 1048576: true; the input reads as it did. -/
def legalityLegalUptoRow : OpenClaim := { program := "ytfjfllpcflddmaagreat", sum := "7520f14ebec9ea9129167598fe6f4a0bff5e02aa0e62e55b63bfb20cca58ca4f", func := "cspcheck/cspchecklaw31.LegalityLegal", spec := "legalityLegal", unfollowed := true, recurses := true, plainKeys := false, apart := false, narrowed := true }
def LegalityLegalUptoSaid : Prop := legalityLegalUptoRow.holds Tryz.pinned (OpenSpec.upto legalityLegalSpec)

/-- 'cspchecklaw28.DiamondTauLoops', WHERE WHAT IT READS IS OF BULK AT MOST 1048576: true; the input reads as it did. -/
def diamondTauLoopsUptoRow : OpenClaim := { program := "ytfjfllpcflddmaagreat", sum := "7520f14ebec9ea9129167598fe6f4a0bff5e02aa0e62e55b63bfb20cca58ca4f", func := "cspcheck/cspchecklaw28.DiamondTauLoops", spec := "diamondTauLoops", unfollowed := true, recurses := true, plainKeys := false, apart := false, narrowed := true }
def DiamondTauLoopsUptoSaid : Prop := diamondTauLoopsUptoRow.holds Tryz.pinned (OpenSpec.upto diamondTauLoopsSpec)

/-- 'cspchecklaw28.DiamondMinimal', WHERE WHAT IT READS IS OF BULK AT MOST 1048576: true; the input reads as it did. -/
def diamondMinimalUptoRow : OpenClaim := { program := "ytfjfllpcflddmaagreat", sum := "7520f14ebec9ea9129167598fe6f4a0bff5e02aa0e62e55b63bfb20cca58ca4f", func := "cspcheck/cspchecklaw28.DiamondMinimal", spec := "diamondMinimal", unfollowed := true, recurses := true, plainKeys := false, apart := false, narrowed := true }
def DiamondMinimalUptoSaid : Prop := diamondMinimalUptoRow.holds Tryz.pinned (OpenSpec.upto diamondMinimalSpec)

/-- 'cspchecklaw30.NormalValid', WHERE WHAT IT READS IS OF BULK AT MOST 1048576: true; the input reads as it did. -/
def normalValidUptoRow : OpenClaim := { program := "ytfjfllpcflddmaagreat", sum := "7520f14ebec9ea9129167598fe6f4a0bff5e02aa0e62e55b63bfb20cca58ca4f", func := "cspcheck/cspchecklaw30.NormalValid", spec := "normalValid", unfollowed := true, recurses := true, plainKeys := false, apart := false, narrowed := true }
def NormalValidUptoSaid : Prop := normalValidUptoRow.holds Tryz.pinned (OpenSpec.upto normalValidSpec)

/-- 'cspchecklaw30.NormalWalk', WHERE WHAT IT READS IS OF BULK AT MOST 1048576: true; the input reads as it did. -/
def normalWalkUptoRow : OpenClaim := { program := "ytfjfllpcflddmaagreat", sum := "7520f14ebec9ea9129167598fe6f4a0bff5e02aa0e62e55b63bfb20cca58ca4f", func := "cspcheck/cspchecklaw30.NormalWalk", spec := "normalWalk", unfollowed := true, recurses := true, plainKeys := false, apart := false, narrowed := true }
def NormalWalkUptoSaid : Prop := normalWalkUptoRow.holds Tryz.pinned (OpenSpec.upto normalWalkSpec)

end Rows
end Go.Proofs.YtfjfllpcflddmaaGreat
