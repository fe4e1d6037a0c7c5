/-
  No cell of these rows narrows 'for every input' (looked for: loops, veiled, ifaces, maps, wideKeys, modest, calm, conditions, laid).
  DERIVED. THE GIVEN ROWS OF THIS SEAT. 5 by the template 'for every input the law returns true; each argument reads behind the call as it read before'; 0 by the template 'total and deterministic' (their statements: YthlckclbjknldaaGreatTotals.lean).
  GIVEN WITH THE SEED: the statements are not yours to turn. If you find one false, say at which input.
  Laid BY PROGRAM, IN A SANDBOX (cutbox-rows.mjs): the forced cells as the released guide's own fill.sh prints them over the translation a7c8dee01d24bd12… (all of the seat's roots in one cut). By AI agents, Wed Nov 11 2026. No macro, syntax, notation, axiom, sorry.
-/
import Derived.Test.YthlckclbjknldaaGreatChecked
import GoSem.Claim
import GoSem.ClaimJoined
import GoSem.ClaimMapViews
import Derived.JoinedTies
import Derived.KernelRfl
namespace Go.Proofs.YthlckclbjknldaaGreat
/- THE CELL 'sum', in the pinned program and in every row, IS THE sha256 OF THE DUMP (.gsa) THAT YthlckclbjknldaaGreatProg.lean LOADS. Nothing in Lean hashes anything: it is a label: what it is worth is what the hold of that sum in a sandbox is worth. -/
noncomputable def Tryz.pinned : Pinned := { name := "ythlckclbjknldaagreat", sum := "a7c8dee01d24bd12782f131a558d8c4a44098cae09c768ce6bdd429ab4db2e87", checked := Tryz.checked }
namespace Rows
def none {H : Type} : Left H := { results := [], args := [] }

/-- 'cspchecklaw31.LegalityApply': WHATEVER THE INPUT: true; the input reads as it did. -/
def legalityApplySpec : ChangeSpec := { name := "legalityApply", fn := fun _ => fun
  | [d1, d2, d3, d4] => { results := [.lit (.bool true)], args := [d1, d2, d3, d4] }
  | _ => none }
def legalityApplyRow : OpenClaim := { program := "ythlckclbjknldaagreat", sum := "a7c8dee01d24bd12782f131a558d8c4a44098cae09c768ce6bdd429ab4db2e87", func := "cspcheck/cspchecklaw31.LegalityApply", spec := "legalityApply", unfollowed := true, recurses := true, plainKeys := false, apart := false }
def LegalityApplySaid : Prop := legalityApplyRow.holds Tryz.pinned (OpenSpec.ofChange legalityApplySpec)

/-- ITS FALSE NEIGHBOUR: 'it returns false'. Refute it at one input. -/
def legalityApplyWrong : ChangeSpec := { name := "legalityApply", fn := fun _ => fun
  | [d1, d2, d3, d4] => { results := [.lit (.bool false)], args := [d1, d2, d3, d4] }
  | _ => none }
def LegalityApplyWrongFalsely : Prop := legalityApplyRow.holds Tryz.pinned (OpenSpec.ofChange legalityApplyWrong)

/-- 'cspchecklaw31.LegalityContexts': WHATEVER THE INPUT: true; the input reads as it did. -/
def legalityContextsSpec : ChangeSpec := { name := "legalityContexts", fn := fun _ => fun
  | [d1, d2] => { results := [.lit (.bool true)], args := [d1, d2] }
  | _ => none }
def legalityContextsRow : OpenClaim := { program := "ythlckclbjknldaagreat", sum := "a7c8dee01d24bd12782f131a558d8c4a44098cae09c768ce6bdd429ab4db2e87", func := "cspcheck/cspchecklaw31.LegalityContexts", spec := "legalityContexts", unfollowed := true, recurses := true, plainKeys := false, apart := false }
def LegalityContextsSaid : Prop := legalityContextsRow.holds Tryz.pinned (OpenSpec.ofChange legalityContextsSpec)

/-- ITS FALSE NEIGHBOUR: 'it returns false'. Refute it at one input. -/
def legalityContextsWrong : ChangeSpec := { name := "legalityContexts", fn := fun _ => fun
  | [d1, d2] => { results := [.lit (.bool false)], args := [d1, d2] }
  | _ => none }
def LegalityContextsWrongFalsely : Prop := legalityContextsRow.holds Tryz.pinned (OpenSpec.ofChange legalityContextsWrong)

/-- 'cspchecklaw31.LegalityLegal': WHATEVER THE INPUT: true; the input reads as it did. -/
def legalityLegalSpec : ChangeSpec := { name := "legalityLegal", fn := fun _ => fun
  | [d1, d2, d3] => { results := [.lit (.bool true)], args := [d1, d2, d3] }
  | _ => none }
def legalityLegalRow : OpenClaim := { program := "ythlckclbjknldaagreat", sum := "a7c8dee01d24bd12782f131a558d8c4a44098cae09c768ce6bdd429ab4db2e87", func := "cspcheck/cspchecklaw31.LegalityLegal", spec := "legalityLegal", unfollowed := true, recurses := true, plainKeys := false, apart := false }
def LegalityLegalSaid : Prop := legalityLegalRow.holds Tryz.pinned (OpenSpec.ofChange legalityLegalSpec)

/-- ITS FALSE NEIGHBOUR: 'it returns false'. Refute it at one input. -/
def legalityLegalWrong : ChangeSpec := { name := "legalityLegal", fn := fun _ => fun
  | [d1, d2, d3] => { results := [.lit (.bool false)], args := [d1, d2, d3] }
  | _ => none }
def LegalityLegalWrongFalsely : Prop := legalityLegalRow.holds Tryz.pinned (OpenSpec.ofChange legalityLegalWrong)

/-- 'cspchecklaw28.DiamondTauLoops': WHATEVER THE INPUT: true; the input reads as it did. -/
def diamondTauLoopsSpec : ChangeSpec := { name := "diamondTauLoops", fn := fun _ => fun
  | [d1, d2] => { results := [.lit (.bool true)], args := [d1, d2] }
  | _ => none }
def diamondTauLoopsRow : OpenClaim := { program := "ythlckclbjknldaagreat", sum := "a7c8dee01d24bd12782f131a558d8c4a44098cae09c768ce6bdd429ab4db2e87", func := "cspcheck/cspchecklaw28.DiamondTauLoops", spec := "diamondTauLoops", unfollowed := true, recurses := true, plainKeys := false, apart := false }
def DiamondTauLoopsSaid : Prop := diamondTauLoopsRow.holds Tryz.pinned (OpenSpec.ofChange diamondTauLoopsSpec)

/-- ITS FALSE NEIGHBOUR: 'it returns false'. Refute it at one input. -/
def diamondTauLoopsWrong : ChangeSpec := { name := "diamondTauLoops", fn := fun _ => fun
  | [d1, d2] => { results := [.lit (.bool false)], args := [d1, d2] }
  | _ => none }
def DiamondTauLoopsWrongFalsely : Prop := diamondTauLoopsRow.holds Tryz.pinned (OpenSpec.ofChange diamondTauLoopsWrong)

/-- 'cspchecklaw28.DiamondDiamond': WHATEVER THE INPUT: true; the input reads as it did. -/
def diamondDiamondSpec : ChangeSpec := { name := "diamondDiamond", fn := fun _ => fun
  | [d1, d2] => { results := [.lit (.bool true)], args := [d1, d2] }
  | _ => none }
def diamondDiamondRow : OpenClaim := { program := "ythlckclbjknldaagreat", sum := "a7c8dee01d24bd12782f131a558d8c4a44098cae09c768ce6bdd429ab4db2e87", func := "cspcheck/cspchecklaw28.DiamondDiamond", spec := "diamondDiamond", unfollowed := true, recurses := true, plainKeys := false, apart := false }
def DiamondDiamondSaid : Prop := diamondDiamondRow.holds Tryz.pinned (OpenSpec.ofChange diamondDiamondSpec)

/-- ITS FALSE NEIGHBOUR: 'it returns false'. Refute it at one input. -/
def diamondDiamondWrong : ChangeSpec := { name := "diamondDiamond", fn := fun _ => fun
  | [d1, d2] => { results := [.lit (.bool false)], args := [d1, d2] }
  | _ => none }
def DiamondDiamondWrongFalsely : Prop := diamondDiamondRow.holds Tryz.pinned (OpenSpec.ofChange diamondDiamondWrong)

/- THE SECOND FORM. 'bulk': how many values and letters a reading holds, each counted each time it is reached (what is shared counts as often as it is met; a slice's spare places count too). A statement '..UptoSaid' is the law's where the arguments, and the package variables that the reading takes, are together of bulk at most 1048576: NARROWER than '..Said'. Prove '..Said' where nothing that the law and all that it calls make is longer than what came in: it says more and counts as full. Else prove '..UptoSaid'. A law counts once. -/
mutual
def uptoBulk {H : Type} : DataW H → Nat
  | .lit (.string bytes) => bytes.length + 1
  | .lit _ => 1
  | .nil => 1
  | .ptr d => uptoBulk d + 1
  | .slice elems spare => uptoBulkAll elems + uptoBulkAll spare + 1
  | .agg parts => uptoBulkAll parts + 1
  | .iface _ d => uptoBulk d + 1
  | .map entries => uptoBulkEntries entries + 1
  | .held _ => 1
def uptoBulkAll {H : Type} : List (DataW H) → Nat
  | [] => 0
  | d :: r => uptoBulk d + uptoBulkAll r
def uptoBulkEntries {H : Type} : List (Lit × DataW H) → Nat
  | [] => 0
  | x :: r => uptoBulkEntry x + uptoBulkEntries r
def uptoBulkEntry {H : Type} : Lit × DataW H → Nat
  | (.string bytes, d) => bytes.length + uptoBulk d + 1
  | (_, d) => uptoBulk d + 1
 end
def uptoSmall : (H : Type) → List (DataW H) → Bool := fun _ ds => decide (uptoBulkAll ds ≤ 1048576)
def OpenSpec.upto (s : _root_.Go.ChangeSpec) : _root_.Go.OpenSpec := { _root_.Go.OpenSpec.ofChange s with cond := some uptoSmall }

/-- 'cspchecklaw31.LegalityApply', WHERE WHAT IT READS IS OF BULK AT MOST 1048576: true; the input reads as it did. -/
def legalityApplyUptoRow : OpenClaim := { program := "ythlckclbjknldaagreat", sum := "a7c8dee01d24bd12782f131a558d8c4a44098cae09c768ce6bdd429ab4db2e87", func := "cspcheck/cspchecklaw31.LegalityApply", spec := "legalityApply", unfollowed := true, recurses := true, plainKeys := false, apart := false, narrowed := true }
def LegalityApplyUptoSaid : Prop := legalityApplyUptoRow.holds Tryz.pinned (OpenSpec.upto legalityApplySpec)

/-- 'cspchecklaw31.LegalityContexts', WHERE WHAT IT READS IS OF BULK AT MOST 1048576: true; the input reads as it did. -/
def legalityContextsUptoRow : OpenClaim := { program := "ythlckclbjknldaagreat", sum := "a7c8dee01d24bd12782f131a558d8c4a44098cae09c768ce6bdd429ab4db2e87", func := "cspcheck/cspchecklaw31.LegalityContexts", spec := "legalityContexts", unfollowed := true, recurses := true, plainKeys := false, apart := false, narrowed := true }
def LegalityContextsUptoSaid : Prop := legalityContextsUptoRow.holds Tryz.pinned (OpenSpec.upto legalityContextsSpec)

/-- 'cspchecklaw31.LegalityLegal', WHERE WHAT IT READS IS OF BULK AT MOST 1048576: true; the input reads as it did. -/
def legalityLegalUptoRow : OpenClaim := { program := "ythlckclbjknldaagreat", sum := "a7c8dee01d24bd12782f131a558d8c4a44098cae09c768ce6bdd429ab4db2e87", func := "cspcheck/cspchecklaw31.LegalityLegal", spec := "legalityLegal", unfollowed := true, recurses := true, plainKeys := false, apart := false, narrowed := true }
def LegalityLegalUptoSaid : Prop := legalityLegalUptoRow.holds Tryz.pinned (OpenSpec.upto legalityLegalSpec)

/-- 'cspchecklaw28.DiamondTauLoops', WHERE WHAT IT READS IS OF BULK AT MOST 1048576: true; the input reads as it did. -/
def diamondTauLoopsUptoRow : OpenClaim := { program := "ythlckclbjknldaagreat", sum := "a7c8dee01d24bd12782f131a558d8c4a44098cae09c768ce6bdd429ab4db2e87", func := "cspcheck/cspchecklaw28.DiamondTauLoops", spec := "diamondTauLoops", unfollowed := true, recurses := true, plainKeys := false, apart := false, narrowed := true }
def DiamondTauLoopsUptoSaid : Prop := diamondTauLoopsUptoRow.holds Tryz.pinned (OpenSpec.upto diamondTauLoopsSpec)

/-- 'cspchecklaw28.DiamondDiamond', WHERE WHAT IT READS IS OF BULK AT MOST 1048576: true; the input reads as it did. -/
def diamondDiamondUptoRow : OpenClaim := { program := "ythlckclbjknldaagreat", sum := "a7c8dee01d24bd12782f131a558d8c4a44098cae09c768ce6bdd429ab4db2e87", func := "cspcheck/cspchecklaw28.DiamondDiamond", spec := "diamondDiamond", unfollowed := true, recurses := true, plainKeys := false, apart := false, narrowed := true }
def DiamondDiamondUptoSaid : Prop := diamondDiamondUptoRow.holds Tryz.pinned (OpenSpec.upto diamondDiamondSpec)

end Rows
end Go.Proofs.YthlckclbjknldaaGreat
