/-
  No cell of these rows narrows 'for every input' (looked for: loops, veiled, ifaces, maps, wideKeys, modest, calm, conditions, laid).
  DERIVED. THE GIVEN ROWS OF THIS SEAT. 2 by the template 'for every input the law returns true; each argument reads behind the call as it read before'; 0 by the template 'total and deterministic' (their statements: YtgclmlbaodcccaaTotals.lean).
  GIVEN WITH THE SEED: the statements are not yours to turn. If you find one false, say at which input.
  Laid BY PROGRAM, IN A SANDBOX (cutbox-rows.mjs): the forced cells as the released guide's own fill.sh prints them over the translation 0290abc96ea32eeb… (all of the seat's roots in one cut). By AI agents, Wed Nov 11 2026. No macro, syntax, notation, axiom, sorry.
-/
import Derived.Test.YtgclmlbaodcccaaChecked
import GoSem.Claim
import GoSem.ClaimJoined
import GoSem.ClaimMapViews
import Derived.JoinedTies
import Derived.KernelRfl
namespace Go.Proofs.Ytgclmlbaodcccaa
/- THE CELL 'sum', in the pinned program and in every row, IS THE sha256 OF THE DUMP (.gsa) THAT YtgclmlbaodcccaaProg.lean LOADS. Nothing in Lean hashes anything: it is a label: what it is worth is what the hold of that sum in a sandbox is worth. -/
noncomputable def Try.pinned : Pinned := { name := "ytgclmlbaodcccaa", sum := "0290abc96ea32eebecf3604a559dd4946b631c7521eafef98c6b68d346edfcb4", checked := Try.checked }
namespace Rows
def none {H : Type} : Left H := { results := [], args := [] }

/-- 'cspchecklaw31.LegalityExamples': WHATEVER THE INPUT: true; the input reads as it did. -/
def legalityExamplesSpec : ChangeSpec := { name := "legalityExamples", fn := fun _ => fun
  | [] => { results := [.lit (.bool true)], args := [] }
  | _ => none }
def legalityExamplesRow : OpenClaim := { program := "ytgclmlbaodcccaa", sum := "0290abc96ea32eebecf3604a559dd4946b631c7521eafef98c6b68d346edfcb4", func := "cspcheck/cspchecklaw31.LegalityExamples", spec := "legalityExamples", unfollowed := true, recurses := true, plainKeys := false, apart := false }
def LegalityExamplesSaid : Prop := legalityExamplesRow.holds Try.pinned (OpenSpec.ofChange legalityExamplesSpec)

/-- ITS FALSE NEIGHBOUR: 'it returns false'. Refute it at one input. -/
def legalityExamplesWrong : ChangeSpec := { name := "legalityExamples", fn := fun _ => fun
  | [] => { results := [.lit (.bool false)], args := [] }
  | _ => none }
def LegalityExamplesWrongFalsely : Prop := legalityExamplesRow.holds Try.pinned (OpenSpec.ofChange legalityExamplesWrong)

/-- 'cspchecklaw28.DiamondExamples': WHATEVER THE INPUT: true; the input reads as it did. -/
def diamondExamplesSpec : ChangeSpec := { name := "diamondExamples", fn := fun _ => fun
  | [] => { results := [.lit (.bool true)], args := [] }
  | _ => none }
def diamondExamplesRow : OpenClaim := { program := "ytgclmlbaodcccaa", sum := "0290abc96ea32eebecf3604a559dd4946b631c7521eafef98c6b68d346edfcb4", func := "cspcheck/cspchecklaw28.DiamondExamples", spec := "diamondExamples", unfollowed := true, recurses := true, plainKeys := false, apart := false }
def DiamondExamplesSaid : Prop := diamondExamplesRow.holds Try.pinned (OpenSpec.ofChange diamondExamplesSpec)

/-- ITS FALSE NEIGHBOUR: 'it returns false'. Refute it at one input. -/
def diamondExamplesWrong : ChangeSpec := { name := "diamondExamples", fn := fun _ => fun
  | [] => { results := [.lit (.bool false)], args := [] }
  | _ => none }
def DiamondExamplesWrongFalsely : Prop := diamondExamplesRow.holds Try.pinned (OpenSpec.ofChange diamondExamplesWrong)

/- THE SECOND FORM. 'bulk': how many values and letters a reading holds, each counted each time it is reached (what is shared counts as often as it is met; a slice's spare places count too). A statement '..UptoSaid' is the law's where the arguments, and the package variables that the reading takes, are together of bulk at most 1048576: NARROWER than '..Said'. Prove '..Said' where nothing that the law and all that it calls make is longer than what came in: it says more and counts as full. Else prove '..UptoSaid'. A law counts once. -/
mutual
def uptoBulk {H : Type} : DataW H → Nat
  | .lit (.string bytes) => bytes.length + 1
  | .lit _ => 1
  | .nil => 1
  | .ptr d => uptoBulk d + 1
  | .slice elems spare => uptoBulkAll elems + uptoBulkAll spare + 1
  | .agg parts => uptoBulkAll parts + 1
  | .iface _ d => uptoBulk d + 1
  | .map entries => uptoBulkEntries entries + 1
  | .held _ => 1
def uptoBulkAll {H : Type} : List (DataW H) → Nat
  | [] => 0
  | d :: r => uptoBulk d + uptoBulkAll r
def uptoBulkEntries {H : Type} : List (Lit × DataW H) → Nat
  | [] => 0
  | x :: r => uptoBulkEntry x + uptoBulkEntries r
def uptoBulkEntry {H : Type} : Lit × DataW H → Nat
  | (.string bytes, d) => bytes.length + uptoBulk d + 1
  | (_, d) => uptoBulk d + 1
 end
def uptoSmall : (H : Type) → List (DataW H) → Bool := fun _ ds => decide (uptoBulkAll ds ≤ 1048576)
def OpenSpec.upto (s : _root_.Go.ChangeSpec) : _root_.Go.OpenSpec := { _root_.Go.OpenSpec.ofChange s with cond := some uptoSmall }

/-- 'cspchecklaw31.LegalityExamples', WHERE WHAT IT READS IS OF BULK AT MOST 1048576: true; the input reads as it did. -/
def legalityExamplesUptoRow : OpenClaim := { program := "ytgclmlbaodcccaa", sum := "0290abc96ea32eebecf3604a559dd4946b631c7521eafef98c6b68d346edfcb4", func := "cspcheck/cspchecklaw31.LegalityExamples", spec := "legalityExamples", unfollowed := true, recurses := true, plainKeys := false, apart := false, narrowed := true }
def LegalityExamplesUptoSaid : Prop := legalityExamplesUptoRow.holds Try.pinned (OpenSpec.upto legalityExamplesSpec)

/-- 'cspchecklaw28.DiamondExamples', WHERE WHAT IT READS IS OF BULK AT MOST 1048576: true; the input reads as it did. -/
def diamondExamplesUptoRow : OpenClaim := { program := "ytgclmlbaodcccaa", sum := "0290abc96ea32eebecf3604a559dd4946b631c7521eafef98c6b68d346edfcb4", func := "cspcheck/cspchecklaw28.DiamondExamples", spec := "diamondExamples", unfollowed := true, recurses := true, plainKeys := false, apart := false, narrowed := true }
def DiamondExamplesUptoSaid : Prop := diamondExamplesUptoRow.holds Try.pinned (OpenSpec.upto diamondExamplesSpec)

end Rows
end Go.Proofs.Ytgclmlbaodcccaa
