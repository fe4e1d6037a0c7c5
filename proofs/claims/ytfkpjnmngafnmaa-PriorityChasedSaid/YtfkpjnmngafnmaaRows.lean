/-
  No cell of these rows narrows 'for every input' (looked for: loops, veiled, ifaces, maps, wideKeys, modest, calm, conditions, laid).
  DERIVED. THE GIVEN ROWS OF THIS SEAT. 3 by the template 'for every input the law returns true; each argument reads behind the call as it read before'; 0 by the template 'total and deterministic' (their statements: YtfkpjnmngafnmaaTotals.lean).
  GIVEN WITH THE SEED: the statements are not yours to turn. If you find one false, say at which input.
  Laid BY PROGRAM, IN A SANDBOX (cutbox-rows.mjs): the forced cells as the released guide's own fill.sh prints them over the translation 6bd1f14cc5cca063… (all of the seat's roots in one cut). By AI agents, Wed Nov 11 2026. No macro, syntax, notation, axiom, sorry.
-/
import Derived.Test.YtfkpjnmngafnmaaChecked
import GoSem.Claim
import GoSem.ClaimJoined
import GoSem.ClaimMapViews
import Derived.JoinedTies
import Derived.KernelRfl
namespace Go.Proofs.Ytfkpjnmngafnmaa
/- THE CELL 'sum', in the pinned program and in every row, IS THE sha256 OF THE DUMP (.gsa) THAT YtfkpjnmngafnmaaProg.lean LOADS. Nothing in Lean hashes anything: it is a label: what it is worth is what the hold of that sum in a sandbox is worth. -/
noncomputable def Try.pinned : Pinned := { name := "ytfkpjnmngafnmaa", sum := "6bd1f14cc5cca063e3607d0a8706ec6f59ddc00a0ba1673040156ad3f519f036", checked := Try.checked }
namespace Rows
def none {H : Type} : Left H := { results := [], args := [] }

/-- 'cspchecklaw29.PriorityPrioritise': WHATEVER THE INPUT: true; the input reads as it did. -/
def priorityPrioritiseSpec : ChangeSpec := { name := "priorityPrioritise", fn := fun _ => fun
  | [d1, d2, d3] => { results := [.lit (.bool true)], args := [d1, d2, d3] }
  | _ => none }
def priorityPrioritiseRow : OpenClaim := { program := "ytfkpjnmngafnmaa", sum := "6bd1f14cc5cca063e3607d0a8706ec6f59ddc00a0ba1673040156ad3f519f036", func := "cspcheck/cspchecklaw29.PriorityPrioritise", spec := "priorityPrioritise", unfollowed := true, recurses := true, apart := false }
def PriorityPrioritiseSaid : Prop := priorityPrioritiseRow.holds Try.pinned (OpenSpec.ofChange priorityPrioritiseSpec)

/-- ITS FALSE NEIGHBOUR: 'it returns false'. Refute it at one input. -/
def priorityPrioritiseWrong : ChangeSpec := { name := "priorityPrioritise", fn := fun _ => fun
  | [d1, d2, d3] => { results := [.lit (.bool false)], args := [d1, d2, d3] }
  | _ => none }
def PriorityPrioritiseWrongFalsely : Prop := priorityPrioritiseRow.holds Try.pinned (OpenSpec.ofChange priorityPrioritiseWrong)

/-- 'cspchecklaw29.PriorityOnce': WHATEVER THE INPUT: true; the input reads as it did. -/
def priorityOnceSpec : ChangeSpec := { name := "priorityOnce", fn := fun _ => fun
  | [d] => { results := [.lit (.bool true)], args := [d] }
  | _ => none }
def priorityOnceRow : OpenClaim := { program := "ytfkpjnmngafnmaa", sum := "6bd1f14cc5cca063e3607d0a8706ec6f59ddc00a0ba1673040156ad3f519f036", func := "cspcheck/cspchecklaw29.PriorityOnce", spec := "priorityOnce", unfollowed := true, recurses := true, apart := false }
def PriorityOnceSaid : Prop := priorityOnceRow.holds Try.pinned (OpenSpec.ofChange priorityOnceSpec)

/-- ITS FALSE NEIGHBOUR: 'it returns false'. Refute it at one input. -/
def priorityOnceWrong : ChangeSpec := { name := "priorityOnce", fn := fun _ => fun
  | [d] => { results := [.lit (.bool false)], args := [d] }
  | _ => none }
def PriorityOnceWrongFalsely : Prop := priorityOnceRow.holds Try.pinned (OpenSpec.ofChange priorityOnceWrong)

/-- 'cspchecklaw29.PriorityChased': WHATEVER THE INPUT: true; the input reads as it did. -/
def priorityChasedSpec : ChangeSpec := { name := "priorityChased", fn := fun _ => fun
  | [d] => { results := [.lit (.bool true)], args := [d] }
  | _ => none }
def priorityChasedRow : OpenClaim := { program := "ytfkpjnmngafnmaa", sum := "6bd1f14cc5cca063e3607d0a8706ec6f59ddc00a0ba1673040156ad3f519f036", func := "cspcheck/cspchecklaw29.PriorityChased", spec := "priorityChased", unfollowed := true, recurses := true, apart := false }
def PriorityChasedSaid : Prop := priorityChasedRow.holds Try.pinned (OpenSpec.ofChange priorityChasedSpec)

/-- ITS FALSE NEIGHBOUR: 'it returns false'. Refute it at one input. -/
def priorityChasedWrong : ChangeSpec := { name := "priorityChased", fn := fun _ => fun
  | [d] => { results := [.lit (.bool false)], args := [d] }
  | _ => none }
def PriorityChasedWrongFalsely : Prop := priorityChasedRow.holds Try.pinned (OpenSpec.ofChange priorityChasedWrong)

/- THE SECOND FORM. 'bulk': how many values and letters a reading holds, each counted each time it is reached (what is shared counts as often as it is met; a slice's spare places count too). A statement '..UptoSaid' is the law's where the arguments, and the package variables that the reading takes, are together of bulk at most 1048576: NARROWER than '..Said'. Prove '..Said' where nothing that the law and all that it calls make is longer than what came in: it says more and counts as full. Else prove '..UptoSaid'. A law counts once. -/
mutual
def uptoBulk {H : Type} : DataW H → Nat
  | .lit (.string bytes) => bytes.length + 1
  | .lit _ => 1
  | .nil => 1
  | .ptr d => uptoBulk d + 1
  | .slice elems spare => uptoBulkAll elems + uptoBulkAll spare + 1
  | .agg parts => uptoBulkAll parts + 1
  | .iface _ d => uptoBulk d + 1
  | .map entries => uptoBulkEntries entries + 1
  | .held _ => 1
def uptoBulkAll {H : Type} : List (DataW H) → Nat
  | [] => 0
  | d :: r => uptoBulk d + uptoBulkAll r
def uptoBulkEntries {H : Type} : List (Lit × DataW H) → Nat
  | [] => 0
  | x :: r => uptoBulkEntry x + uptoBulkEntries r
def uptoBulkEntry {H : Type} : Lit × DataW H → Nat
  | (.string bytes, d) => bytes.length + uptoBulk d + 1
  | (_, d) => uptoBulk d + 1
 end
def uptoSmall : (H : Type) → List (DataW H) → Bool := fun _ ds => decide (uptoBulkAll ds ≤ 1048576)
def OpenSpec.upto (s : _root_.Go.ChangeSpec) : _root_.Go.OpenSpec := { _root_.Go.OpenSpec.ofChange s with cond := some uptoSmall }

/-- 'cspchecklaw29.PriorityPrioritise', WHERE WHAT IT READS IS OF BULK AT MOST 1048576: true; the input reads as it did. -/
def priorityPrioritiseUptoRow : OpenClaim := { program := "ytfkpjnmngafnmaa", sum := "6bd1f14cc5cca063e3607d0a8706ec6f59ddc00a0ba1673040156ad3f519f036", func := "cspcheck/cspchecklaw29.PriorityPrioritise", spec := "priorityPrioritise", unfollowed := true, recurses := true, apart := false, narrowed := true }
def PriorityPrioritiseUptoSaid : Prop := priorityPrioritiseUptoRow.holds Try.pinned (OpenSpec.upto priorityPrioritiseSpec)

/-- 'cspchecklaw29.PriorityOnce', WHERE WHAT IT READS IS OF BULK AT MOST 1048576: true; the input reads as it did. -/
def priorityOnceUptoRow : OpenClaim := { program := "ytfkpjnmngafnmaa", sum := "6bd1f14cc5cca063e3607d0a8706ec6f59ddc00a0ba1673040156ad3f519f036", func := "cspcheck/cspchecklaw29.PriorityOnce", spec := "priorityOnce", unfollowed := true, recurses := true, apart := false, narrowed := true }
def PriorityOnceUptoSaid : Prop := priorityOnceUptoRow.holds Try.pinned (OpenSpec.upto priorityOnceSpec)

/-- 'cspchecklaw29.PriorityChased', WHERE WHAT IT READS IS OF BULK AT MOST 1048576: true; the input reads as it did. -/
def priorityChasedUptoRow : OpenClaim := { program := "ytfkpjnmngafnmaa", sum := "6bd1f14cc5cca063e3607d0a8706ec6f59ddc00a0ba1673040156ad3f519f036", func := "cspcheck/cspchecklaw29.PriorityChased", spec := "priorityChased", unfollowed := true, recurses := true, apart := false, narrowed := true }
def PriorityChasedUptoSaid : Prop := priorityChasedUptoRow.holds Try.pinned (OpenSpec.upto priorityChasedSpec)

end Rows
end Go.Proofs.Ytfkpjnmngafnmaa
