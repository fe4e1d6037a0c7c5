/-
  NARROWER THAN 'FOR EVERY INPUT', by the rows' own cells (each row's printed sentence says how): PriorityChase: laid · PriorityInert: laid · WeakCoarser: laid · DelayBetween: laid.
  DERIVED. THE GIVEN ROWS OF THIS SEAT. 4 by the template 'for every input the law returns true; each argument reads behind the call as it read before'; 0 by the template 'total and deterministic' (their statements: YtjijjfkalheokaaGreatDoorTotals.lean).
  GIVEN WITH THE SEED: the statements are not yours to turn. If you find one false, say at which input.
  Laid BY PROGRAM, IN A SANDBOX (cutbox-rows.mjs): the forced cells as the released guide's own fill.sh prints them over the translation c8da3191481a1130… (all of the seat's roots in one cut). By AI agents, Wed Nov 11 2026. No macro, syntax, notation, axiom, sorry.
-/
import Derived.Test.YtjijjfkalheokaaGreatDoorChecked
import GoSem.Claim
import GoSem.ClaimJoined
import GoSem.ClaimMapViews
import Derived.JoinedTies
import Derived.KernelRfl
namespace Go.Proofs.YtjijjfkalheokaaGreatDoor
/- THE CELL 'sum', in the pinned program and in every row, IS THE sha256 OF THE DUMP (.gsa) THAT YtjijjfkalheokaaGreatDoorProg.lean LOADS. Nothing in Lean hashes anything: it is a label: what it is worth is what the hold of that sum in a sandbox is worth. -/
noncomputable def Tryz.pinned : Pinned := { name := "ytjijjfkalheokaagreatdoor", sum := "c8da3191481a1130e55dd64752dda8347e03b5bc6ba4ca83536dd30c1a358260", checked := Tryz.checked }
namespace Rows
def none {H : Type} : Left H := { results := [], args := [] }

/- WHAT THE LISTED PACKAGE-LEVEL VARIABLES READ AS WHEN THE CALL BEGINS. Each datum BY PROGRAM (the guide's laid-datum.mjs) off the statement by which the dump's own 'gosem.cut.vars' lays the variable. In a bare row this is a premise. The card (YtjijjfkalheokaaGreatDoorCards.lean) ties it to the program's text. -/
def laid_math_bits_deBruijn64tab {H : Type} : DataW H := .agg [.lit (.int .u8 0), .lit (.int .u8 1), .lit (.int .u8 56), .lit (.int .u8 2), .lit (.int .u8 57), .lit (.int .u8 49), .lit (.int .u8 28), .lit (.int .u8 3), .lit (.int .u8 61), .lit (.int .u8 58), .lit (.int .u8 42), .lit (.int .u8 50), .lit (.int .u8 38), .lit (.int .u8 29), .lit (.int .u8 17), .lit (.int .u8 4), .lit (.int .u8 62), .lit (.int .u8 47), .lit (.int .u8 59), .lit (.int .u8 36), .lit (.int .u8 45), .lit (.int .u8 43), .lit (.int .u8 51), .lit (.int .u8 22), .lit (.int .u8 53), .lit (.int .u8 39), .lit (.int .u8 33), .lit (.int .u8 30), .lit (.int .u8 24), .lit (.int .u8 18), .lit (.int .u8 12), .lit (.int .u8 5), .lit (.int .u8 63), .lit (.int .u8 55), .lit (.int .u8 48), .lit (.int .u8 27), .lit (.int .u8 60), .lit (.int .u8 41), .lit (.int .u8 37), .lit (.int .u8 16), .lit (.int .u8 46), .lit (.int .u8 35), .lit (.int .u8 44), .lit (.int .u8 21), .lit (.int .u8 52), .lit (.int .u8 32), .lit (.int .u8 23), .lit (.int .u8 11), .lit (.int .u8 54), .lit (.int .u8 26), .lit (.int .u8 40), .lit (.int .u8 15), .lit (.int .u8 34), .lit (.int .u8 20), .lit (.int .u8 31), .lit (.int .u8 10), .lit (.int .u8 25), .lit (.int .u8 14), .lit (.int .u8 19), .lit (.int .u8 9), .lit (.int .u8 13), .lit (.int .u8 8), .lit (.int .u8 7), .lit (.int .u8 6)]

/-- 'cspchecklaw29.PriorityChase': WHATEVER THE INPUT: true; the input reads as it did. -/
def priorityChaseSpec : ChangeSpec := { name := "priorityChase", fn := fun _ => fun
  | [d1, d2] => { results := [.lit (.bool true)], args := [d1, d2] }
  | _ => none }
def priorityChaseRow : OpenClaim := { program := "ytjijjfkalheokaagreatdoor", sum := "c8da3191481a1130e55dd64752dda8347e03b5bc6ba4ca83536dd30c1a358260", func := "cspcheck/cspchecklaw29.PriorityChase", spec := "priorityChase", unfollowed := true, recurses := true, named := ["math/bits.deBruijn64tab"], apart := false, laid := [("math/bits.deBruijn64tab", laid_math_bits_deBruijn64tab)] }
def PriorityChaseSaid : Prop := priorityChaseRow.holds Tryz.pinned (OpenSpec.ofChange priorityChaseSpec)

/-- ITS FALSE NEIGHBOUR: 'it returns false'. Refute it at one input. -/
def priorityChaseWrong : ChangeSpec := { name := "priorityChase", fn := fun _ => fun
  | [d1, d2] => { results := [.lit (.bool false)], args := [d1, d2] }
  | _ => none }
def PriorityChaseWrongFalsely : Prop := priorityChaseRow.holds Tryz.pinned (OpenSpec.ofChange priorityChaseWrong)

/-- 'cspchecklaw29.PriorityInert': WHATEVER THE INPUT: true; the input reads as it did. -/
def priorityInertSpec : ChangeSpec := { name := "priorityInert", fn := fun _ => fun
  | [d1, d2] => { results := [.lit (.bool true)], args := [d1, d2] }
  | _ => none }
def priorityInertRow : OpenClaim := { program := "ytjijjfkalheokaagreatdoor", sum := "c8da3191481a1130e55dd64752dda8347e03b5bc6ba4ca83536dd30c1a358260", func := "cspcheck/cspchecklaw29.PriorityInert", spec := "priorityInert", unfollowed := true, recurses := true, named := ["math/bits.deBruijn64tab"], apart := false, laid := [("math/bits.deBruijn64tab", laid_math_bits_deBruijn64tab)] }
def PriorityInertSaid : Prop := priorityInertRow.holds Tryz.pinned (OpenSpec.ofChange priorityInertSpec)

/-- ITS FALSE NEIGHBOUR: 'it returns false'. Refute it at one input. -/
def priorityInertWrong : ChangeSpec := { name := "priorityInert", fn := fun _ => fun
  | [d1, d2] => { results := [.lit (.bool false)], args := [d1, d2] }
  | _ => none }
def PriorityInertWrongFalsely : Prop := priorityInertRow.holds Tryz.pinned (OpenSpec.ofChange priorityInertWrong)

/-- 'cspchecklaw26.WeakCoarser': WHATEVER THE INPUT: true; the input reads as it did. -/
def weakCoarserSpec : ChangeSpec := { name := "weakCoarser", fn := fun _ => fun
  | [d] => { results := [.lit (.bool true)], args := [d] }
  | _ => none }
def weakCoarserRow : OpenClaim := { program := "ytjijjfkalheokaagreatdoor", sum := "c8da3191481a1130e55dd64752dda8347e03b5bc6ba4ca83536dd30c1a358260", func := "cspcheck/cspchecklaw26.WeakCoarser", spec := "weakCoarser", unfollowed := true, recurses := true, named := ["math/bits.deBruijn64tab"], apart := false, laid := [("math/bits.deBruijn64tab", laid_math_bits_deBruijn64tab)] }
def WeakCoarserSaid : Prop := weakCoarserRow.holds Tryz.pinned (OpenSpec.ofChange weakCoarserSpec)

/-- ITS FALSE NEIGHBOUR: 'it returns false'. Refute it at one input. -/
def weakCoarserWrong : ChangeSpec := { name := "weakCoarser", fn := fun _ => fun
  | [d] => { results := [.lit (.bool false)], args := [d] }
  | _ => none }
def WeakCoarserWrongFalsely : Prop := weakCoarserRow.holds Tryz.pinned (OpenSpec.ofChange weakCoarserWrong)

/-- 'cspchecklaw27.DelayBetween': WHATEVER THE INPUT: true; the input reads as it did. -/
def delayBetweenSpec : ChangeSpec := { name := "delayBetween", fn := fun _ => fun
  | [d] => { results := [.lit (.bool true)], args := [d] }
  | _ => none }
def delayBetweenRow : OpenClaim := { program := "ytjijjfkalheokaagreatdoor", sum := "c8da3191481a1130e55dd64752dda8347e03b5bc6ba4ca83536dd30c1a358260", func := "cspcheck/cspchecklaw27.DelayBetween", spec := "delayBetween", unfollowed := true, recurses := true, named := ["math/bits.deBruijn64tab"], apart := false, laid := [("math/bits.deBruijn64tab", laid_math_bits_deBruijn64tab)] }
def DelayBetweenSaid : Prop := delayBetweenRow.holds Tryz.pinned (OpenSpec.ofChange delayBetweenSpec)

/-- ITS FALSE NEIGHBOUR: 'it returns false'. Refute it at one input. -/
def delayBetweenWrong : ChangeSpec := { name := "delayBetween", fn := fun _ => fun
  | [d] => { results := [.lit (.bool false)], args := [d] }
  | _ => none }
def DelayBetweenWrongFalsely : Prop := delayBetweenRow.holds Tryz.pinned (OpenSpec.ofChange delayBetweenWrong)

/- THE SECOND FORM. 'bulk': how many values and letters a reading holds, each counted each time it is reached (what is shared counts as often as it is met; a slice's spare places count too). A statement '..UptoSaid' is the law's where the arguments, and the package variables that the reading takes, are together of bulk at most 1048576: NARROWER than '..Said'. Prove '..Said' where nothing that the law and all that it calls make is longer than what came in: it says more and counts as full. Else prove '..UptoSaid'. A law counts once. -/
mutual
def uptoBulk {H : Type} : DataW H → Nat
  | .lit (.string bytes) => bytes.length + 1
  | .lit _ => 1
  | .nil => 1
  | .ptr d => uptoBulk d + 1
  | .slice elems spare => uptoBulkAll elems + uptoBulkAll spare + 1
  | .agg parts => uptoBulkAll parts + 1
  | .iface _ d => uptoBulk d + 1
  | .map entries => uptoBulkEntries entries + 1
  | .held _ => 1
def uptoBulkAll {H : Type} : List (DataW H) → Nat
  | [] => 0
  | d :: r => uptoBulk d + uptoBulkAll r
def uptoBulkEntries {H : Type} : List (Lit × DataW H) → Nat
  | [] => 0
  | x :: r => uptoBulkEntry x + uptoBulkEntries r
def uptoBulkEntry {H : Type} : Lit × DataW H → Nat
  | (.string bytes, d) => bytes.length + uptoBulk d + 1
  | (_, d) => uptoBulk d + 1
 end
def uptoSmall : (H : Type) → List (DataW H) → Bool := fun _ ds => decide (uptoBulkAll ds ≤ 1048576)
def OpenSpec.upto (s : _root_.Go.ChangeSpec) : _root_.Go.OpenSpec := { _root_.Go.OpenSpec.ofChange s with cond := some uptoSmall }

/-- 'cspchecklaw29.PriorityChase', WHERE WHAT IT READS IS OF BULK AT MOST 1048576: true; the input reads as it did. -/
def priorityChaseUptoRow : OpenClaim := { program := "ytjijjfkalheokaagreatdoor", sum := "c8da3191481a1130e55dd64752dda8347e03b5bc6ba4ca83536dd30c1a358260", func := "cspcheck/cspchecklaw29.PriorityChase", spec := "priorityChase", unfollowed := true, recurses := true, named := ["math/bits.deBruijn64tab"], apart := false, laid := [("math/bits.deBruijn64tab", laid_math_bits_deBruijn64tab)], narrowed := true }
def PriorityChaseUptoSaid : Prop := priorityChaseUptoRow.holds Tryz.pinned (OpenSpec.upto priorityChaseSpec)

/-- 'cspchecklaw29.PriorityInert', WHERE WHAT IT READS IS OF BULK AT MOST 1048576: true; the input reads as it did. -/
def priorityInertUptoRow : OpenClaim := { program := "ytjijjfkalheokaagreatdoor", sum := "c8da3191481a1130e55dd64752dda8347e03b5bc6ba4ca83536dd30c1a358260", func := "cspcheck/cspchecklaw29.PriorityInert", spec := "priorityInert", unfollowed := true, recurses := true, named := ["math/bits.deBruijn64tab"], apart := false, laid := [("math/bits.deBruijn64tab", laid_math_bits_deBruijn64tab)], narrowed := true }
def PriorityInertUptoSaid : Prop := priorityInertUptoRow.holds Tryz.pinned (OpenSpec.upto priorityInertSpec)

/-- 'cspchecklaw26.WeakCoarser', WHERE WHAT IT READS IS OF BULK AT MOST 1048576: true; the input reads as it did. -/
def weakCoarserUptoRow : OpenClaim := { program := "ytjijjfkalheokaagreatdoor", sum := "c8da3191481a1130e55dd64752dda8347e03b5bc6ba4ca83536dd30c1a358260", func := "cspcheck/cspchecklaw26.WeakCoarser", spec := "weakCoarser", unfollowed := true, recurses := true, named := ["math/bits.deBruijn64tab"], apart := false, laid := [("math/bits.deBruijn64tab", laid_math_bits_deBruijn64tab)], narrowed := true }
def WeakCoarserUptoSaid : Prop := weakCoarserUptoRow.holds Tryz.pinned (OpenSpec.upto weakCoarserSpec)

/-- 'cspchecklaw27.DelayBetween', WHERE WHAT IT READS IS OF BULK AT MOST 1048576: true; the input reads as it did. -/
def delayBetweenUptoRow : OpenClaim := { program := "ytjijjfkalheokaagreatdoor", sum := "c8da3191481a1130e55dd64752dda8347e03b5bc6ba4ca83536dd30c1a358260", func := "cspcheck/cspchecklaw27.DelayBetween", spec := "delayBetween", unfollowed := true, recurses := true, named := ["math/bits.deBruijn64tab"], apart := false, laid := [("math/bits.deBruijn64tab", laid_math_bits_deBruijn64tab)], narrowed := true }
def DelayBetweenUptoSaid : Prop := delayBetweenUptoRow.holds Tryz.pinned (OpenSpec.upto delayBetweenSpec)

end Rows
end Go.Proofs.YtjijjfkalheokaaGreatDoor
