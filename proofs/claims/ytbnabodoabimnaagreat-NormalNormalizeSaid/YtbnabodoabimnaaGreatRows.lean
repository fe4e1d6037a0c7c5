/-
  No cell of these rows narrows 'for every input' (looked for: loops, veiled, ifaces, maps, wideKeys, modest, calm, conditions, laid).
  DERIVED. THE GIVEN ROWS OF THIS SEAT. 8 by the template 'for every input the law returns true; each argument reads behind the call as it read before'; 0 by the template 'total and deterministic' (their statements: YtbnabodoabimnaaGreatTotals.lean).
  GIVEN WITH THE SEED: the statements are not yours to turn. If you find one false, say at which input.
  Laid BY PROGRAM, IN A SANDBOX (cutbox-rows.mjs): the forced cells as the released guide's own fill.sh prints them over the translation 59b8fa4f424cdcb5… (all of the seat's roots in one cut). By AI agents, Wed Nov 11 2026. No macro, syntax, notation, axiom, sorry.
-/
import Derived.Test.YtbnabodoabimnaaGreatChecked
import GoSem.Claim
import GoSem.ClaimJoined
import GoSem.ClaimMapViews
import Derived.JoinedTies
import Derived.KernelRfl
namespace Go.Proofs.YtbnabodoabimnaaGreat
/- THE CELL 'sum', in the pinned program and in every row, IS THE sha256 OF THE DUMP (.gsa) THAT YtbnabodoabimnaaGreatProg.lean LOADS. Nothing in Lean hashes anything: it is a label: what it is worth is what the hold of that sum in a sandbox is worth. -/
noncomputable def Tryz.pinned : Pinned := { name := "ytbnabodoabimnaagreat", sum := "59b8fa4f424cdcb54aaa934861dff0ba699ec93307a9fee0648bdba12b726ad1", checked := Tryz.checked }
namespace Rows
def none {H : Type} : Left H := { results := [], args := [] }

/-- 'cspchecklaw30.NormalExamples': WHATEVER THE INPUT: true; the input reads as it did. -/
def normalExamplesSpec : ChangeSpec := { name := "normalExamples", fn := fun _ => fun
  | [] => { results := [.lit (.bool true)], args := [] }
  | _ => none }
def normalExamplesRow : OpenClaim := { program := "ytbnabodoabimnaagreat", sum := "59b8fa4f424cdcb54aaa934861dff0ba699ec93307a9fee0648bdba12b726ad1", func := "cspcheck/cspchecklaw30.NormalExamples", spec := "normalExamples", unfollowed := true, recurses := true, apart := false }
def NormalExamplesSaid : Prop := normalExamplesRow.holds Tryz.pinned (OpenSpec.ofChange normalExamplesSpec)

/-- ITS FALSE NEIGHBOUR: 'it returns false'. Refute it at one input. -/
def normalExamplesWrong : ChangeSpec := { name := "normalExamples", fn := fun _ => fun
  | [] => { results := [.lit (.bool false)], args := [] }
  | _ => none }
def NormalExamplesWrongFalsely : Prop := normalExamplesRow.holds Tryz.pinned (OpenSpec.ofChange normalExamplesWrong)

/-- 'cspchecklaw30.NormalValid': WHATEVER THE INPUT: true; the input reads as it did. -/
def normalValidSpec : ChangeSpec := { name := "normalValid", fn := fun _ => fun
  | [d1, d2, d3] => { results := [.lit (.bool true)], args := [d1, d2, d3] }
  | _ => none }
def normalValidRow : OpenClaim := { program := "ytbnabodoabimnaagreat", sum := "59b8fa4f424cdcb54aaa934861dff0ba699ec93307a9fee0648bdba12b726ad1", func := "cspcheck/cspchecklaw30.NormalValid", spec := "normalValid", unfollowed := true, recurses := true, apart := false }
def NormalValidSaid : Prop := normalValidRow.holds Tryz.pinned (OpenSpec.ofChange normalValidSpec)

/-- ITS FALSE NEIGHBOUR: 'it returns false'. Refute it at one input. -/
def normalValidWrong : ChangeSpec := { name := "normalValid", fn := fun _ => fun
  | [d1, d2, d3] => { results := [.lit (.bool false)], args := [d1, d2, d3] }
  | _ => none }
def NormalValidWrongFalsely : Prop := normalValidRow.holds Tryz.pinned (OpenSpec.ofChange normalValidWrong)

/-- 'cspchecklaw30.NormalPre': WHATEVER THE INPUT: true; the input reads as it did. -/
def normalPreSpec : ChangeSpec := { name := "normalPre", fn := fun _ => fun
  | [d1, d2, d3] => { results := [.lit (.bool true)], args := [d1, d2, d3] }
  | _ => none }
def normalPreRow : OpenClaim := { program := "ytbnabodoabimnaagreat", sum := "59b8fa4f424cdcb54aaa934861dff0ba699ec93307a9fee0648bdba12b726ad1", func := "cspcheck/cspchecklaw30.NormalPre", spec := "normalPre", unfollowed := true, recurses := true, apart := false }
def NormalPreSaid : Prop := normalPreRow.holds Tryz.pinned (OpenSpec.ofChange normalPreSpec)

/-- ITS FALSE NEIGHBOUR: 'it returns false'. Refute it at one input. -/
def normalPreWrong : ChangeSpec := { name := "normalPre", fn := fun _ => fun
  | [d1, d2, d3] => { results := [.lit (.bool false)], args := [d1, d2, d3] }
  | _ => none }
def NormalPreWrongFalsely : Prop := normalPreRow.holds Tryz.pinned (OpenSpec.ofChange normalPreWrong)

/-- 'cspchecklaw30.NormalMinimize': WHATEVER THE INPUT: true; the input reads as it did. -/
def normalMinimizeSpec : ChangeSpec := { name := "normalMinimize", fn := fun _ => fun
  | [d1, d2, d3] => { results := [.lit (.bool true)], args := [d1, d2, d3] }
  | _ => none }
def normalMinimizeRow : OpenClaim := { program := "ytbnabodoabimnaagreat", sum := "59b8fa4f424cdcb54aaa934861dff0ba699ec93307a9fee0648bdba12b726ad1", func := "cspcheck/cspchecklaw30.NormalMinimize", spec := "normalMinimize", unfollowed := true, recurses := true, apart := false }
def NormalMinimizeSaid : Prop := normalMinimizeRow.holds Tryz.pinned (OpenSpec.ofChange normalMinimizeSpec)

/-- ITS FALSE NEIGHBOUR: 'it returns false'. Refute it at one input. -/
def normalMinimizeWrong : ChangeSpec := { name := "normalMinimize", fn := fun _ => fun
  | [d1, d2, d3] => { results := [.lit (.bool false)], args := [d1, d2, d3] }
  | _ => none }
def NormalMinimizeWrongFalsely : Prop := normalMinimizeRow.holds Tryz.pinned (OpenSpec.ofChange normalMinimizeWrong)

/-- 'cspchecklaw30.NormalNormalize': WHATEVER THE INPUT: true; the input reads as it did. -/
def normalNormalizeSpec : ChangeSpec := { name := "normalNormalize", fn := fun _ => fun
  | [d1, d2, d3] => { results := [.lit (.bool true)], args := [d1, d2, d3] }
  | _ => none }
def normalNormalizeRow : OpenClaim := { program := "ytbnabodoabimnaagreat", sum := "59b8fa4f424cdcb54aaa934861dff0ba699ec93307a9fee0648bdba12b726ad1", func := "cspcheck/cspchecklaw30.NormalNormalize", spec := "normalNormalize", unfollowed := true, recurses := true, apart := false }
def NormalNormalizeSaid : Prop := normalNormalizeRow.holds Tryz.pinned (OpenSpec.ofChange normalNormalizeSpec)

/-- ITS FALSE NEIGHBOUR: 'it returns false'. Refute it at one input. -/
def normalNormalizeWrong : ChangeSpec := { name := "normalNormalize", fn := fun _ => fun
  | [d1, d2, d3] => { results := [.lit (.bool false)], args := [d1, d2, d3] }
  | _ => none }
def NormalNormalizeWrongFalsely : Prop := normalNormalizeRow.holds Tryz.pinned (OpenSpec.ofChange normalNormalizeWrong)

/-- 'cspchecklaw30.NormalWalk': WHATEVER THE INPUT: true; the input reads as it did. -/
def normalWalkSpec : ChangeSpec := { name := "normalWalk", fn := fun _ => fun
  | [d1, d2, d3] => { results := [.lit (.bool true)], args := [d1, d2, d3] }
  | _ => none }
def normalWalkRow : OpenClaim := { program := "ytbnabodoabimnaagreat", sum := "59b8fa4f424cdcb54aaa934861dff0ba699ec93307a9fee0648bdba12b726ad1", func := "cspcheck/cspchecklaw30.NormalWalk", spec := "normalWalk", unfollowed := true, recurses := true, apart := false }
def NormalWalkSaid : Prop := normalWalkRow.holds Tryz.pinned (OpenSpec.ofChange normalWalkSpec)

/-- ITS FALSE NEIGHBOUR: 'it returns false'. Refute it at one input. -/
def normalWalkWrong : ChangeSpec := { name := "normalWalk", fn := fun _ => fun
  | [d1, d2, d3] => { results := [.lit (.bool false)], args := [d1, d2, d3] }
  | _ => none }
def NormalWalkWrongFalsely : Prop := normalWalkRow.holds Tryz.pinned (OpenSpec.ofChange normalWalkWrong)

/-- 'cspchecklaw30.NormalMachine': WHATEVER THE INPUT: true; the input reads as it did. -/
def normalMachineSpec : ChangeSpec := { name := "normalMachine", fn := fun _ => fun
  | [d1, d2, d3] => { results := [.lit (.bool true)], args := [d1, d2, d3] }
  | _ => none }
def normalMachineRow : OpenClaim := { program := "ytbnabodoabimnaagreat", sum := "59b8fa4f424cdcb54aaa934861dff0ba699ec93307a9fee0648bdba12b726ad1", func := "cspcheck/cspchecklaw30.NormalMachine", spec := "normalMachine", unfollowed := true, recurses := true, apart := false }
def NormalMachineSaid : Prop := normalMachineRow.holds Tryz.pinned (OpenSpec.ofChange normalMachineSpec)

/-- ITS FALSE NEIGHBOUR: 'it returns false'. Refute it at one input. -/
def normalMachineWrong : ChangeSpec := { name := "normalMachine", fn := fun _ => fun
  | [d1, d2, d3] => { results := [.lit (.bool false)], args := [d1, d2, d3] }
  | _ => none }
def NormalMachineWrongFalsely : Prop := normalMachineRow.holds Tryz.pinned (OpenSpec.ofChange normalMachineWrong)

/-- 'cspchecklaw30.NormalBack': WHATEVER THE INPUT: true; the input reads as it did. -/
def normalBackSpec : ChangeSpec := { name := "normalBack", fn := fun _ => fun
  | [d] => { results := [.lit (.bool true)], args := [d] }
  | _ => none }
def normalBackRow : OpenClaim := { program := "ytbnabodoabimnaagreat", sum := "59b8fa4f424cdcb54aaa934861dff0ba699ec93307a9fee0648bdba12b726ad1", func := "cspcheck/cspchecklaw30.NormalBack", spec := "normalBack", unfollowed := true, recurses := true, apart := false }
def NormalBackSaid : Prop := normalBackRow.holds Tryz.pinned (OpenSpec.ofChange normalBackSpec)

/-- ITS FALSE NEIGHBOUR: 'it returns false'. Refute it at one input. -/
def normalBackWrong : ChangeSpec := { name := "normalBack", fn := fun _ => fun
  | [d] => { results := [.lit (.bool false)], args := [d] }
  | _ => none }
def NormalBackWrongFalsely : Prop := normalBackRow.holds Tryz.pinned (OpenSpec.ofChange normalBackWrong)

/- THE SECOND FORM. 'bulk': how many values and letters a reading holds, each counted each time it is reached (what is shared counts as often as it is met; a slice's spare places count too). A statement '..UptoSaid' is the law's where the arguments, and the package variables that the reading takes, are together of bulk at most 1048576: NARROWER than '..Said'. Prove '..Said' where nothing that the law and all that it calls make is longer than what came in: it says more and counts as full. Else prove '..UptoSaid'. A law counts once. -/
mutual
def uptoBulk {H : Type} : DataW H → Nat
  | .lit (.string bytes) => bytes.length + 1
  | .lit _ => 1
  | .nil => 1
  | .ptr d => uptoBulk d + 1
  | .slice elems spare => uptoBulkAll elems + uptoBulkAll spare + 1
  | .agg parts => uptoBulkAll parts + 1
  | .iface _ d => uptoBulk d + 1
  | .map entries => uptoBulkEntries entries + 1
  | .held _ => 1
def uptoBulkAll {H : Type} : List (DataW H) → Nat
  | [] => 0
  | d :: r => uptoBulk d + uptoBulkAll r
def uptoBulkEntries {H : Type} : List (Lit × DataW H) → Nat
  | [] => 0
  | x :: r => uptoBulkEntry x + uptoBulkEntries r
def uptoBulkEntry {H : Type} : Lit × DataW H → Nat
  | (.string bytes, d) => bytes.length + uptoBulk d + 1
  | (_, d) => uptoBulk d + 1
 end
def uptoSmall : (H : Type) → List (DataW H) → Bool := fun _ ds => decide (uptoBulkAll ds ≤ 1048576)
def OpenSpec.upto (s : _root_.Go.ChangeSpec) : _root_.Go.OpenSpec := { _root_.Go.OpenSpec.ofChange s with cond := some uptoSmall }

/-- 'cspchecklaw30.NormalExamples', WHERE WHAT IT READS IS OF BULK AT MOST 1048576: true; the input reads as it did. -/
def normalExamplesUptoRow : OpenClaim := { program := "ytbnabodoabimnaagreat", sum := "59b8fa4f424cdcb54aaa934861dff0ba699ec93307a9fee0648bdba12b726ad1", func := "cspcheck/cspchecklaw30.NormalExamples", spec := "normalExamples", unfollowed := true, recurses := true, apart := false, narrowed := true }
def NormalExamplesUptoSaid : Prop := normalExamplesUptoRow.holds Tryz.pinned (OpenSpec.upto normalExamplesSpec)

/-- 'cspchecklaw30.NormalValid', WHERE WHAT IT READS IS OF BULK AT MOST 1048576: true; the input reads as it did. -/
def normalValidUptoRow : OpenClaim := { program := "ytbnabodoabimnaagreat", sum := "59b8fa4f424cdcb54aaa934861dff0ba699ec93307a9fee0648bdba12b726ad1", func := "cspcheck/cspchecklaw30.NormalValid", spec := "normalValid", unfollowed := true, recurses := true, apart := false, narrowed := true }
def NormalValidUptoSaid : Prop := normalValidUptoRow.holds Tryz.pinned (OpenSpec.upto normalValidSpec)

/-- 'cspchecklaw30.NormalPre', WHERE WHAT IT READS IS OF BULK AT MOST 1048576: true; the input reads as it did. -/
def normalPreUptoRow : OpenClaim := { program := "ytbnabodoabimnaagreat", sum := "59b8fa4f424cdcb54aaa934861dff0ba699ec93307a9fee0648bdba12b726ad1", func := "cspcheck/cspchecklaw30.NormalPre", spec := "normalPre", unfollowed := true, recurses := true, apart := false, narrowed := true }
def NormalPreUptoSaid : Prop := normalPreUptoRow.holds Tryz.pinned (OpenSpec.upto normalPreSpec)

/-- 'cspchecklaw30.NormalMinimize', WHERE WHAT IT READS IS OF BULK AT MOST 1048576: true; the input reads as it did. -/
def normalMinimizeUptoRow : OpenClaim := { program := "ytbnabodoabimnaagreat", sum := "59b8fa4f424cdcb54aaa934861dff0ba699ec93307a9fee0648bdba12b726ad1", func := "cspcheck/cspchecklaw30.NormalMinimize", spec := "normalMinimize", unfollowed := true, recurses := true, apart := false, narrowed := true }
def NormalMinimizeUptoSaid : Prop := normalMinimizeUptoRow.holds Tryz.pinned (OpenSpec.upto normalMinimizeSpec)

/-- 'cspchecklaw30.NormalNormalize', WHERE WHAT IT READS IS OF BULK AT MOST 1048576: true; the input reads as it did. -/
def normalNormalizeUptoRow : OpenClaim := { program := "ytbnabodoabimnaagreat", sum := "59b8fa4f424cdcb54aaa934861dff0ba699ec93307a9fee0648bdba12b726ad1", func := "cspcheck/cspchecklaw30.NormalNormalize", spec := "normalNormalize", unfollowed := true, recurses := true, apart := false, narrowed := true }
def NormalNormalizeUptoSaid : Prop := normalNormalizeUptoRow.holds Tryz.pinned (OpenSpec.upto normalNormalizeSpec)

/-- 'cspchecklaw30.NormalWalk', WHERE WHAT IT READS IS OF BULK AT MOST 1048576: true; the input reads as it did. -/
def normalWalkUptoRow : OpenClaim := { program := "ytbnabodoabimnaagreat", sum := "59b8fa4f424cdcb54aaa934861dff0ba699ec93307a9fee0648bdba12b726ad1", func := "cspcheck/cspchecklaw30.NormalWalk", spec := "normalWalk", unfollowed := true, recurses := true, apart := false, narrowed := true }
def NormalWalkUptoSaid : Prop := normalWalkUptoRow.holds Tryz.pinned (OpenSpec.upto normalWalkSpec)

/-- 'cspchecklaw30.NormalMachine', WHERE WHAT IT READS IS OF BULK AT MOST 1048576: true; the input reads as it did. -/
def normalMachineUptoRow : OpenClaim := { program := "ytbnabodoabimnaagreat", sum := "59b8fa4f424cdcb54aaa934861dff0ba699ec93307a9fee0648bdba12b726ad1", func := "cspcheck/cspchecklaw30.NormalMachine", spec := "normalMachine", unfollowed := true, recurses := true, apart := false, narrowed := true }
def NormalMachineUptoSaid : Prop := normalMachineUptoRow.holds Tryz.pinned (OpenSpec.upto normalMachineSpec)

/-- 'cspchecklaw30.NormalBack', WHERE WHAT IT READS IS OF BULK AT MOST 1048576: true; the input reads as it did. -/
def normalBackUptoRow : OpenClaim := { program := "ytbnabodoabimnaagreat", sum := "59b8fa4f424cdcb54aaa934861dff0ba699ec93307a9fee0648bdba12b726ad1", func := "cspcheck/cspchecklaw30.NormalBack", spec := "normalBack", unfollowed := true, recurses := true, apart := false, narrowed := true }
def NormalBackUptoSaid : Prop := normalBackUptoRow.holds Tryz.pinned (OpenSpec.upto normalBackSpec)

end Rows
end Go.Proofs.YtbnabodoabimnaaGreat
