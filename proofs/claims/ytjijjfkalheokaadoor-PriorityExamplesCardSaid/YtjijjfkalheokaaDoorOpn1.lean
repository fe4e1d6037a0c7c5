/- Lemmas. -/
import Derived.Test.YtjijjfkalheokaaDoorBase
import Derived.Deep.Slices
import Derived.ProofKit
import Derived.Test.YtjijjfkalheokaaDoorMA
import Derived.Test.YtjijjfkalheokaaDoorRows
import Derived.Lib.LaidTab
import Derived.LaidMore
namespace Go.Proofs.YtjijjfkalheokaaDoor
set_option linter.unusedVariables false
set_option linter.unusedSimpArgs false
open Go.RowKit Go.Deep Go.ChangeShapes

theorem QK {w : World} {a : Addr} {v : Value} (h : w.cell? a = some v) : a.spot = none /\ a.block < w.heap.size := by
 constructor
 rotate_left
 ·rcases Nat.lt_or_ge a.block w.heap.size with hl | hl
  ·exact hl
  simp [World.cell?, Array.getElem?_eq_none hl] at h
 unfold World.cell? at h
 split at h
 rotate_left
 ·cases h
 split at h
 ·cases h
 rename_i hs; cases hsp : a.spot with
 | none => rfl
 | some x => simp [hsp] at hs
variable {H : Type} {enc : TypeId × Value -> H}
end Go.Proofs.YtjijjfkalheokaaDoor
namespace Go.Proofs.YtjijjfkalheokaaDoor
set_option linter.unusedVariables false
set_option linter.unusedSimpArgs false
open Go.ChangeShapes Go.WideShapes Go.ChangeAt Go.RowKit

def OA : List Int := Lib.deBruijn64tab.map fun (k : Nat) => (k : Int)
def MO : List (String × DataW Unit) := [("math/bits.deBruijn64tab", Lib.tabData .u8 OA)]
theorem SW : Tryd.prog.globalNamed "math/bits.deBruijn64tab" = some 0 := by kernel_rfl
theorem IA {W : World} (h : laidMetH Tryd.prog MO W) : GlR (fun _ => False) W := by
 rw [MakeChecks.laidMetH_plain _ _ _ (by kernel_rfl)] at h
 have hT := Lib.tabIs_of_head (n := 64) (k := .u8) SW (by kernel_rfl) Tryd.underlying158 Tryd.underlying5 (by kernel_rfl) (by kernel_rfl) h
 intro n vs hn
 unfold P8 at hn
 rw [List.lookup_cons] at hn
 split at hn
 rotate_left
 ·cases hn
 rename_i e
 have e2 : n = 0 := by simpa using e
 subst e2
 cases hn
 have hl : (Lib.deBruijn64tab).length = 64 := by decide
 have hc : ∀ j, j < 64 -> W.cell? ⟨0, j, none⟩ = some (.int .u8 (OA.getD j 0)) := fun j hj => hT.cell SW j (by simp [OA, hl, hj])
 refine ⟨fun h => h, (QK (hc 0 (by omega))).2, fun j v hj => ?_⟩
 rw [List.getElem?_map, Option.map_eq_some_iff] at hj
 obtain ⟨k, hk, rfl⟩ := hj
 have hj2 : j < 64 := by have := (List.getElem?_eq_some_iff.1 hk).1; omega
 refine ⟨rfl, ?_⟩
 rw [hc j hj2]
 simp [OA, gE2, hk]
end Go.Proofs.YtjijjfkalheokaaDoor
