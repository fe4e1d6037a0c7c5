/- What the arguments' readings say, in our words: lists of numbers, of pairs, systems. -/
import Derived.Test.YthlckclbjknldaaGreatBase
import Derived.Deep.Slices
import Derived.ProofKit
namespace Go.Proofs.YthlckclbjknldaaGreat
set_option linter.unusedVariables false
set_option linter.unusedSimpArgs false
open Go.RowKit Go.Deep Go.ChangeShapes

theorem cell_lt {w : World} {a : Addr} {v : Value} (h : w.cell? a = some v) : a.spot = none ∧ a.block < w.heap.size := by
  constructor
  · unfold World.cell? at h
    split at h
    · split at h
      · cases h
      · rename_i hs; cases hsp : a.spot with
        | none => rfl
        | some x => simp [hsp] at hs
    · cases h
  · rcases Nat.lt_or_ge a.block w.heap.size with hl | hl
    · exact hl
    · simp [World.cell?, Array.getElem?_eq_none hl] at h
variable {H : Type} {enc : TypeId × Value → H}
end Go.Proofs.YthlckclbjknldaaGreat
