/- Plain laws of sets of numbers as ascending lists: minimal sets, minimal transversals. -/
import Derived.Test.YtglchakimolfdaaDoorBase
namespace Go.Proofs.YtglchakimolfdaaDoor
set_option linter.unusedVariables false
set_option linter.unusedSimpArgs false

/-! ascending lists -/
def Asc (l : List Int) : Prop := l.Pairwise (· < ·)
/-! lists in lexicographic order -/
def lessI : List Int → List Int → Bool
 | [], [] => false
 | [], _ :: _ => true
 | _ :: _, [] => false
 | a :: as, b :: bs => if a = b then lessI as bs else decide (a < b)
def SortS (L : List (List Int)) : Prop := L.Pairwise fun a b => lessI a b = true
/-! minimal sets -/
/-! transversals -/
def Hit (t : List Int) (L : List (List Int)) : Prop := ∀ s ∈ L, ∃ x ∈ s, x ∈ t
structure Tv (out L : List (List Int)) : Prop where
 asc : ∀ t ∈ out, Asc t
 sort : SortS out
 hit : ∀ t ∈ out, Hit t L
 low : ∀ u, Hit u L → ∃ t ∈ out, ∀ x ∈ t, x ∈ u
 anti : ∀ t ∈ out, ∀ q ∈ out, (∀ x ∈ t, x ∈ q) → t = q
theorem Tv.start : Tv [[]] [] where
 asc t ht := by simp at ht; subst ht; exact List.Pairwise.nil
 sort := by simp [SortS]
 hit t _ := fun s hs => by cases hs
 low u _ := ⟨[], by simp, fun x hx => by cases hx⟩
 anti t ht q hq _ := by simp at ht hq; rw [ht, hq]
/-! few sets over few numbers -/
end Go.Proofs.YtglchakimolfdaaDoor
