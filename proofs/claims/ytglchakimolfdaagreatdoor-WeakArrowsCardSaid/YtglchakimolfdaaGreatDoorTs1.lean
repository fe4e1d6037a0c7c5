/- Plain laws of sets of numbers as ascending lists: minimal sets, minimal transversals. -/
import Derived.Test.YtglchakimolfdaaGreatDoorBase
namespace Go.Proofs.YtglchakimolfdaaGreatDoor
set_option linter.unusedVariables false
set_option linter.unusedSimpArgs false

/-! ascending lists -/
def Asc (l : List Int) : Prop := l.Pairwise (· < ·)
def addI (x : Int) : List Int → List Int
 | [] => [x]
 | y :: ys => if y < x then y :: addI x ys else if y = x then y :: ys else x :: y :: ys
theorem mem_addI (x a : Int) (l : List Int) : a ∈ addI x l ↔ a = x ∨ a ∈ l := by
 induction l with
 | nil => simp [addI]
 | cons y ys ih =>
  simp only [addI]
  split
  ·simp [ih]; constructor <;> (intro h; rcases h with h | h | h <;> simp [h])
  ·split
   ·rename_i h; subst h; simp
   ·simp
theorem addI_asc {x : Int} {l : List Int} (h : Asc l) : Asc (addI x l) := by
 unfold Asc at *
 induction l with
 | nil => simp [addI]
 | cons y ys ih =>
  rw [List.pairwise_cons] at h
  simp only [addI]
  split
  ·rename_i hl
   rw [List.pairwise_cons]
   refine ⟨fun a ha => ?_, ih h.2⟩
   rcases (mem_addI x a ys).1 ha with rfl | ha
   ·exact hl
   ·exact h.1 a ha
  ·split
   ·exact List.pairwise_cons.2 h
   ·rename_i hl hne
    rw [List.pairwise_cons]
    refine ⟨fun a ha => ?_, List.pairwise_cons.2 h⟩
    rcases List.mem_cons.1 ha with rfl | ha
    ·omega
    ·have := h.1 a ha; omega

/-! lists in lexicographic order -/
def lessI : List Int → List Int → Bool
 | [], [] => false
 | [], _ :: _ => true
 | _ :: _, [] => false
 | a :: as, b :: bs => if a = b then lessI as bs else decide (a < b)
def SortS (L : List (List Int)) : Prop := L.Pairwise fun a b => lessI a b = true
/-! minimal sets -/
/-! transversals -/
def Hit (t : List Int) (L : List (List Int)) : Prop := ∀ s ∈ L, ∃ x ∈ s, x ∈ t
structure Tv (out L : List (List Int)) : Prop where
 asc : ∀ t ∈ out, Asc t
 sort : SortS out
 hit : ∀ t ∈ out, Hit t L
 low : ∀ u, Hit u L → ∃ t ∈ out, ∀ x ∈ t, x ∈ u
 anti : ∀ t ∈ out, ∀ q ∈ out, (∀ x ∈ t, x ∈ q) → t = q
theorem Tv.start : Tv [[]] [] where
 asc t ht := by simp at ht; subst ht; exact List.Pairwise.nil
 sort := by simp [SortS]
 hit t _ := fun s hs => by cases hs
 low u _ := ⟨[], by simp, fun x hx => by cases hx⟩
 anti t ht q hq _ := by simp at ht hq; rw [ht, hq]
/-! few sets over few numbers -/
end Go.Proofs.YtglchakimolfdaaGreatDoor
