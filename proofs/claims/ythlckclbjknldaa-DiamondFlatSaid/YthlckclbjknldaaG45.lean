/- ref23: inStates; Reach. -/
import Derived.Test.YthlckclbjknldaaG42
namespace Go.Proofs.Ythlckclbjknldaa
set_option linter.unusedVariables false
set_option linter.unusedSimpArgs false
open Go.RowKit
set_option maxRecDepth 100000
attribute [local go_sem] List.set_cons_zero List.set_cons_succ List.map_cons List.map_nil List.take_succ_cons List.take_zero List.drop_zero List.drop_succ_cons C.pl C.one List.all_cons List.all_nil Bool.and_true Nat.mul_one Int.toNat_natCast

/-- the arcs that the reference follows -/
def tauF (t : Bool) (r : List Ar) : List Ar := r.filter fun a => !t || a.1 == 0
def AdjF (t : Bool) (R : List (List Ar)) (v : Nat) : List Nat := (tauF t (R.getD v [])).map fun a => a.2.toNat
def seenB (B : List Bool) (u : Nat) : Bool := B.getD u false
/-- the reference's search -/
structure Rs (E : Nat → List Nat) (n : Nat) (F : List Nat) (B : List Bool) (Q : List Nat) : Prop where
 len : B.length = n
 snd : ∀ u, seenB B u = true → ∃ v ∈ F, Rc E v u
 q : ∀ u ∈ Q, u < n ∧ ∃ v ∈ F, Rc E v u
 cl : ∀ u, seenB B u = true → ∀ w ∈ E u, seenB B w = true ∨ w ∈ Q
 st : ∀ v ∈ F, seenB B v = true ∨ v ∈ Q
theorem seen_set {B : List Bool} {u : Nat} (h : u < B.length) (w : Nat) : seenB (B.set u true) w = if w = u then true else seenB B w := by
 unfold seenB
 simp only [List.getD_eq_getElem?_getD]
 by_cases e : w = u
 ·subst e; rw [if_pos rfl, List.getElem?_set_self h]; rfl
 ·rw [if_neg e, List.getElem?_set_ne (fun h => e h.symm)]
variable {E : Nat → List Nat} {n u : Nat} {F : List Nat} {B : List Bool} {Q : List Nat}
theorem Rs.start (hF : ∀ v ∈ F, v < n) : Rs E n F (List.replicate n false) F := by
 have e : ∀ u, seenB (List.replicate n false) u = false := fun u => by
  unfold seenB; rw [List.getD_eq_getElem?_getD, List.getElem?_replicate]; split <;> rfl
 exact ⟨by simp, fun u h => (by rw [e] at h; cases h), fun u h => ⟨hF u h, u, h, .refl _⟩, fun u h => (by rw [e] at h; cases h), fun v h => .inr h⟩
theorem Rs.old (h : Rs E n F B (Q ++ [u])) (hs : seenB B u = true) : Rs E n F B Q := by
 refine ⟨h.len, h.snd, fun w hw => h.q w (List.mem_append_left _ hw), fun w hw x hx => ?_, fun v hv => ?_⟩
 ·rcases h.cl w hw x hx with h1 | h1
  ·exact .inl h1
  ·rcases List.mem_append.1 h1 with h1 | h1
   ·exact .inr h1
   ·simp at h1; subst h1; exact .inl hs
 ·rcases h.st v hv with h1 | h1
  ·exact .inl h1
  ·rcases List.mem_append.1 h1 with h1 | h1
   ·exact .inr h1
   ·simp at h1; subst h1; exact .inl hs
theorem Rs.new (h : Rs E n F B (Q ++ [u])) (hE : ∀ w ∈ E u, w < n) : Rs E n F (B.set u true) (Q ++ E u) := by
 have hu := h.q u (by simp)
 have hs := seen_set (B := B) (u := u) (by rw [h.len]; exact hu.1)
 refine ⟨by rw [List.length_set]; exact h.len, fun w hw => ?_, fun w hw => ?_, fun w hw x hx => ?_, fun v hv => ?_⟩
 ·rw [hs] at hw
  split at hw
  ·rename_i e; rw [e]; exact hu.2
  ·exact h.snd w hw
 ·rcases List.mem_append.1 hw with h1 | h1
  ·exact h.q w (List.mem_append_left _ h1)
  ·obtain ⟨v, q1, q2⟩ := hu.2
   exact ⟨hE w h1, v, q1, q2.tail h1⟩
 ·rw [hs] at hw ⊢
  by_cases e2 : x = u
  ·left; rw [if_pos e2]
  rw [if_neg e2]
  split at hw
  ·rename_i e; subst e; exact .inr (List.mem_append_right _ hx)
  ·rcases h.cl w hw x hx with h1 | h1
   ·exact .inl h1
   ·rcases List.mem_append.1 h1 with h1 | h1
    ·exact .inr (List.mem_append_left _ h1)
    ·simp at h1; exact absurd h1 e2
 ·rw [hs]
  by_cases e2 : v = u
  ·left; rw [if_pos e2]
  rw [if_neg e2]
  rcases h.st v hv with h1 | h1
  ·exact .inl h1
  ·rcases List.mem_append.1 h1 with h1 | h1
   ·exact .inr (List.mem_append_left _ h1)
   ·simp at h1; exact absurd h1 e2
theorem Rs.done (h : Rs E n F B []) (u : Nat) : seenB B u = true ↔ ∃ v ∈ F, Rc E v u := by
 refine ⟨h.snd u, fun ⟨v, hv, hr⟩ => ?_⟩
 induction hr with
 | refl => exact (h.st v hv).resolve_right (by simp)
 | tail _ he ih => exact (h.cl _ (ih ⟨v, hv, ‹_›⟩) _ he).resolve_right (by simp)
end Go.Proofs.Ythlckclbjknldaa
