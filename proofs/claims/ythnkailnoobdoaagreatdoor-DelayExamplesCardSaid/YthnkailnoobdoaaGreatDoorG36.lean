/- Lemmas. -/
import Derived.Test.YthnkailnoobdoaaGreatDoorMnt
import Derived.Test.YthnkailnoobdoaaGreatDoorMF
import Derived.Test.YthnkailnoobdoaaGreatDoorG49
import Derived.Test.YthnkailnoobdoaaGreatDoorTl3
namespace Go.Proofs.YthnkailnoobdoaaGreatDoor
set_option linter.unusedVariables false
set_option linter.unusedSimpArgs false
open Go.RowKit
set_option maxRecDepth 100000
attribute [local go_sem] List.set_cons_zero List.set_cons_succ List.map_cons List.map_nil List.take_succ_cons List.take_zero List.drop_zero List.drop_succ_cons C.pl C.one List.all_cons List.all_nil Bool.and_true

attribute [local go_sem] lga C.pl C.one
theorem IQ (l : List Int) (c : Int) : ∀ m : Int, JI (l ++ [c]) m = (JI l m && (!decide (c < 0) && !decide (c > Y5 m l))) := by
 induction l with
 | nil => intro m; simp [JI, Y5]
 | cons a r ih =>
  intro m
  have e : Y5 m (a :: r) = Y5 (Y4 m a) r := rfl
  simp only [List.cons_append, JI, ih, e, Bool.and_assoc]
theorem Ui {α : Type} [DecidableEq α] (f : Nat -> α) (k : Nat) : JI (Ww f k).1 0 = true /\ Y5 0 (Ww f k).1 = ((Ww f k).2 : Int) := by
 induction k with
 | zero => exact ⟨rfl, rfl⟩
 | succ k ih =>
  have hr := (Ca f k).rng
  rcases EC f k with ⟨t, h1, h2, h3, h4⟩ | ⟨h3, h4⟩
  rotate_left
  ·rw [h4]
   generalize Ww f k = p at *
   simp only [IQ, HP, ih.1, ih.2, Bool.true_and, Bool.and_eq_true, Bool.not_eq_true', decide_eq_false_iff_not]
   refine ⟨by omega, ?_⟩
   unfold Y4
   rw [if_pos (by omega)]
   omega
  rw [h4]
  have := hr t h1
  generalize Ww f k = p at *
  simp only [IQ, HP, ih.1, ih.2, Bool.true_and, Bool.and_eq_true, Bool.not_eq_true', decide_eq_false_iff_not]
  refine ⟨by omega, ?_⟩
  unfold Y4
  rw [if_neg (by omega)]
theorem Nrm.num {n : Nat} {c : List Int} (h : Nrm n c) : M7 c n = true := by
 have h1 := (Ui (fun s => c.getD s 0) n).1
 have hl := h.len
 unfold Nrm at h
 rw [h] at h1
 simp [M7, h1, hl]
theorem LY {R : List (List Ar)} (h : BK R = true) : AN (CH R).1 <= AN R := by
 have hp : Us R := gE4 h
 have h1 := hp.1
 have hq := Oc (B := AN R) hp.2.2.2 R.length 0 _ _ [] R (NumOk.start h1) (NumInj.start h1) (NumSur.start h1) rfl (by simp) (by omega) ⟨by simp, by simp⟩ rfl (fun _ _ _ => rfl) (by simp [AN])
 exact hq.2.2.2
end Go.Proofs.YthnkailnoobdoaaGreatDoor
