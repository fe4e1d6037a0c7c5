/- Lemmas. -/
import Derived.Test.YthnkailnoobdoaaGreatDoorMF
import Derived.Test.YthnkailnoobdoaaGreatDoorG45
import Derived.Test.YthnkailnoobdoaaGreatDoorMG
import Derived.Test.YthnkailnoobdoaaGreatDoorZk
import Derived.Test.YthnkailnoobdoaaGreatDoorG70
import Derived.Test.YthnkailnoobdoaaGreatDoorMnt
import Derived.Test.YthnkailnoobdoaaGreatDoorG67
import Derived.Test.YthnkailnoobdoaaGreatDoorMK
import Derived.Test.YthnkailnoobdoaaGreatDoorTl3
namespace Go.Proofs.YthnkailnoobdoaaGreatDoor
set_option linter.unusedVariables false
set_option linter.unusedSimpArgs false
open Go.RowKit
set_option maxRecDepth 100000
attribute [local go_sem] lga C.pl C.one

end Go.Proofs.YthnkailnoobdoaaGreatDoor
namespace Go.Proofs.YthnkailnoobdoaaGreatDoor
set_option linter.unusedVariables false
set_option linter.unusedSimpArgs false
open Go.RowKit
set_option maxRecDepth 100000

end Go.Proofs.YthnkailnoobdoaaGreatDoor
namespace Go.Proofs.YthnkailnoobdoaaGreatDoor
set_option linter.unusedVariables false
set_option linter.unusedSimpArgs false
open Go.RowKit
set_option maxRecDepth 100000

theorem DX (xs ys : List Int) (hn : xs.length <= 140737488355328) (hm : ys.length <= 140737488355328) : FC Tryz.prog 11 [Aq xs, Aq ys] [] (fun r o => o = [] /\ r = .b (decide (xs = ys))) := by
 refine A9 Tryz.func11 rfl (by rw [Tryz.ntmps11]; simp) ?_
 rw [Tryz.ntmps11]
 simp only [Bz, Aq]
 (refine Wf @Yi ?_;(repeat clear hK K);repeat refine kq fun K hK=>?_)
 (refine AA ?_; intro X Y hX hY; simp only [go_sem])
 refine ⟨fun h => hX ?_, fun h => hY ?_⟩
 ·clear hX hY X Y
  (refine We ?_;(repeat clear hK K);repeat refine kq fun K hK=>?_)
  refine Wr Tryz.results11 ?_
  have : xs ≠ ys := by rintro rfl; simp at h
  simp [this]
 clear hX hY X Y
 have hlen : xs.length = ys.length := by simp at h; omega
 clear h
 (refine We ?_;(repeat clear hK K);repeat refine kq fun K hK=>?_)
 refine A6 (fun k : Nat => { tm := [(0, .a (.c (.t 1 (Aa xs)))), (1, .a (.c (.t 1 (Aa ys)))), (5, .i k)], hp := [], n := 26, pin := 0 }) (fun k => k <= xs.length /\ xs.take k = ys.take k) (fun k => xs.length - k) 0 ?_ ?_ ?_
 ·exact ⟨by omega, rfl⟩
 ·exact Wo
 rintro k ⟨hk, he⟩ K hK
 (refine Wf @Yi ?_;(repeat clear hK K);repeat refine kq fun K hK=>?_)
 (refine AA ?_; intro X Y hX hY; simp only [go_sem])
 refine ⟨fun h => hX ?_, fun h => hY ?_⟩
 rotate_left
 ·have hge : k = xs.length := by simp at h; omega
  clear hX hY X Y
  (refine Wi ?_;repeat clear hK K)
  (refine We ?_;(repeat clear hK K);repeat refine kq fun K hK=>?_)
  refine Wr Tryz.results11 ?_
  have : xs = ys := by
   rw [hge, List.take_length, hlen, List.take_length] at he
   exact he
  simp [this]
 have hlt : k < xs.length := by simpa using h
 have hlt2 : k < ys.length := by omega
 clear hX hY X Y h
 (refine We ?_;(repeat clear hK K);repeat refine kq fun K hK=>?_)
 (refine Ao 8 [(0, 0), (1, 0), (2, 0), (3, 1), (4, 0), (5, 0), (6, 0), (7, 1), (8, 2)] (by kernel_rfl) (by kernel_rfl) (by intro c st h; simp [Ae, AJ, VD] at h) ?_)
 (refine Wb (an @Yi (an (Aj (gE1 hlt)) (Aj (gE1 hlt2)))) ?_; repeat clear hK K)
 (refine AA ?_; intro X Y hX hY; simp only [go_sem])
 refine ⟨fun h => hX ?_, fun h => hY ?_⟩
 ·clear hX hY X Y
  (refine We ?_;(repeat clear hK K);repeat refine kq fun K hK=>?_)
  refine Wr Tryz.results11 ?_
  have : xs ≠ ys := by rintro rfl; simp at h
  simp [this]
 clear hX hY X Y
 (refine We ?_;(repeat clear hK K);repeat refine kq fun K hK=>?_)
 refine Wn ?_
 refine hK _ (k + 1) ⟨by omega, ?_⟩ (by omega) ?_
 rotate_left
 ·exact Wo
 have h1 : xs[k] = ys[k] := by simpa using h
 rw [gE8 hlt, gE8 hlt2, he, h1]
end Go.Proofs.YthnkailnoobdoaaGreatDoor
namespace Go.Proofs.YthnkailnoobdoaaGreatDoor
set_option linter.unusedVariables false
set_option linter.unusedSimpArgs false
open Go.RowKit
set_option maxRecDepth 100000

end Go.Proofs.YthnkailnoobdoaaGreatDoor
namespace Go.Proofs.YthnkailnoobdoaaGreatDoor
set_option linter.unusedVariables false
set_option linter.unusedSimpArgs false
open Go.RowKit
set_option maxRecDepth 100000
attribute [local go_sem] lga C.pl C.one

def WkC (R : List (List Ar)) (c : List Int) : Prop := ∃ B, DvL R B /\ FxS (BI R) (X7 B R.length) c
def MtW {α : Type} (A : List (List Ar)) (kA : Nat -> α) (B : List (List Ar)) (kB : Nat -> α) : Prop :=
 ∀ s t, s < A.length -> t < B.length -> kA s = kB t -> (Dv A s -> Dv B t) /\ ∀ a ∈ (BI A).getD s [], ∃ b ∈ (BI B).getD t [], b.1 = a.1 /\ kB b.2.toNat = kA a.2.toNat
theorem Z3 {R : List (List Ar)} (hv : BL R = true) (hn : R.length <= 100) {s : Nat} (hs : s < R.length) {a : Ar} (h : a ∈ (BI R).getD s []) : 0 <= a.2 /\ a.2.toNat < R.length := by
 have hb := Gt hv hn
 have hm : (BI R).getD s [] ∈ BI R := by
  rw [gE2, gE1 (by omega), Option.getD_some]
  exact gE6 _
 have := (hb.2 _ hm).2 a h
 omega
theorem YL {α : Type} {R : List (List Ar)} {k : Nat -> α} (hv : BL R = true) (hn : R.length <= 100) (hk : MtW R k R k) {c : List Int} (ih : ∀ s t, s < R.length -> t < R.length -> k s = k t -> c.getD s 0 = c.getD t 0) {s t : Nat} (hs : s < R.length) (ht : t < R.length) (h : k s = k t) : Ir c ((BI R).getD s []) ((BI R).getD t []) = true := by
 unfold Ir
 refine List.all_eq_true.2 fun a ha => ?_
 obtain ⟨b, hb, e1, e2⟩ := (hk s t hs ht h).2 a ha
 unfold LE
 refine List.any_eq_true.2 ⟨b, hb, ?_⟩
 rw [e1, ih _ _ (Z3 hv hn ht hb).2 (Z3 hv hn hs ha).2 e2]
 simp
theorem MtW.le {α : Type} {R : List (List Ar)} {k : Nat -> α} (hv : BL R = true) (hn : R.length <= 100) (hk : MtW R k R k) {c : List Int} (hc : WkC R c) {s t : Nat} (hs : s < R.length) (ht : t < R.length) (h : k s = k t) : c.getD s 0 = c.getD t 0 := by
 obtain ⟨B, hB, i, hi, -⟩ := hc
 have hb := Gt hv hn
 subst hi
 induction i generalizing s t with
 | zero =>
  show (X7 B R.length).getD s 0 = (X7 B R.length).getD t 0
  rw [Gn hs, Gn ht]
  have e : B.getD s false = B.getD t false := by
   rw [Bool.eq_iff_iff, hB.2 s hs, hB.2 t ht]
   exact ⟨(hk s t hs ht h).1, (hk t s ht hs h.symm).1⟩
  unfold X6
  rw [e]
 | succ i ih =>
  have ih2 := fun s t hs ht h => ih (s := s) (t := t) hs ht h
  have e := (Ca (Wy (BI R) (WB (BI R) (X7 B R.length) i)) (BI R).length).eq s t (by omega) (by omega)
  refine e.2 ?_
  unfold Wy
  rw [ih hs ht h, MN.2 ⟨YL hv hn hk ih2 hs ht h, YL hv hn hk ih2 ht hs h.symm⟩]
theorem WkC.key {R : List (List Ar)} (hv : BL R = true) (hn : R.length <= 100) {c : List Int} (hc : WkC R c) : MtW R (fun s => c.getD s 0) R (fun s => c.getD s 0) := by
 obtain ⟨B, hB, i, hi, hf⟩ := hc
 have hb := Gt hv hn
 intro s t hs ht h
 simp only at h ⊢
 have e := (Ca (Wy (BI R) c) (BI R).length).eq s t (by omega) (by omega)
 have e0 : (Ww (Wy (BI R) c) (BI R).length).1 = c := hf
 rw [e0] at e
 have e2 := congrArg Prod.snd (e.1 h)
 obtain ⟨c1, -⟩ := MN.1 e2
 refine ⟨fun hd => ?_, fun a ha => ?_⟩
 rotate_left
 ·obtain ⟨b, hb2, hq⟩ := List.any_eq_true.1 (List.all_eq_true.1 c1 a ha)
  simp only [Bool.and_eq_true, beq_iff_eq] at hq
  exact ⟨b, hb2, hq.1, hq.2⟩
 have hdv : ∀ j, (WB (BI R) (X7 B R.length) j).getD s 0 = (WB (BI R) (X7 B R.length) j).getD t 0 -> (X7 B R.length).getD s 0 = (X7 B R.length).getD t 0 := by
  intro j
  induction j with
  | zero => exact id
  | succ j ih => intro q; exact ih (congrArg Prod.fst (((Ca (Wy (BI R) (WB (BI R) (X7 B R.length) j)) (BI R).length).eq s t (by omega) (by omega)).1 q))
 have q := hdv i (by rw [<- hi]; exact h)
 rw [Gn hs, Gn ht] at q
 refine (hB.2 t ht).1 ?_
 have h2 := (hB.2 s hs).2 hd
 unfold X6 at q
 rw [h2] at q
 generalize B.getD 0 false = x0 at q
 generalize B.getD t false = x1 at q ⊢
 revert q
 cases x0 <;> cases x1 <;> decide
/-! Side by side. -/
section
variable {R X : List (List Ar)} {f kX : Nat -> Nat}
end
end Go.Proofs.YthnkailnoobdoaaGreatDoor
