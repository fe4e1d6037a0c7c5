/- Lemmas. -/
import Derived.Test.YthnkailnoobdoaaDoorMF
import Derived.Test.YthnkailnoobdoaaDoorG45
import Derived.Test.YthnkailnoobdoaaDoorMG
import Derived.Test.YthnkailnoobdoaaDoorZk
import Derived.Test.YthnkailnoobdoaaDoorG70
import Derived.Test.YthnkailnoobdoaaDoorG12
import Derived.Test.YthnkailnoobdoaaDoorG67
import Derived.Test.YthnkailnoobdoaaDoorMK
import Derived.Test.YthnkailnoobdoaaDoorTl3
import Derived.Test.YthnkailnoobdoaaDoorG53
namespace Go.Proofs.YthnkailnoobdoaaDoor
set_option linter.unusedVariables false
set_option linter.unusedSimpArgs false
open Go.RowKit
set_option maxRecDepth 100000
attribute [local go_sem] lga C.pl C.one

end Go.Proofs.YthnkailnoobdoaaDoor
namespace Go.Proofs.YthnkailnoobdoaaDoor
set_option linter.unusedVariables false
set_option linter.unusedSimpArgs false
open Go.RowKit
set_option maxRecDepth 100000

end Go.Proofs.YthnkailnoobdoaaDoor
namespace Go.Proofs.YthnkailnoobdoaaDoor
set_option linter.unusedVariables false
set_option linter.unusedSimpArgs false
open Go.RowKit
set_option maxRecDepth 100000

theorem P8 (xs ys : List Int) (hn : xs.length <= 140737488355328) (hm : ys.length <= 140737488355328) : FC Tryd.prog 23 [AC xs, AC ys] [] (fun r o => o = [] /\ r = .b (decide (xs = ys))) := by
 refine Af Tryd.func23 rfl (by rw [Tryd.ntmps23]; simp) ?_
 rw [Tryd.ntmps23]
 simp only [C2, AC]
 (refine UX @A2 ?_;(repeat clear hK K);repeat refine kq fun K hK=>?_)
 (refine As ?_; intro X Y hX hY; simp only [go_sem])
 refine ⟨fun h => hX ?_, fun h => hY ?_⟩
 ·clear hX hY X Y
  (refine UW ?_;(repeat clear hK K);repeat refine kq fun K hK=>?_)
  refine Va Tryd.results23 ?_
  have : xs ≠ ys := by rintro rfl; simp at h
  simp [this]
 clear hX hY X Y
 have hlen : xs.length = ys.length := by simp at h; omega
 clear h
 (refine UW ?_;(repeat clear hK K);repeat refine kq fun K hK=>?_)
 refine Ab (fun k : Nat => { tm := [(0, .a (.c (.t 1 (Ad xs)))), (1, .a (.c (.t 1 (Ad ys)))), (5, .i k)], hp := [], n := 26, pin := 0 }) (fun k => k <= xs.length /\ xs.take k = ys.take k) (fun k => xs.length - k) 0 ?_ ?_ ?_
 ·exact ⟨by omega, rfl⟩
 ·exact V7
 rintro k ⟨hk, he⟩ K hK
 (refine UX @A2 ?_;(repeat clear hK K);repeat refine kq fun K hK=>?_)
 (refine As ?_; intro X Y hX hY; simp only [go_sem])
 refine ⟨fun h => hX ?_, fun h => hY ?_⟩
 rotate_left
 ·have hge : k = xs.length := by simp at h; omega
  clear hX hY X Y
  (refine V0 ?_;repeat clear hK K)
  (refine UW ?_;(repeat clear hK K);repeat refine kq fun K hK=>?_)
  refine Va Tryd.results23 ?_
  have : xs = ys := by
   rw [hge, List.take_length, hlen, List.take_length] at he
   exact he
  simp [this]
 have hlt : k < xs.length := by simpa using h
 have hlt2 : k < ys.length := by omega
 clear hX hY X Y h
 (refine UW ?_;(repeat clear hK K);repeat refine kq fun K hK=>?_)
 (refine Ap 8 [(0, 0), (1, 0), (2, 0), (3, 1), (4, 0), (5, 0), (6, 0), (7, 1), (8, 2)] (by kernel_rfl) (by kernel_rfl) (by intro c st h; simp [Ag, B6, Un] at h) ?_)
 (refine UU (an @A2 (an (Ai (gE1 hlt)) (Ai (gE1 hlt2)))) ?_; repeat clear hK K)
 (refine As ?_; intro X Y hX hY; simp only [go_sem])
 refine ⟨fun h => hX ?_, fun h => hY ?_⟩
 ·clear hX hY X Y
  (refine UW ?_;(repeat clear hK K);repeat refine kq fun K hK=>?_)
  refine Va Tryd.results23 ?_
  have : xs ≠ ys := by rintro rfl; simp at h
  simp [this]
 clear hX hY X Y
 (refine UW ?_;(repeat clear hK K);repeat refine kq fun K hK=>?_)
 refine V6 ?_
 refine hK _ (k + 1) ⟨by omega, ?_⟩ (by omega) ?_
 rotate_left
 ·exact V7
 have h1 : xs[k] = ys[k] := by simpa using h
 rw [gE8 hlt, gE8 hlt2, he, h1]
end Go.Proofs.YthnkailnoobdoaaDoor
namespace Go.Proofs.YthnkailnoobdoaaDoor
set_option linter.unusedVariables false
set_option linter.unusedSimpArgs false
open Go.RowKit
set_option maxRecDepth 100000

end Go.Proofs.YthnkailnoobdoaaDoor
namespace Go.Proofs.YthnkailnoobdoaaDoor
set_option linter.unusedVariables false
set_option linter.unusedSimpArgs false
open Go.RowKit
set_option maxRecDepth 100000
attribute [local go_sem] lga C.pl C.one

def WkC (R : List (List Ar)) (c : List Int) : Prop := ∃ B, DvL R B /\ FxS (B1 R) (VP B R.length) c
def MtW {α : Type} (A : List (List Ar)) (kA : Nat -> α) (B : List (List Ar)) (kB : Nat -> α) : Prop :=
 ∀ s t, s < A.length -> t < B.length -> kA s = kB t -> (Dv A s -> Dv B t) /\ ∀ a ∈ (B1 A).getD s [], ∃ b ∈ (B1 B).getD t [], b.1 = a.1 /\ kB b.2.toNat = kA a.2.toNat
theorem GH {R : List (List Ar)} (hv : AR R = true) (hn : R.length <= 100) {s : Nat} (hs : s < R.length) {a : Ar} (h : a ∈ (B1 R).getD s []) : 0 <= a.2 /\ a.2.toNat < R.length := by
 have hb := DX hv hn
 have hm : (B1 R).getD s [] ∈ B1 R := by
  rw [gE2, gE1 (by omega), Option.getD_some]
  exact gE6 _
 have := (hb.2 _ hm).2 a h
 omega
theorem N4 {α : Type} {R : List (List Ar)} {k : Nat -> α} (hv : AR R = true) (hn : R.length <= 100) (hk : MtW R k R k) {c : List Int} (ih : ∀ s t, s < R.length -> t < R.length -> k s = k t -> c.getD s 0 = c.getD t 0) {s t : Nat} (hs : s < R.length) (ht : t < R.length) (h : k s = k t) : Py c ((B1 R).getD s []) ((B1 R).getD t []) = true := by
 unfold Py
 refine List.all_eq_true.2 fun a ha => ?_
 obtain ⟨b, hb, e1, e2⟩ := (hk s t hs ht h).2 a ha
 unfold T3
 refine List.any_eq_true.2 ⟨b, hb, ?_⟩
 rw [e1, ih _ _ (GH hv hn ht hb).2 (GH hv hn hs ha).2 e2]
 simp
theorem MtW.le {α : Type} {R : List (List Ar)} {k : Nat -> α} (hv : AR R = true) (hn : R.length <= 100) (hk : MtW R k R k) {c : List Int} (hc : WkC R c) {s t : Nat} (hs : s < R.length) (ht : t < R.length) (h : k s = k t) : c.getD s 0 = c.getD t 0 := by
 obtain ⟨B, hB, i, hi, -⟩ := hc
 have hb := DX hv hn
 subst hi
 induction i generalizing s t with
 | zero =>
  show (VP B R.length).getD s 0 = (VP B R.length).getD t 0
  rw [Cp hs, Cp ht]
  have e : B.getD s false = B.getD t false := by
   rw [Bool.eq_iff_iff, hB.2 s hs, hB.2 t ht]
   exact ⟨(hk s t hs ht h).1, (hk t s ht hs h.symm).1⟩
  unfold VO
  rw [e]
 | succ i ih =>
  have ih2 := fun s t hs ht h => ih (s := s) (t := t) hs ht h
  have e := (BX (Vh (B1 R) (Vj (B1 R) (VP B R.length) i)) (B1 R).length).eq s t (by omega) (by omega)
  refine e.2 ?_
  unfold Vh
  rw [ih hs ht h, H2.2 ⟨N4 hv hn hk ih2 hs ht h, N4 hv hn hk ih2 ht hs h.symm⟩]
theorem WkC.key {R : List (List Ar)} (hv : AR R = true) (hn : R.length <= 100) {c : List Int} (hc : WkC R c) : MtW R (fun s => c.getD s 0) R (fun s => c.getD s 0) := by
 obtain ⟨B, hB, i, hi, hf⟩ := hc
 have hb := DX hv hn
 intro s t hs ht h
 simp only at h ⊢
 have e := (BX (Vh (B1 R) c) (B1 R).length).eq s t (by omega) (by omega)
 have e0 : (Vf (Vh (B1 R) c) (B1 R).length).1 = c := hf
 rw [e0] at e
 have e2 := congrArg Prod.snd (e.1 h)
 obtain ⟨c1, -⟩ := H2.1 e2
 refine ⟨fun hd => ?_, fun a ha => ?_⟩
 rotate_left
 ·obtain ⟨b, hb2, hq⟩ := List.any_eq_true.1 (List.all_eq_true.1 c1 a ha)
  simp only [Bool.and_eq_true, beq_iff_eq] at hq
  exact ⟨b, hb2, hq.1, hq.2⟩
 have hdv : ∀ j, (Vj (B1 R) (VP B R.length) j).getD s 0 = (Vj (B1 R) (VP B R.length) j).getD t 0 -> (VP B R.length).getD s 0 = (VP B R.length).getD t 0 := by
  intro j
  induction j with
  | zero => exact id
  | succ j ih => intro q; exact ih (congrArg Prod.fst (((BX (Vh (B1 R) (Vj (B1 R) (VP B R.length) j)) (B1 R).length).eq s t (by omega) (by omega)).1 q))
 have q := hdv i (by rw [<- hi]; exact h)
 rw [Cp hs, Cp ht] at q
 refine (hB.2 t ht).1 ?_
 have h2 := (hB.2 s hs).2 hd
 unfold VO at q
 rw [h2] at q
 generalize B.getD 0 false = x0 at q
 generalize B.getD t false = x1 at q ⊢
 revert q
 cases x0 <;> cases x1 <;> decide
/-! Side by side. -/
def VwW {α : Type} (Z : List (List Ar)) (k : Nat -> α) (s : Nat) (X : List (List Ar)) (kX : Nat -> α) (s' : Nat) : Prop :=
 s' < X.length /\ k s = kX s' /\ (Dv Z s ↔ Dv X s') /\ (∀ a ∈ (B1 Z).getD s [], ∃ b ∈ (B1 X).getD s' [], b.1 = a.1 /\ kX b.2.toNat = k a.2.toNat) /\ ∀ b ∈ (B1 X).getD s' [], ∃ a ∈ (B1 Z).getD s [], a.1 = b.1 /\ k a.2.toNat = kX b.2.toNat
theorem VwW.mt {α : Type} {Z X Y : List (List Ar)} {k kX kY : Nat -> α} {s t s' t' : Nat} (h1 : VwW Z k s X kX s') (h2 : VwW Z k t Y kY t') (hm : MtW X kX Y kY) (h : k s = k t) : (Dv Z s -> Dv Z t) /\ ∀ a ∈ (B1 Z).getD s [], ∃ b ∈ (B1 Z).getD t [], b.1 = a.1 /\ k b.2.toNat = k a.2.toNat := by
 obtain ⟨a1, a2, a3, a4, a5⟩ := h1
 obtain ⟨b1, b2, b3, b4, b5⟩ := h2
 obtain ⟨m1, m2⟩ := hm s' t' a1 b1 (by rw [<- a2, <- b2, h])
 refine ⟨fun d => b3.2 (m1 (a3.1 d)), fun a ha => ?_⟩
 obtain ⟨x, hx, e1, e2⟩ := a4 a ha
 obtain ⟨y, hy, e3, e4⟩ := m2 x hx
 obtain ⟨z, hz, e5, e6⟩ := b5 y hy
 exact ⟨z, hz, by rw [e5, e3, e1], by rw [e6, e4, e2]⟩
theorem SI {A R : List (List Ar)} (hA : AR A = true) {s u : Nat} {e : Int} (hs : s < A.length) : WA (BI A R) s e u ↔ WA A s e u := by
 have hE := Bv true (gEg (gE4 hA).1 : Bd A = true)
 unfold WA
 refine or_congr (and_congr_right fun _ => EI hE hs) (and_congr_right fun _ => exists_congr fun t => ?_)
 rw [EI hE hs]
 refine and_congr_right fun hr => ?_
 have htl := hr.lt hs hE
 rw [Mn htl]
 exact exists_congr fun a => and_congr_right fun ha => and_congr_right fun _ => EI hE (D8 hA htl ha).2.2.2
theorem SK {A R : List (List Ar)} (hR : AR R = true) {s u : Nat} {e : Int} (hs : s < R.length) : WA (BI A R) (A.length + s) e u ↔ ∃ v, u = A.length + v /\ WA R s e v := by
 have hlo : Bd R = true := gEg (gE4 hR).1
 have hE := Bv true hlo
 have hsh : ∀ {t : Nat} {b : Ar}, t < R.length -> b ∈ R.getD t [] -> (b.2 + (A.length : Int)).toNat = A.length + b.2.toNat := fun ht hb => by have := D8 hR ht hb; omega
 unfold WA
 constructor
 rotate_left
 ·rintro ⟨v, rfl, ⟨h0, h1⟩ | ⟨h0, t, ht, b, hb, h1, h2⟩⟩
  ·exact .inl ⟨h0, (Da hlo).2 ⟨v, rfl, h1⟩⟩
  have htl := ht.lt hs hE
  refine .inr ⟨h0, A.length + t, (Da hlo).2 ⟨t, rfl, ht⟩, (b.1, b.2 + (A.length : Int)), by rw [I9]; exact List.mem_map.2 ⟨b, hb, rfl⟩, h1, ?_⟩
  simp only
  rw [hsh htl hb]
  exact (Da hlo).2 ⟨v, rfl, h2⟩
 rintro (⟨h0, h1⟩ | ⟨h0, t, ht, a, ha, h1, h2⟩)
 ·obtain ⟨v, rfl, hr⟩ := (Da hlo).1 h1
  exact ⟨v, rfl, .inl ⟨h0, hr⟩⟩
 obtain ⟨v, rfl, hr⟩ := (Da hlo).1 ht
 rw [I9] at ha
 obtain ⟨b, hb, rfl⟩ := List.mem_map.1 ha
 have hvl := hr.lt hs hE
 simp only at h1 h2
 rw [hsh hvl hb] at h2
 obtain ⟨v2, rfl, hr2⟩ := (Da hlo).1 h2
 exact ⟨v2, rfl, .inr ⟨h0, v, hr, b, hb, h1, hr2⟩⟩
theorem WA.lt {R : List (List Ar)} (hR : AR R = true) {s u : Nat} {e : Int} (hs : s < R.length) (h : WA R s e u) : u < R.length := by
 have hE := Bv true (gEg (gE4 hR).1 : Bd R = true)
 rcases h with ⟨_, h⟩ | ⟨_, t, ht, a, ha, _, h⟩
 ·exact h.lt hs hE
 exact h.lt (D8 hR (ht.lt hs hE) ha).2.2.2 hE
theorem PS {A R : List (List Ar)} (hz : AR (BI A R) = true) (hA : AR A = true) {s : Nat} (hs : s < A.length) {a : Ar} : a ∈ (B1 (BI A R)).getD s [] ↔ a ∈ (B1 A).getD s [] := by
 rw [B5 hz (by rw [Az]; omega), B5 hA hs]
 constructor
 rotate_left
 ·rintro ⟨u, hu, h1, h2⟩
  exact ⟨u, by rw [Az]; omega, (SI hA hs).2 h1, h2⟩
 rintro ⟨u, _, h1, h2⟩
 have h3 := (SI hA hs).1 h1
 exact ⟨u, h3.lt hA hs, h3, h2⟩
theorem PU {A R : List (List Ar)} (hz : AR (BI A R) = true) (hR : AR R = true) {s : Nat} (hs : s < R.length) {a : Ar} : a ∈ (B1 (BI A R)).getD (A.length + s) [] ↔ ∃ b ∈ (B1 R).getD s [], a = (b.1, b.2 + (A.length : Int)) := by
 rw [B5 hz (by rw [Az]; omega)]
 constructor
 rotate_left
 ·rintro ⟨b, hb, rfl⟩
  obtain ⟨v, hv, h1, h2⟩ := (B5 hR hs).1 hb
  exact ⟨A.length + v, by rw [Az]; omega, (SK hR hs).2 ⟨v, rfl, h1⟩, by simp only; omega⟩
 rintro ⟨u, _, h1, h2⟩
 obtain ⟨v, rfl, h3⟩ := (SK hR hs).1 h1
 exact ⟨(a.1, (v : Int)), (B5 hR hs).2 ⟨v, h3.lt hR hs, h3, rfl⟩, by obtain ⟨e, t⟩ := a; simp only at h2 ⊢; rw [h2]; congr 1; omega⟩
theorem MtW.both {α : Type} {A R : List (List Ar)} {kA kR : Nat -> α} (hA : AR A = true) (hR : AR R = true) (hn : A.length + R.length <= 100) (hz : AR (BI A R) = true) (h1 : MtW A kA A kA) (h2 : MtW A kA R kR) (h3 : MtW R kR A kA) (h4 : MtW R kR R kR) : MtW (BI A R) (WO A.length kA kR) (BI A R) (WO A.length kA kR) := by
 have hlA : Bd A = true := gEg (gE4 hA).1
 have hlo : Bd R = true := gEg (gE4 hR).1
 have hE := Bv true hlA
 have v1 : ∀ s, s < A.length -> VwW (BI A R) (WO A.length kA kR) s A kA s := fun s hs => by
  have hk : ∀ a ∈ (B1 A).getD s [], WO A.length kA kR a.2.toNat = kA a.2.toNat := fun a ha => if_pos (GH hA (by omega) hs ha).2
  refine ⟨hs, if_pos hs, QC hE hs, fun a ha => ?_, fun b hb => ?_⟩
  rotate_left
  ·exact ⟨b, (PS hz hA hs).2 hb, rfl, hk b hb⟩
  have ha := (PS hz hA hs).1 ha
  exact ⟨a, ha, rfl, (hk a ha).symm⟩
 have v2 : ∀ s, s < R.length -> VwW (BI A R) (WO A.length kA kR) (A.length + s) R kR s := fun s hs => by
  have hk : ∀ a ∈ (B1 R).getD s [], WO A.length kA kR (a.2 + (A.length : Int)).toNat = kR a.2.toNat := fun a ha => by
   have := GH hR (by omega) hs ha
   unfold WO
   rw [if_neg (by omega)]
   congr 1; omega
  refine ⟨hs, by unfold WO; rw [if_neg (by omega)]; congr 1; omega, QD hlo, fun a ha => ?_, fun b hb => ?_⟩
  rotate_left
  ·exact ⟨_, (PU hz hR hs).2 ⟨b, hb, rfl⟩, rfl, hk b hb⟩
  obtain ⟨b, hb, rfl⟩ := (PU hz hR hs).1 ha
  exact ⟨b, hb, rfl, (hk b hb).symm⟩
 have hv : ∀ s, s < (BI A R).length -> s < A.length \/ ∃ s', s' < R.length /\ s = A.length + s' := fun s hs => by
  rw [Az] at hs
  by_cases e : s < A.length
  ·exact .inl e
  exact .inr ⟨s - A.length, by omega, by omega⟩
 intro s t hs ht h
 rcases hv s hs with hs2 | ⟨s, hs2, rfl⟩ <;> rcases hv t ht with ht2 | ⟨t, ht2, rfl⟩
 ·exact (v1 s hs2).mt (v1 t ht2) h1 h
 ·exact (v1 s hs2).mt (v2 t ht2) h2 h
 ·exact (v2 s hs2).mt (v1 t ht2) h3 h
 exact (v2 s hs2).mt (v2 t ht2) h4 h
section
variable {R X : List (List Ar)} {f kX : Nat -> Nat}
theorem QuX.mt1W (h : QuX R X f kX) (hR : AR R = true) (hX : AR X = true) : MtW R f X kX := by
 have hE := Bv true (gEg (gE4 hR).1 : Bd R = true)
 intro s j hs hj e
 refine ⟨fun ⟨g, hg, hd⟩ => ?_, fun a ha => ?_⟩
 ·obtain ⟨i, hi, hp, ei⟩ := h.path hR hX hs hj e hg
  have hl := h.lp g i (hg.lt hs hE) hi ei.symm ⟨g, .refl _, hd⟩
  exact ⟨i, hp, i, (Cq hX).2 hl, .refl _⟩
 obtain ⟨u, hul, hw, hu⟩ := (B5 hR hs).1 ha
 rcases hw with ⟨h0, hr⟩ | ⟨h0, t, hr, b, hb, h1, h2⟩
 ·obtain ⟨i, hi, hp, ei⟩ := h.path hR hX hs hj e hr
  exact ⟨(0, (i : Int)), (B5 hX hj).2 ⟨i, hi, .inl ⟨rfl, hp⟩, rfl⟩, h0.symm, by rw [hu]; simpa using ei⟩
 obtain ⟨i, hi, hp, ei⟩ := h.path hR hX hs hj e hr
 have htl := hr.lt hs hE
 obtain ⟨i2, q1, q2, q3⟩ := h.fw t i htl hi ei.symm _ hb (.inl (by rw [h1]; exact h0))
 obtain ⟨i3, p1, p2, p3⟩ := h.path hR hX (D8 hR htl hb).2.2.2 q1 q3.symm h2
 exact ⟨(a.1, (i3 : Int)), (B5 hX hj).2 ⟨i3, p1, .inr ⟨h0, i, hp, _, q2, h1, by simpa using p2⟩, rfl⟩, rfl, by rw [hu]; simpa using p3⟩
theorem QuX.stepW (h : QuX R X f kX) (hR : AR R = true) (hX : AR X = true) (hk : MtW R f R f) {i j : Nat} {u : Nat} (hu : u < R.length) (hj : j < X.length) (e : f u = kX j) (hi : i ∈ Vo true X j) : i < X.length /\ ∃ v, v < R.length /\ Rc (Vo true R) u v /\ f v = kX i := by
 have hE := Bv true (gEg (gE4 hR).1 : Bd R = true)
 obtain ⟨i', h1, h2, h3⟩ := h.bw j _ hj ((Cq hX).1 hi)
 have hii : i = i' := by simp only at h2; omega
 subst hii
 refine ⟨h1, ?_⟩
 rcases h3 with ⟨s, hs, es, b, hb, eb, fb, _⟩ | ⟨_, rfl, _⟩
 rotate_left
 ·exact ⟨u, hu, .refl _, e⟩
 have hbl := Rr hR hb
 have hbs : (0, b.2) ∈ (B1 R).getD s [] := (B5 hR hs).2 ⟨b.2.toNat, hbl.2, .inl ⟨rfl, .one ((Cq hR).2 (by
  obtain ⟨x, y⟩ := b
  simp only at eb hbl ⊢
  subst eb
  rw [Int.toNat_of_nonneg hbl.1]
  exact hb))⟩, by simp only; omega⟩
 obtain ⟨c, hc, e1, e2⟩ := (hk s u hs hu (by rw [es, e])).2 _ hbs
 obtain ⟨v, hvl, hw, hv⟩ := (B5 hR hu).1 hc
 rcases hw with ⟨_, hr⟩ | ⟨h0, _⟩
 ·exact ⟨v, hvl, hr, by rw [hv] at e2; simp only [Int.toNat_natCast] at e2; rw [e2, fb]⟩
 exact absurd e1 h0
theorem QuX.backW (h : QuX R X f kX) (hR : AR R = true) (hX : AR X = true) (hk : MtW R f R f) {i j : Nat} {u : Nat} (hu : u < R.length) (hj : j < X.length) (e : f u = kX j) (hr : Rc (Vo true X) j i) : i < X.length /\ ∃ v, v < R.length /\ Rc (Vo true R) u v /\ f v = kX i := by
 induction hr with
 | refl => exact ⟨hj, u, hu, .refl _, e⟩
 | tail _ hw ih =>
  obtain ⟨h1, v, hv, hp, ev⟩ := ih
  obtain ⟨h2, w, hw2, hp2, ew⟩ := h.stepW hR hX hk hv h1 ev hw
  exact ⟨h2, w, hw2, hp.trans hp2, ew⟩
theorem QuX.mt2W (h : QuX R X f kX) (hR : AR R = true) (hX : AR X = true) (hk : MtW R f R f) : MtW X kX R f := by
 have hE := Bv true (gEg (gE4 hR).1 : Bd R = true)
 intro j s hj hs e
 refine ⟨fun ⟨i, hi, w, hw, hwi⟩ => ?_, fun a ha => ?_⟩
 ·obtain ⟨hil, u, hu, hp, eu⟩ := h.backW hR hX hk hs hj e.symm hi
  obtain ⟨i', h1, h2, h3⟩ := h.bw i _ hil ((Cq hX).1 hw)
  have hii : w = i' := by simp only at h2; omega
  subst hii
  have hdu : Dv R u := by
   rcases h3 with ⟨_, _, _, _, _, _, _, hor⟩ | ⟨_, rfl, s', hs', es', hd⟩
   rotate_left
   ·exact (hk s' u hs' hu (by rw [es', eu])).1 hd
   have hne : kX w ≠ kX i := by simpa using hor
   refine Rt hR (P := fun u => f u = kX i) (fun u hu eu => ?_) _ u hu eu (Nat.le_refl _)
   obtain ⟨_, x, hx, hux, ex⟩ := h.stepW hR hX hk hu hil eu hw
   obtain ⟨_, y, hy, hxy, ey⟩ := h.backW hR hX hk hx h1 ex hwi
   obtain ⟨z, hz, hzx⟩ := P7 hux (fun q => hne (by rw [<- ex, <- q, eu]))
   exact ⟨z, y, hz, hzx.trans hxy, hy, ey⟩
  obtain ⟨g, hg, hd⟩ := hdu
  exact ⟨g, hp.trans hg, hd⟩
 obtain ⟨i, hil0, hw, hi⟩ := (B5 hX hj).1 ha
 rcases hw with ⟨h0, hr⟩ | ⟨h0, i1, hr, b0, hb, hb1, hr2⟩
 ·obtain ⟨_, v, hv, hp, ev⟩ := h.backW hR hX hk hs hj e.symm hr
  exact ⟨(0, (v : Int)), (B5 hR hs).2 ⟨v, hv, .inl ⟨rfl, hp⟩, rfl⟩, h0.symm, by rw [hi]; simpa using ev⟩
 obtain ⟨hil, v, hv, hp, ev⟩ := h.backW hR hX hk hs hj e.symm hr
 obtain ⟨i2, q1, q2, q3⟩ := h.bw i1 b0 hil hb
 rcases q3 with ⟨s', hs', es', b, hb2, eb, fb, _⟩ | ⟨h9, _⟩
 rotate_left
 ·exact absurd (hb1.symm.trans h9) h0
 have hbl := D8 hR hs' hb2
 have hbs : b ∈ (B1 R).getD s' [] := (B5 hR hs').2 ⟨b.2.toNat, hbl.2.2.2, .inr ⟨by rw [eb, hb1]; exact h0, s', .refl _, b, hb2, rfl, .refl _⟩, by omega⟩
 obtain ⟨c, hc, e1, e2⟩ := (hk s' v hs' hv (by rw [es', ev])).2 _ hbs
 obtain ⟨w, hwl, hw2, hwe⟩ := (B5 hR hv).1 hc
 have ew : f w = kX i2 := by rw [hwe] at e2; simp only [Int.toNat_natCast] at e2; rw [e2, fb]
 have hi2 : b0.2.toNat = i2 := by rw [q2]; simp
 rw [hi2] at hr2
 obtain ⟨_, z, hz, hwz, ez⟩ := h.backW hR hX hk hwl q1 ew hr2
 rcases hw2 with ⟨h8, _⟩ | ⟨_, t, ht, d, hd, hd1, hd2⟩
 ·exact absurd (by rw [<- hb1, <- eb, <- e1, h8]) h0
 exact ⟨(a.1, (z : Int)), (B5 hR hs).2 ⟨z, hz, .inr ⟨h0, t, hp.trans ht, d, hd, by rw [hd1, e1, eb, hb1], hd2.trans hwz⟩, rfl⟩, rfl, by rw [hi]; simpa using ez⟩
theorem QuX.mt3W (h : QuX R X f kX) : MtW X kX X kX := fun i j hi hj e => by
 have := h.inj i j hi hj e
 subst this
 exact ⟨id, fun a ha => ⟨a, ha, rfl, rfl⟩⟩
theorem QuX.minW (h : QuX R X f kX) (hR : AR R = true) (hX : AR X = true) (hn : R.length <= 100) (hk : MtW R f R f) {c x : List Int} (hc : WkC R c) (hf : ∀ s t, s < R.length -> t < R.length -> c.getD s 0 = c.getD t 0 -> f s = f t) (hXn : X.length <= 100) (hx : WkC X x) {i j : Nat} (hi : i < X.length) (hj : j < X.length) (e : x.getD i 0 = x.getD j 0) : i = j := by
 classical
 let k : Nat -> Int ⊕ Nat := fun s => if q : ∃ j, j < X.length /\ kX j = f s then .inl (x.getD q.choose 0) else .inr (f s)
 have k1 : ∀ s j, j < X.length -> kX j = f s -> k s = .inl (x.getD j 0) := fun s j hj e => by
  have q : ∃ j, j < X.length /\ kX j = f s := ⟨j, hj, e⟩
  have := h.inj _ _ q.choose_spec.1 hj (by rw [q.choose_spec.2, e])
  show (if q : ∃ j, j < X.length /\ kX j = f s then Sum.inl (x.getD q.choose 0) else .inr (f s)) = _
  rw [dif_pos q, this]
 have k2 : ∀ s, (¬ ∃ j, j < X.length /\ kX j = f s) -> k s = .inr (f s) := fun s q => dif_neg q
 have k3 : ∀ s t, f s = f t -> k s = k t := fun s t e => by show (if q : ∃ j, j < X.length /\ kX j = f s then Sum.inl (x.getD q.choose 0) else Sum.inr (f s)) = if q : ∃ j, j < X.length /\ kX j = f t then Sum.inl (x.getD q.choose 0) else Sum.inr (f t); rw [e]
 have hm1 := h.mt1W hR hX
 have hm2 := h.mt2W hR hX hk
 have hkx := WkC.key hX hXn hx
 have hkk : MtW R k R k := fun s t hs ht e => by
  by_cases q : ∃ j, j < X.length /\ kX j = f s
  rotate_left
  ·by_cases q2 : ∃ j, j < X.length /\ kX j = f t
   ·obtain ⟨j, hj, ej⟩ := q2
    rw [k2 s q, k1 t j hj ej] at e; simp at e
   rw [k2 s q, k2 t q2] at e
   obtain ⟨d1, d2⟩ := hk s t hs ht (Sum.inr.inj e)
   refine ⟨d1, fun a ha => ?_⟩
   obtain ⟨b, hb, p1, p2⟩ := d2 a ha
   exact ⟨b, hb, p1, k3 _ _ p2⟩
  obtain ⟨i, hi, ei⟩ := q
  have e1 := k1 s i hi ei
  by_cases q2 : ∃ j, j < X.length /\ kX j = f t
  rotate_left
  ·rw [e1, k2 t q2] at e; simp at e
  obtain ⟨j, hj, ej⟩ := q2
  have e2 := k1 t j hj ej
  have e3 : x.getD i 0 = x.getD j 0 := by rw [e1, e2] at e; exact Sum.inl.inj e
  refine ⟨fun d => (hm2 j t hj ht ej).1 ((hkx i j hi hj e3).1 ((hm1 s i hs hi ei.symm).1 d)), fun a ha => ?_⟩
  obtain ⟨b1, hb1, p1, p2⟩ := (hm1 s i hs hi ei.symm).2 a ha
  obtain ⟨b2, hb2, p3, p4⟩ := (hkx i j hi hj e3).2 b1 hb1
  obtain ⟨b3, hb3, p5, p6⟩ := (hm2 j t hj ht ej).2 b2 hb2
  refine ⟨b3, hb3, by rw [p5, p3, p1], ?_⟩
  rw [k1 _ _ (GH hX hXn hj hb2).2 p6.symm, k1 _ _ (GH hX hXn hi hb1).2 p2]
  exact congrArg _ p4
 obtain ⟨s, hs, es⟩ := h.sur i hi
 obtain ⟨t, ht, et⟩ := h.sur j hj
 refine h.inj i j hi hj ?_
 rw [<- es, <- et]
 exact hf s t hs ht (hkk.le hR hn hc hs ht (by rw [k1 s i hi es.symm, k1 t j hj et.symm, e]))
end
end Go.Proofs.YthnkailnoobdoaaDoor
