/- Lemmas. -/
import Derived.Test.YtjijjfkalheokaaDoorG45
import Derived.Test.YtjijjfkalheokaaDoorG11
import Derived.Test.YtjijjfkalheokaaDoorZk
import Derived.Test.YtjijjfkalheokaaDoorG70
import Derived.Test.YtjijjfkalheokaaDoorMG
import Derived.Test.YtjijjfkalheokaaDoorDl1
import Derived.Test.YtjijjfkalheokaaDoorG53
import Derived.Test.YtjijjfkalheokaaDoorG72
import Derived.Test.YtjijjfkalheokaaDoorW07
import Derived.Test.YtjijjfkalheokaaDoorMF
namespace Go.Proofs.YtjijjfkalheokaaDoor
set_option linter.unusedVariables false
set_option linter.unusedSimpArgs false
open Go.RowKit

def NumSur (num old : List Int) : Prop := ∀ (j : Nat) (s : Int), old[j]? = some s -> 0 <= s /\ num[s.toNat]? = some (j : Int)
theorem NumSur.one {num old : List Int} (h : NumSur num old) {t : Int} (h0 : 0 <= t) (h1 : t < num.length) : NumSur (AP num old t).1 (AP num old t).2 := by
 have htl : t.toNat < num.length := by omega
 unfold AP
 split
 rotate_left
 ·exact h
 rename_i hneg
 intro j s hs
 simp only at hs ⊢
 rcases Nat.lt_or_ge j old.length with hj | hj
 ·rw [gEa hj] at hs
  obtain ⟨q1, q2⟩ := h j s hs
  refine ⟨q1, ?_⟩
  rw [List.getElem?_set, if_neg, q2]
  intro e
  rw [e, gE2, q2, Option.getD_some] at hneg
  omega
 rw [gEb hj] at hs
 have hj' : j = old.length := by
  have := (List.getElem?_eq_some_iff.1 hs).1
  simp at this
  omega
 subst hj'
 simp at hs
 subst hs
 exact ⟨h0, by rw [List.getElem?_set, if_pos rfl, if_pos htl]⟩
structure RowsG (n : Nat) (out : List (List Ar)) : Prop where
 so : ∀ r ∈ out, SortA r
 bd : ∀ r ∈ out, ∀ a ∈ r, 0 <= a.1 /\ a.1 <= 1025 /\ 0 <= a.2 /\ a.2 < (n : Int)
theorem RowsG.le {n m : Nat} {out : List (List Ar)} (h : RowsG n out) (hm : n <= m) : RowsG m out := ⟨h.so, fun r hr a ha => by have := h.bd r hr a ha; omega⟩
set_option maxRecDepth 100000
attribute [local go_sem] lga C.pl C.one
set_option maxRecDepth 100000 in
theorem Mx (ts : List Tr) (hn : ts.length <= 100000000) : FC Tryd.prog 16 [.a (.c (.t 1 ts))] [] (fun r o => r = .a (.c (.s 0 (ts.length / 1))) /\ o = [.r ⟨30, 1, true, ts.map C.ofTr⟩]) := by
 refine A8 Tryd.func16 rfl (by rw [Tryd.ntmps16]; simp) ?_
 rw [Tryd.ntmps16]
 simp only [Bs]
 (refine Ud ?_;(repeat clear hK K);repeat refine kq fun K hK=>?_)
 refine A9 rfl ?_; intro K1 hK1
 refine HZ rfl rfl Tryd.underlying22 (.inl rfl) (.inl ⟨1, ts, by simp only [go_sem], ?_⟩)
 intro b hb
 simp only [go_sem]
 refine hK1 _ ?_; clear hK1 K1
 (refine Ud ?_;(repeat clear hK K);repeat refine kq fun K hK=>?_)
 (refine Aw ?_; intro X Y hX hY; simp only [go_sem])
 refine ⟨fun h => hX ?_, fun h => hY ?_⟩
 ·have hts := hb h
  subst hts
  (refine Ud ?_;(repeat clear hK K);repeat refine kq fun K hK=>?_)
  refine AU ?_
  simp only [Ai]
  refine BQ (CK 2 30 1 ?_) ?_
  ·simp only [go_sem]
  exact L9 Tryd.results16
 clear hX hY X Y
 (refine Ud ?_;(repeat clear hK K);repeat refine kq fun K hK=>?_)
 refine AU ?_
 refine BQ (Ad [1] rfl rfl) ?_
 (try simp only [List.set_nil, List.take_nil, List.take_zero, List.map_append, go_sem])
 exact L9 Tryd.results16
theorem My (R : List (List Ar)) : (Ae R).map C.ofTr = Bd R := by
 unfold Ae Bd
 rw [List.map_map]
 rfl
def W1 (r : List Ar) : List Ar := if UT r then r else r.take 1
def W2 (R : List (List Ar)) (k : Nat) : List (List Ar) := (R.take k).map W1 ++ R.drop k
theorem Mz (R : List (List Ar)) (k : Nat) : (W2 R k).length = R.length := by simp [W2]; omega
theorem MA {R : List (List Ar)} {k : Nat} (h : k < R.length) : (W2 R k)[k]? = some R[k] := by
 unfold W2
 rw [gEb (by simp; omega), List.getElem?_drop, List.length_map, List.length_take, Nat.min_eq_left (by omega)]
 rw [show k + (k - k) = k by omega, gE1 h]
theorem Ov {R : List (List Ar)} {k : Nat} (h : k < R.length) : W2 R (k + 1) = (W2 R k).set k (W1 R[k]) := by
 unfold W2
 rw [List.set_append_right _ _ (by simp; omega), gE8 h, List.map_append, List.append_assoc]
 congr 1
 rw [List.length_map, List.length_take, Nat.min_eq_left (by omega), Nat.sub_self]
 rw [List.drop_eq_getElem_cons h]
 rfl
theorem Qz (R : List (List Ar)) : W2 R R.length = R.map W1 := by simp [W2]
theorem MB (r : List Ar) : (W1 r).length <= r.length := by
 unfold W1
 split
 ·exact Nat.le_refl _
 rw [List.length_take]; omega
theorem QB {r : List Ar} {a : Ar} (h : a ∈ W1 r) : a ∈ r := by
 unfold W1 at h
 split at h
 ·exact h
 exact List.mem_of_mem_take h
theorem MC : ∀ R : List (List Ar), BP (R.map W1) <= BP R
 | [] => Nat.le_refl _
 | r :: R => by
  have h1 := MC R
  have h2 := MB r
  simp only [BP, List.map_cons, List.sum_cons] at h1 ⊢
  omega
theorem Kx (X : List (List Ar)) (k : Nat) (r : List Ar) : (Bd X).set k (.t 2 (Al r)) = Bd (X.set k r) := by
 unfold Bd
 rw [<- List.map_set]
theorem Ky {X : List (List Ar)} {k : Nat} {r : List Ar} (h : X[k]? = some r) : (Bd X)[k]? = some (.t 2 (Al r)) := by
 unfold Bd
 rw [List.getElem?_map, h]; rfl
theorem RU {R : List (List Ar)} (hv : Bg R = true) : Br (R.map W1) = true := by
 have h := (gE4 hv).1
 have ht := MC R
 refine gEg ⟨by rw [List.length_map]; exact h.1, by rw [List.length_map]; exact h.2.1, by have := h.2.2.1; omega, ?_⟩
 intro r hr a ha
 obtain ⟨q, hq, rfl⟩ := List.mem_map.1 hr
 rw [List.length_map]
 exact h.2.2.2 q hq a (QB ha)
set_option maxHeartbeats 4000000 in
theorem Ox (R : List (List Ar)) (hv : Bg R = true) (hn : R.length <= 1000000) (hr : ∀ r ∈ R, r.length <= 1000000) : FC Tryd.prog 5 [BS R] [] (fun r o => o = [.r ⟨24, 1, false, [.t 1 (Ae (CG (R.map W1)).1)]⟩] /\ r = .tup [.g [.t 1 (Ae (CG (R.map W1)).1)], .c (.v (.int .i64 0))]) := by
 refine A8 Tryd.func5 rfl (by rw [Tryd.ntmps5]; simp) ?_
 rw [Tryd.ntmps5]
 have hlo : Br R = true := gEg (gE4 hv).1
 have h1 : 1 <= R.length := (gE4 hlo).1
 simp only [Bs, BS]
 (refine Ud ?_;(repeat clear hK K);repeat refine kq fun K hK=>?_)
 (refine Ui (CC R (by omega) (fun r h => by have := hr r h; omega)) ?_; intro K1 hK1)
 rintro _ _ ⟨rfl, rfl⟩
 (refine Uj ?_; clear hK1 K1)
 rw [hv]
 (refine Ue @Bool.not_true ?_;(repeat clear hK K);repeat refine kq fun K hK=>?_)
 refine Ul ?_
 (refine Ud ?_;(repeat clear hK K);repeat refine kq fun K hK=>?_)
 (refine Ui (Mx (Ae R) (by rw [A6]; omega)) ?_; intro K1 hK1)
 rintro _ _ ⟨rfl, rfl⟩
 (refine Uj ?_; clear hK1 K1)
 rw [My, A6]
 have hst := fun k (h : k < R.length) => Hy R k h hn hr
 simp only [BS] at hst
 (refine Ud ?_;(repeat clear hK K);repeat refine kq fun K hK=>?_)
 refine Ac (fun k : Nat => { tm := [(1, .a (.c (.p 0 0))), (2, .a (.c (.p 1 0))), (3, .a (.c (.v (.int .i64 0)))), (4, .a (.c (.s 2 R.length))), (17, .i R.length), (18, .i k)], hp := [.r ⟨24, 1, false, [.t 1 (Ae R)]⟩, .r ⟨24, 1, false, [.v (.slice none 0 0)]⟩, .r ⟨30, 1, true, Bd (W2 R k)⟩], n := 43, pin := 0 }) (fun k => k <= R.length) (fun k => R.length - k) 0 ?_ ?_ ?_
 ·omega
 ·have h0 : W2 R 0 = R := by simp [W2]
  rw [h0]
  exact Un
 rintro k hk K hK
 by_cases hlt : k < R.length
 rotate_left
 ·have d1 : decide ((k : Int) < (R.length : Int)) = false := by simpa using hlt
  have hke : k = R.length := by omega
  subst hke
  rw [Qz]
  (refine Ue @d1 ?_;(repeat clear hK K);repeat refine kq fun K hK=>?_)
  refine Ul ?_
  (refine Uh ?_;repeat clear hK K)
  have hlC := RU hv
  have hrC : ∀ r ∈ R.map W1, r.length <= 1000000 := fun r h => by
   obtain ⟨q, hq, rfl⟩ := List.mem_map.1 h
   have := MB q
   have := hr q hq
   omega
  have hlm : (R.map W1).length = R.length := List.length_map _
  generalize R.map W1 = T at *
  have htk : (Ae T).take R.length = Ae T := gE7 (by rw [A6]; omega)
  (refine B1 (Bh (r := ⟨30, 1, true, Bd T⟩) 2 (Ae T) rfl (F4 _) (show 0 < (1 : Nat) by omega)) ?_; simp only [ST.frz, A0.frz, AV.frz, C.frz, Nat.le_refl, List.set_cons_zero, List.set_cons_succ, go_sem, htk, A6, hlm])
  (refine Ud ?_;(repeat clear hK K);repeat refine kq fun K hK=>?_)
  (refine Ui (Hx T hlC (by omega) hrC) ?_; intro K1 hK1)
  rintro _ _ ⟨rfl, rfl⟩
  (refine Uj ?_; clear hK1 K1)
  (refine Nh ?_;(repeat clear hK K);repeat refine kq fun K hK=>?_)
  exact Re [1] Tryd.results5
 have d1 : decide ((k : Int) < (R.length : Int)) = true := by simpa using hlt
 have hg := Ky (MA hlt)
 have hsu := Ov hlt
 have hlen : (Bd (W2 R k)).length = R.length := by unfold Bd; rw [List.length_map, Mz]
 (refine Ue @d1 ?_;(repeat clear hK K);repeat refine kq fun K hK=>?_)
 refine Uk ?_
 (refine Ud ?_;(repeat clear hK K);repeat refine kq fun K hK=>?_)
 (refine Ui (hst k hlt) ?_; intro K1 hK1)
 rintro _ _ ⟨rfl, rfl⟩
 (refine Uj ?_; clear hK1 K1)
 (refine Ud ?_;(repeat clear hK K);repeat refine kq fun K hK=>?_)
 (refine Aw ?_; intro X Y hX hY; simp only [go_sem])
 refine ⟨fun h => hX ?_, fun h => hY ?_⟩
 rotate_left
 ·clear hX hY X Y
  have e : W2 R (k + 1) = W2 R k := by
   rw [hsu]
   have : W1 R[k] = R[k] := by unfold W1; rw [if_pos (by simpa using h)]
   rw [this]
   refine List.ext_getElem? fun j => ?_
   by_cases hj : k = j
   rotate_left
   ·rw [gE5 hj]
   subst hj
   rw [gEc (by rw [Mz]; exact hlt), MA hlt]
  (refine Ud ?_;(repeat clear hK K);repeat refine kq fun K hK=>?_)
  refine Um ?_
  refine hK _ (k + 1) (by omega) (by omega) ?_
  rw [e]
  exact Un
 obtain ⟨a, q, hq⟩ : ∃ a q, R[k] = a :: q := by
  cases e : R[k] with
  | nil => rw [e] at h; simp [UT] at h
  | cons a q => exact ⟨a, q, rfl⟩
 rw [hq] at hg
 clear hX hY X Y
 have h2 : (Al (a :: q)).take 2 = Al (W1 R[k]) := by
  have : W1 R[k] = [a] := by unfold W1; rw [if_neg (by simpa using h), hq]; rfl
  rw [this]; rfl
 (refine CY (an @hg (an @hlen (an @A4 (an @List.length_cons.{0} (an @Int.toNat_one (an @h2 @Kx)))))) ?_;(repeat clear hK K);repeat refine kq fun K hK=>?_)
 refine Um ?_
 refine hK _ (k + 1) (by omega) (by omega) ?_
 rw [hsu]
 exact Un
def W3 (f : Nat -> Nat) (c : Nat) (o : List (List Ar)) (a : Ar) : List (List Ar) := o.set c (GR (a.1, (f a.2.toNat : Int)) (o.getD c []))
theorem QC (f : Nat -> Nat) (c : Nat) (o : List (List Ar)) (a : Ar) : (W3 f c o a).length = o.length := by simp [W3]
def SameS (o p : List (List Ar)) : Prop := o.length = p.length /\ ∀ i a, a ∈ o.getD i [] ↔ a ∈ p.getD i []
theorem SameS.one {f : Nat -> Nat} {c : Nat} {o p : List (List Ar)} (h : SameS o p) (a : Ar) : SameS (W3 f c o a) (UE f c p a) := by
 refine ⟨by rw [QC, PD]; exact h.1, fun i b => ?_⟩
 have h1 := h.1
 unfold W3 UE
 simp only [gE2, List.getElem?_set]
 by_cases hi : c = i
 rotate_left
 ·rw [if_neg hi, if_neg hi]
  have h2 := h.2 i b
  simpa only [gE2] using h2
 subst hi
 by_cases hc : c < o.length
 rotate_left
 ·rw [if_pos rfl, if_neg hc, if_pos rfl, if_neg (by omega)]
 have h2 := h.2 c b
 simp only [gE2] at h2
 rw [if_pos rfl, if_pos hc, if_pos rfl, if_pos (by omega)]
 simp only [Option.getD_some, Gj, List.mem_append, List.mem_singleton, h2, or_comm]
def W4 (f : Nat -> Nat) (c : Nat) (a : Ar) : Option Ar := if a.1 ≠ 0 \/ f a.2.toNat ≠ c then some (a.1, (f a.2.toNat : Int)) else none
def W5 (b : Bool) (c : Nat) : Option Ar := if b then some (0, (c : Int)) else none
def QA (R : List (List Ar)) (f : Nat -> Nat) (k d : Nat) (a : Ar) : Prop := ∃ s, s < k /\ f s = d /\ ∃ b ∈ R.getD s [], W4 f d b = some a
def QL (f : Nat -> Nat) (B : List Bool) (k d : Nat) (a : Ar) : Prop := a = (0, (d : Int)) /\ ∃ s, s < k /\ f s = d /\ B.getD s false = true
theorem QA.succ {R : List (List Ar)} {f : Nat -> Nat} {k d : Nat} {a : Ar} : QA R f (k + 1) d a ↔ QA R f k d a \/ (d = f k /\ ∃ b ∈ R.getD k [], W4 f (f k) b = some a) := by
 constructor
 rotate_left
 ·rintro (⟨s, h1, h2, h3⟩ | ⟨rfl, h3⟩)
  ·exact ⟨s, by omega, h2, h3⟩
  exact ⟨k, by omega, rfl, h3⟩
 rintro ⟨s, h1, h2, h3⟩
 by_cases e : s = k
 ·subst e; subst h2; exact .inr ⟨rfl, h3⟩
 exact .inl ⟨s, by omega, h2, h3⟩
theorem QL.succ {f : Nat -> Nat} {B : List Bool} {k d : Nat} {a : Ar} : QL f B (k + 1) d a ↔ QL f B k d a \/ (d = f k /\ W5 (B.getD k false) (f k) = some a) := by
 unfold QL W5
 constructor
 ·rintro ⟨h0, s, h1, h2, h3⟩
  by_cases e : s = k
  ·subst e; subst h2; exact .inr ⟨rfl, by rw [if_pos h3, h0]⟩
  exact .inl ⟨h0, s, by omega, h2, h3⟩
 rintro (⟨h0, s, h1, h2, h3⟩ | ⟨rfl, h3⟩)
 ·exact ⟨h0, s, by omega, h2, h3⟩
 split at h3
 rotate_left
 ·cases h3
 rename_i hb
 injection h3 with h3
 exact ⟨h3.symm, k, by omega, rfl, hb⟩
def MtK {α : Type} (A : List (List Ar)) (kA : Nat -> α) (B : List (List Ar)) (kB : Nat -> α) : Prop :=
 ∀ s t, s < A.length -> t < B.length -> kA s = kB t -> (Dv A s -> Dv B t) /\ ∀ a ∈ (Gv A).getD s [], ∃ b ∈ (Gv B).getD t [], b.1 = a.1 /\ kB b.2.toNat = kA a.2.toNat
theorem P5 {R : List (List Ar)} (hv : Bg R = true) (hn : R.length <= 100) {s : Nat} (hs : s < R.length) {a : Ar} (h : a ∈ (Gv R).getD s []) : 0 <= a.2 /\ a.2.toNat < R.length := by
 have hb := LY hv hn
 have hm : (Gv R).getD s [] ∈ Gv R := by
  rw [gE2, gE1 (by omega), Option.getD_some]
  exact gE6 _
 have := (hb.2 _ hm).2 a h
 omega
theorem P6 {α : Type} {R : List (List Ar)} {k : Nat -> α} (hv : Bg R = true) (hn : R.length <= 100) (hk : MtK R k R k) {c : List Int} (ih : ∀ s t, s < R.length -> t < R.length -> k s = k t -> c.getD s 0 = c.getD t 0) {s t : Nat} (hs : s < R.length) (ht : t < R.length) (h : k s = k t) : OS c ((Gv R).getD s []) ((Gv R).getD t []) = true := by
 unfold OS
 refine List.all_eq_true.2 fun a ha => ?_
 obtain ⟨b, hb, e1, e2⟩ := (hk s t hs ht h).2 a ha
 unfold S8
 refine List.any_eq_true.2 ⟨b, hb, ?_⟩
 rw [e1, ih _ _ (P5 hv hn ht hb).2 (P5 hv hn hs ha).2 e2]
 simp
theorem MtK.le {α : Type} {R : List (List Ar)} {k : Nat -> α} (hv : Bg R = true) (hn : R.length <= 100) (hk : MtK R k R k) {c : List Int} (hc : Vc R c) {s t : Nat} (hs : s < R.length) (ht : t < R.length) (h : k s = k t) : c.getD s 0 = c.getD t 0 := by
 obtain ⟨B, hB, i, hi, -⟩ := hc
 have hb := LY hv hn
 subst hi
 induction i generalizing s t with
 | zero =>
  show (Vb B R.length).getD s 0 = (Vb B R.length).getD t 0
  rw [Du hs, Du ht]
  have e : B.getD s false = B.getD t false := by
   rw [Bool.eq_iff_iff, hB.2 s hs, hB.2 t ht]
   exact ⟨(hk s t hs ht h).1, (hk t s ht hs h.symm).1⟩
  unfold Va
  rw [e]
 | succ i ih =>
  have ih2 := fun s t hs ht h => ih (s := s) (t := t) hs ht h
  have e := (Ch (UY (Gv R) (V0 (Gv R) (Vb B R.length) i)) (Gv R).length).eq s t (by omega) (by omega)
  refine e.2 ?_
  unfold UY
  rw [ih hs ht h, LV.2 ⟨P6 hv hn hk ih2 hs ht h, P6 hv hn hk ih2 ht hs h.symm⟩]
/-! Side by side. -/
/-! The quotient. -/
structure QuX (R X : List (List Ar)) (f kX : Nat -> Nat) : Prop where
 inj : ∀ i j, i < X.length -> j < X.length -> kX i = kX j -> i = j
 sur : ∀ j, j < X.length -> ∃ s, s < R.length /\ f s = kX j
 fw : ∀ s j, s < R.length -> j < X.length -> f s = kX j -> ∀ b ∈ R.getD s [], (b.1 ≠ 0 \/ f b.2.toNat ≠ f s) -> ∃ i : Nat, i < X.length /\ (b.1, (i : Int)) ∈ X.getD j [] /\ kX i = f b.2.toNat
 bw : ∀ j (a : Ar), j < X.length -> a ∈ X.getD j [] -> ∃ i : Nat, i < X.length /\ a.2 = (i : Int) /\ ((∃ s, s < R.length /\ f s = kX j /\ ∃ b ∈ R.getD s [], b.1 = a.1 /\ f b.2.toNat = kX i /\ (a.1 ≠ 0 \/ kX i ≠ kX j)) \/ (a.1 = 0 /\ i = j /\ ∃ s, s < R.length /\ f s = kX j /\ Dv R s))
 lp : ∀ s j, s < R.length -> j < X.length -> f s = kX j -> Dv R s -> (0, (j : Int)) ∈ X.getD j []
section
variable {R X : List (List Ar)} {f kX : Nat -> Nat}
end
def MtW {α : Type} (A : List (List Ar)) (kA : Nat -> α) (B : List (List Ar)) (kB : Nat -> α) : Prop :=
 ∀ s t, s < A.length -> t < B.length -> kA s = kB t -> (Dv A s -> Dv B t) /\ ∀ a ∈ (BE A).getD s [], ∃ b ∈ (BE B).getD t [], b.1 = a.1 /\ kB b.2.toNat = kA a.2.toNat
theorem P7 {R : List (List Ar)} (hv : Bg R = true) (hn : R.length <= 100) {s : Nat} (hs : s < R.length) {a : Ar} (h : a ∈ (BE R).getD s []) : 0 <= a.2 /\ a.2.toNat < R.length := by
 have hb := GA hv hn
 have hm : (BE R).getD s [] ∈ BE R := by
  rw [gE2, gE1 (by omega), Option.getD_some]
  exact gE6 _
 have := (hb.2 _ hm).2 a h
 omega
theorem MD {α : Type} {R : List (List Ar)} {k : Nat -> α} (hv : Bg R = true) (hn : R.length <= 100) (hk : MtW R k R k) {c : List Int} (ih : ∀ s t, s < R.length -> t < R.length -> k s = k t -> c.getD s 0 = c.getD t 0) {s t : Nat} (hs : s < R.length) (ht : t < R.length) (h : k s = k t) : OS c ((BE R).getD s []) ((BE R).getD t []) = true := by
 unfold OS
 refine List.all_eq_true.2 fun a ha => ?_
 obtain ⟨b, hb, e1, e2⟩ := (hk s t hs ht h).2 a ha
 unfold S8
 refine List.any_eq_true.2 ⟨b, hb, ?_⟩
 rw [e1, ih _ _ (P7 hv hn ht hb).2 (P7 hv hn hs ha).2 e2]
 simp
theorem MtW.le {α : Type} {R : List (List Ar)} {k : Nat -> α} (hv : Bg R = true) (hn : R.length <= 100) (hk : MtW R k R k) {c : List Int} (hc : VJ R c) {s t : Nat} (hs : s < R.length) (ht : t < R.length) (h : k s = k t) : c.getD s 0 = c.getD t 0 := by
 obtain ⟨B, hB, i, hi, -⟩ := hc
 have hb := GA hv hn
 subst hi
 induction i generalizing s t with
 | zero =>
  show (Vb B R.length).getD s 0 = (Vb B R.length).getD t 0
  rw [Du hs, Du ht]
  have e : B.getD s false = B.getD t false := by
   rw [Bool.eq_iff_iff, hB.2 s hs, hB.2 t ht]
   exact ⟨(hk s t hs ht h).1, (hk t s ht hs h.symm).1⟩
  unfold Va
  rw [e]
 | succ i ih =>
  have ih2 := fun s t hs ht h => ih (s := s) (t := t) hs ht h
  have e := (Ch (UY (BE R) (V0 (BE R) (Vb B R.length) i)) (BE R).length).eq s t (by omega) (by omega)
  refine e.2 ?_
  unfold UY
  rw [ih hs ht h, LV.2 ⟨MD hv hn hk ih2 hs ht h, MD hv hn hk ih2 ht hs h.symm⟩]
/-! Side by side. -/
section
variable {R X : List (List Ar)} {f kX : Nat -> Nat}
end
def W6 : List (List Ar) := [[(0, 1), (0, 2), (2, 3)], [(3, 3)], [(4, 3)], []]
def W7 : List (List Ar) := [[(0, 1)], [(3, 2)], []]
def W8 : List (List Ar) := [[(0, 1), (2, 2)], [(2, 2)], []]
theorem Sz : Bg W6 = true := by kernel_rfl
theorem ME : Bg W8 = true := by kernel_rfl
theorem SA : (CG (W6.map W1)).1 = W7 := by kernel_rfl
def W9 (s : Nat) : List Nat := [[1], [], []].getD s []
def Wa (s : Nat) : List Nat := [[0, 1], [1], [2]].getD s []
theorem MF : ∀ s, Uy true W8 s = W9 s
 | 0 => rfl
 | 1 => rfl
 | 2 => rfl
 | n + 3 => rfl
theorem SB : ∀ s, s < 3 -> s ∈ Wa s := by decide
theorem SC : ∀ s, s < 3 -> ∀ u ∈ Wa s, ∀ w ∈ W9 u, w ∈ Wa s := by decide
theorem Kz : ∀ s, s < 3 -> ∀ u ∈ Wa s, u < 3 /\ (u = s \/ u ∈ W9 s) := by decide
theorem SD : ∀ s, s < 3 -> ∀ w ∈ W9 s, w < 3 /\ s ∉ Wa w := by decide
theorem GM {s u : Nat} (hs : s < 3) : Rc (Uy true W8) s u ↔ u ∈ Wa s := by
 constructor
 rotate_left
 ·intro h
  rcases (Kz s hs u h).2 with rfl | h2
  ·exact .refl _
  exact .one (by rw [MF]; exact h2)
 intro h
 induction h with
 | refl => exact SB s hs
 | tail _ h2 ih => rw [MF] at h2; exact SC s hs _ ih _ h2
theorem RW {s : Nat} (hs : s < 3) : ¬ Dv W8 s := by
 rintro ⟨g, hg, w, hw, hr⟩
 have hg8 := (Kz s hs g ((GM hs).1 hg)).1
 rw [MF] at hw
 obtain ⟨h1, h2⟩ := SD g hg8 w hw
 exact h2 ((GM h1).1 hr)
def Wb (s : Nat) : Nat := s / 2
def Ta : Bool := (List.range 3).all fun s => (List.range 3).all fun t => Wb s != Wb t || (Wa s).all fun p => (W8.getD p []).all fun b => b.1 == 0 || (Wa b.2.toNat).all fun u => (Wa t).any fun q => (W8.getD q []).any fun d => d.1 == b.1 && (Wa d.2.toNat).any fun v => Wb v == Wb u
theorem SE : ∀ s, s < 3 -> ∀ t, t < 3 -> Wb s = Wb t -> ∀ u ∈ Wa s, ∃ v ∈ Wa t, Wb v = Wb u := by decide
theorem SF {s t p u : Nat} {b : Ar} (hs : s < 3) (ht : t < 3) (e : Wb s = Wb t) (hp : p ∈ Wa s) (hb : b ∈ W8.getD p []) (h0 : b.1 ≠ 0) (hu : u ∈ Wa b.2.toNat) : ∃ q ∈ Wa t, ∃ d ∈ W8.getD q [], d.1 = b.1 /\ ∃ v ∈ Wa d.2.toNat, Wb v = Wb u := by
 have h : Ta = true := by kernel_rfl
 have h1 := List.all_eq_true.1 (List.all_eq_true.1 h s (List.mem_range.2 hs)) t (List.mem_range.2 ht)
 have h2 : (Wb s != Wb t) = false := by simp [e]
 rw [h2, Bool.false_or] at h1
 have h3 := List.all_eq_true.1 (List.all_eq_true.1 h1 p hp) b hb
 have h4 : (b.1 == 0) = false := by simpa using h0
 rw [h4, Bool.false_or] at h3
 obtain ⟨q, hq, h5⟩ := List.any_eq_true.1 (List.all_eq_true.1 h3 u hu)
 obtain ⟨d, hd, h6⟩ := List.any_eq_true.1 h5
 rw [Bool.and_eq_true, beq_iff_eq] at h6
 obtain ⟨v, hv, h7⟩ := List.any_eq_true.1 h6.2
 exact ⟨q, hq, d, hd, h6.1, v, hv, beq_iff_eq.1 h7⟩
theorem RX : ∀ s, s < 3 -> ∀ b ∈ W8.getD s [], b.2.toNat < 3 := by decide
theorem SG : MtW W8 Wb W8 Wb := by
 intro s t hs ht e
 have hs : s < 3 := hs
 have ht : t < 3 := ht
 refine ⟨fun d => absurd d (RW hs), fun a ha => ?_⟩
 obtain ⟨u, hu, hw, ha2⟩ := (Cj ME hs).1 ha
 rcases hw with ⟨h0, hr⟩ | ⟨h0, p, hp, b, hb, h1, h2⟩
 ·obtain ⟨v, hv, hk⟩ := SE s hs t ht e u ((GM hs).1 hr)
  exact ⟨(0, (v : Int)), (Cj ME ht).2 ⟨v, (Kz t ht v hv).1, .inl ⟨rfl, (GM ht).2 hv⟩, rfl⟩, h0.symm, by rw [ha2]; exact hk⟩
 have hp8 := (Kz s hs p ((GM hs).1 hp)).1
 have hb8 := RX p hp8 b hb
 obtain ⟨q, hq, d, hd, hde, v, hv, hk⟩ := SF hs ht e ((GM hs).1 hp) hb (by rw [h1]; exact h0) ((GM hb8).1 h2)
 have hq8 := (Kz t ht q hq).1
 have hd8 := RX q hq8 d hd
 exact ⟨(a.1, (v : Int)), (Cj ME ht).2 ⟨v, (Kz _ hd8 v hv).1, .inr ⟨h0, q, (GM ht).2 hq, d, hd, by rw [hde, h1], (GM hd8).2 hv⟩, rfl⟩, rfl, by rw [ha2]; exact hk⟩
theorem Tc {B : List Bool} {c : List Int} (hB : DvL W8 B) (hc : VJ W8 c) : ∀ s, s < 3 -> W0 W8 B c s = false := by
 have hb : ∀ s, s < 3 -> B.getD s false = false := fun s hs => by
  cases e : B.getD s false with
  | false => rfl
  | true => exact absurd ((hB.2 s hs).1 e) (RW hs)
 have h01 : c.getD 1 0 = c.getD 0 0 := SG.le ME (by decide) hc (by decide) (by decide) rfl
 intro s hs
 unfold W0
 rw [hb s hs]
 match s, hs with
 | 0, _ => simp [W8, UT]; exact h01
 | 1, _ => simp [W8, UT]
 | 2, _ => simp [W8, UT]
theorem RY : FC Tryd.prog 6 [BS W8] [] (fun r o => o = [] /\ r = .b true) :=
 (Ou W8 ME (by decide) (by decide)).mono fun r o ⟨B, c, p, hB, hc, hN, hp, h1, h2⟩ => by
  refine ⟨h1, ?_⟩
  rw [h2]
  congr 1
  refine List.all_eq_true.2 fun s hs => ?_
  rw [Tc hB hc s (Cf.1 hs).1]; rfl
structure Cstep where
 k : Int
 s : List Int
 m : List Ar
 o : List Ar
 R : List (List Ar)
def Cstep.cells (x : Cstep) : List C := [.v (.int .i64 x.k), .t 1 (Af x.s), .t 2 (Al x.m), .t 2 (Al x.o), .t 1 (Ae x.R)]
def Da (x : Int) : Bool := decide (x >= 2) && decide (x <= 1025)
attribute [local go_sem] List.set_cons_zero List.set_cons_succ List.map_cons List.map_nil List.take_succ_cons List.take_zero List.drop_zero List.drop_succ_cons C.pl C.one List.all_cons List.all_nil Bool.and_true
theorem CU {x : Int} : Da x = true ↔ D8 x := by simp [Da, D8]
theorem JN {x : Int} : Da x = false ↔ ¬ D8 x := by rw [<- CU]; simp
end Go.Proofs.YtjijjfkalheokaaDoor
