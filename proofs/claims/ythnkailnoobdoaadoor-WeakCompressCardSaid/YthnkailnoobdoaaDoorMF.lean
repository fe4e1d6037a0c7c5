/- Lemmas. -/
import Derived.Test.YthnkailnoobdoaaDoorZk
import Derived.Test.YthnkailnoobdoaaDoorTy
import Derived.Test.YthnkailnoobdoaaDoorME
import Derived.Test.YthnkailnoobdoaaDoorTs1
import Derived.Test.YthnkailnoobdoaaDoorMD
namespace Go.Proofs.YthnkailnoobdoaaDoor
set_option linter.unusedVariables false
set_option linter.unusedSimpArgs false
open Go.RowKit

def Ad (xs : List Int) : List Tr := xs.map fun x => .v (.int .i64 x)
def AC (xs : List Int) : AV := .a (.c (.t 1 (Ad xs)))
def Ch (L : List (List Int)) : List Tr := L.map fun r => .l 1 (Ad r)
def BS (L : List (List Int)) : AV := .a (.c (.t 1 (Ch L)))
def Au (xs : List (Int × Int)) : List Tr := xs.flatMap fun a => [.v (.int .i64 a.1), .v (.int .i64 a.2)]
def IL (xs : List (Int × Int)) : AV := .a (.c (.t 2 (Au xs)))
def Ao (R : List (List (Int × Int))) : List Tr := R.map fun r => .l 2 (Au r)
def CC (R : List (List (Int × Int))) : AV := .a (.g [.t 1 (Ao R)])
theorem A2 (xs : List Int) : (Ad xs).length = xs.length := by simp [Ad]
theorem Ca (xs : List (List Int)) : (Ch xs).length = xs.length := by simp [Ch]
theorem Ac (xs : List (List (Int × Int))) : (Ao xs).length = xs.length := by simp [Ao]
theorem A3 (xs : List (Int × Int)) : (Au xs).length = xs.length * 2 := by
 induction xs with
 | nil => rfl
 | cons x r ih => simp only [Au, List.flatMap_cons, List.length_append, List.length_cons, List.length_nil] at ih ⊢; omega
theorem Ai {xs : List Int} {i : Nat} {x : Int} (h : xs[i]? = some x) : (Ad xs)[i]? = some (.v (.int .i64 x)) := by simp [Ad, h]
theorem Ec {xs : List (List Int)} {i : Nat} {x : List Int} (h : xs[i]? = some x) : (Ch xs)[i]? = some (.l 1 (Ad x)) := by simp [Ch, h]
theorem Bl {xs : List (List (Int × Int))} {i : Nat} {x : List (Int × Int)} (h : xs[i]? = some x) : (Ao xs)[i]? = some (.l 2 (Au x)) := by simp [Ao, h]
theorem NO (xs : List Int) : (Ad xs).map C.ofTr = xs.map fun x => .v (.int .i64 x) := by simp [Ad, C.ofTr, Function.comp_def]
theorem D2 (ρ : List Nat) (ts : List Tr) : (ts.map C.ofTr).map (C.ren ρ) = ts.map C.ofTr := by
 simp only [List.map_map]
 exact List.map_congr_left fun t _ => by cases t <;> rfl
theorem Qf (f : Nat -> Nat) (ts : List Tr) : (ts.map C.ofTr).map (C.up f) = ts.map C.ofTr := by
 simp only [List.map_map]
 exact List.map_congr_left fun t _ => by cases t <;> rfl
attribute [go_sem] D2 Qf
set_option maxRecDepth 100000 in
theorem Gy (ts : List Tr) (hn : ts.length <= 100000000) : FC Tryd.prog 38 [.a (.c (.t 2 ts))] [] (fun r o => r = .a (.c (.s 0 (ts.length / 2))) /\ o = [.r ⟨37, 2, true, ts.map C.ofTr⟩]) := by
 refine Af Tryd.func38 rfl (by rw [Tryd.ntmps38]; simp) ?_
 rw [Tryd.ntmps38]
 simp only [C2]
 (refine UW ?_;(repeat clear hK K);repeat refine kq fun K hK=>?_)
 refine Aa rfl ?_; intro K1 hK1
 refine Lw rfl rfl Tryd.underlying38 (.inl rfl) (.inl ⟨2, ts, by simp only [go_sem], ?_⟩)
 intro b hb
 simp only [go_sem]
 refine hK1 _ ?_; clear hK1 K1
 (refine UW ?_;(repeat clear hK K);repeat refine kq fun K hK=>?_)
 (refine As ?_; intro X Y hX hY; simp only [go_sem])
 refine ⟨fun h => hX ?_, fun h => hY ?_⟩
 ·have hts := hb h
  subst hts
  (refine UW ?_;(repeat clear hK K);repeat refine kq fun K hK=>?_)
  refine AM ?_
  simp only [Ag]
  refine BG (Fv 2 37 2 ?_) ?_
  ·simp only [go_sem]
  exact RH Tryd.results38
 clear hX hY X Y
 (refine UW ?_;(repeat clear hK K);repeat refine kq fun K hK=>?_)
 refine AM ?_
 refine BG (Ae [1] rfl rfl) ?_
 (try simp only [List.set_nil, List.take_nil, List.take_zero, List.map_append, go_sem])
 exact RH Tryd.results38
end Go.Proofs.YthnkailnoobdoaaDoor
namespace Go.Proofs.YthnkailnoobdoaaDoor
set_option linter.unusedVariables false
set_option linter.unusedSimpArgs false
open Go.RowKit
set_option maxRecDepth 100000


end Go.Proofs.YthnkailnoobdoaaDoor
namespace Go.Proofs.YthnkailnoobdoaaDoor
set_option linter.unusedVariables false
set_option linter.unusedSimpArgs false
open Go.RowKit
set_option maxRecDepth 100000

end Go.Proofs.YthnkailnoobdoaaDoor
namespace Go.Proofs.YthnkailnoobdoaaDoor
set_option linter.unusedVariables false
set_option linter.unusedSimpArgs false

abbrev Ar := Int × Int
def Vd (a b : Ar) : Bool := decide (a.1 < b.1) || (a.1 == b.1 && decide (a.2 < b.2))
theorem CD {a b : Ar} : Vd a b = true ↔ a.1 < b.1 \/ (a.1 = b.1 /\ a.2 < b.2) := by simp [Vd]
theorem Ey (a : Ar) : Vd a a = false := by simp [Vd]
theorem Ee {a b c : Ar} (h1 : Vd a b = true) (h2 : Vd b c = true) : Vd a c = true := by
 rw [CD] at *; omega
theorem GW (a b : Ar) : Vd a b = true \/ a = b \/ Vd b a = true := by
 rw [CD, CD]
 obtain ⟨a1, a2⟩ := a
 obtain ⟨b1, b2⟩ := b
 simp only [Prod.mk.injEq]
 omega
def Db (x : Ar) : List Ar -> List Ar
 | [] => [x]
 | y :: ys => if Vd y x then y :: Db x ys else if y = x then y :: ys else x :: y :: ys
theorem Fc (x a : Ar) (l : List Ar) : a ∈ Db x l ↔ a = x \/ a ∈ l := by
 induction l with
 | nil => simp [Db]
 | cons y ys ih =>
  simp only [Db]
  split
  ·simp [ih]; constructor <;> (intro h; rcases h with h | h | h <;> simp [h])
  split
  ·rename_i h; subst h; simp
  simp
theorem Fd (x : Ar) (l : List Ar) : (Db x l).length <= l.length + 1 := by
 induction l with
 | nil => simp [Db]
 | cons y ys ih =>
  simp only [Db]
  split
  ·simp; omega
  split <;> simp
def SortA (l : List Ar) : Prop := l.Pairwise fun a b => Vd a b = true
theorem FJ {x : Ar} {l : List Ar} (h : SortA l) : SortA (Db x l) := by
 unfold SortA at *
 induction l with
 | nil => simp [Db]
 | cons y ys ih =>
  rw [List.pairwise_cons] at h
  simp only [Db]
  split
  ·rename_i hl
   rw [List.pairwise_cons]
   refine ⟨fun a ha => ?_, ih h.2⟩
   rcases (Fc x a ys).1 ha with rfl | ha
   ·exact hl
   exact h.1 a ha
  split
  ·exact List.pairwise_cons.2 h
  rename_i hl hne
  have hxy : Vd x y = true := by
   rcases GW x y with h | h | h
   ·exact h
   ·exact absurd h.symm hne
   exact absurd h hl
  rw [List.pairwise_cons]
  refine ⟨fun a ha => ?_, List.pairwise_cons.2 h⟩
  rcases List.mem_cons.1 ha with rfl | ha
  ·exact hxy
  exact Ee hxy (h.1 a ha)
theorem LN {x : Ar} : ∀ {xs : List Ar} {k : Nat}, k <= xs.length -> (∀ i y, i < k -> xs[i]? = some y -> Vd y x = true) -> (∀ y, xs[k]? = some y -> Vd y x = false /\ y ≠ x) -> Db x xs = xs.take k ++ x :: xs.drop k
 | [], k, hk, _, _ => by simp at hk; subst hk; rfl
 | y :: ys, 0, _, _, h2 => by
  obtain ⟨h3, h4⟩ := h2 y rfl
  simp only [Db, List.take_zero, List.drop_zero, List.nil_append]
  rw [if_neg (by rw [h3]; simp), if_neg h4]
 | y :: ys, k + 1, hk, h1, h2 => by
  have := h1 0 y (by omega) rfl
  simp only [Db, List.take_succ_cons, List.drop_succ_cons, List.cons_append]
  rw [if_pos this, LN (by simpa using hk) (fun i z hi hz => h1 (i + 1) z (by omega) hz) (fun z hz => h2 z hz)]
theorem JD {x : Ar} : ∀ {xs : List Ar} {k : Nat}, (∀ i y, i < k -> xs[i]? = some y -> Vd y x = true) -> xs[k]? = some x -> Db x xs = xs
 | [], k, _, h => by simp at h
 | y :: ys, 0, _, h => by simp at h; subst h; simp [Db, Ey]
 | y :: ys, k + 1, h1, h => by
  have := h1 0 y (by omega) rfl
  simp only [Db]
  rw [if_pos this, JD (fun i z hi hz => h1 (i + 1) z (by omega) hz) h]
def OkRow (k m : Nat) (r : List Ar) : Prop := SortA r /\ r.length <= k /\ ∀ a ∈ r, 0 <= a.1 /\ a.1 <= 1025 /\ 0 <= a.2 /\ a.2 < m
def OkSys (k m : Nat) (R : List (List Ar)) : Prop := R.length = m /\ ∀ r ∈ R, OkRow k m r
theorem OkRow.ins {k m : Nat} {r : List Ar} (h : OkRow k m r) {x : Ar} (hx : 0 <= x.1 /\ x.1 <= 1025 /\ 0 <= x.2 /\ x.2 < m) : OkRow (k + 1) m (Db x r) :=
 ⟨FJ h.1, Nat.le_trans (Fd x r) (by have := h.2.1; omega), fun a ha => by
  rcases (Fc x a r).1 ha with rfl | ha
  ·exact hx
  ·exact h.2.2 a ha⟩
theorem OkRow.le {k k' m : Nat} {r : List Ar} (h : OkRow k m r) (hk : k <= k') : OkRow k' m r := ⟨h.1, Nat.le_trans h.2.1 hk, h.2.2⟩
theorem OkSys.le {k k' m : Nat} {R : List (List Ar)} (h : OkSys k m R) (hk : k <= k') : OkSys k' m R := ⟨h.1, fun r hr => (h.2 r hr).le hk⟩
theorem OkSys.set {k m : Nat} {R : List (List Ar)} (h : OkSys k m R) {r : List Ar} (hr : OkRow k m r) (s : Nat) : OkSys k m (R.set s r) :=
 ⟨by simp [h.1], fun q hq => by
  rcases List.mem_or_eq_of_mem_set hq with hq | rfl
  ·exact h.2 q hq
  ·exact hr⟩

/-! trees and cells -/
open Go.RowKit
def Am (xs : List Ar) : List C := xs.flatMap fun a => [C.v (.int .i64 a.1), C.v (.int .i64 a.2)]
def Bm (R : List (List Ar)) : List C := R.map fun r => C.t 2 (Au r)
theorem Aj (xs : List Ar) : (Am xs).length = xs.length * 2 := by
 induction xs with
 | nil => rfl
 | cons x r ih =>
  have : Am (x :: r) = [C.v (.int .i64 x.1), C.v (.int .i64 x.2)] ++ Am r := rfl
  rw [this, List.length_append, ih, List.length_cons]; simp; omega
theorem CK (xs ys : List Ar) : Am xs ++ Am ys = Am (xs ++ ys) := by simp [Am]
theorem C4 (xs : List Ar) (x y : Int) : Am xs ++ [.v (.int .i64 x), .v (.int .i64 y)] = Am (xs ++ [(x, y)]) := by simp [Am]
theorem FK (xs : List Ar) : (Am xs).all C.one = true := by simp [Am, C.one]
theorem Df (xs : List Ar) : (Au xs).map C.ofTr = Am xs := by simp [Au, Am, List.map_flatMap, C.ofTr]
theorem Ez {α β : Type} (f : α -> List β) (hf : ∀ a, (f a).length = 2) : ∀ (xs : List α) (n : Nat), (xs.flatMap f).take (n * 2) = (xs.take n).flatMap f
 | [], n => by simp
 | x :: r, 0 => by simp
 | x :: r, n + 1 => by
  simp only [List.flatMap_cons, List.take_succ_cons]
  rw [show (n + 1) * 2 = (f x).length + n * 2 by rw [hf]; omega, List.take_length_add_append, Ez f hf r n]
theorem Gz {α β : Type} (f : α -> List β) (hf : ∀ a, (f a).length = 2) : ∀ (xs : List α) (n : Nat), (xs.flatMap f).drop (n * 2) = (xs.drop n).flatMap f
 | [], n => by simp
 | x :: r, 0 => by simp
 | x :: r, n + 1 => by
  simp only [List.flatMap_cons, List.drop_succ_cons]
  rw [show (n + 1) * 2 = (f x).length + n * 2 by rw [hf]; omega, List.drop_length_add_append, Gz f hf r n]
theorem Bp (xs : List Ar) (n : Nat) : (Au xs).take (n * 2) = Au (xs.take n) := Ez _ (fun _ => rfl) xs n
theorem Dw (xs : List Ar) (n : Nat) : (Au xs).drop (n * 2) = Au (xs.drop n) := Gz _ (fun _ => rfl) xs n
theorem CL (xs : List Ar) (n : Nat) : (Am xs).take (n * 2) = Am (xs.take n) := Ez _ (fun _ => rfl) xs n
theorem Bi {xs : List Ar} {i : Nat} (h : i < xs.length) : (((Au xs).drop (i * 2)).take 2) = [.v (.int .i64 xs[i].1), .v (.int .i64 xs[i].2)] := by
 rw [Dw]
 have e : xs.drop i = xs[i] :: xs.drop (i + 1) := List.drop_eq_getElem_cons h
 rw [e]
 rfl
theorem F3 (L : List Ar) : Fz (Am L) (Au L) := by
 unfold Am Au
 exact Fz.flatMap fun x _ => ⟨.inl rfl, .inl rfl, trivial⟩
theorem Bw (xs : List (List Ar)) : (Bm xs).length = xs.length := by simp [Bm]
theorem FL {xs : List (List Ar)} {i : Nat} {x : List Ar} (h : xs[i]? = some x) : (Bm xs)[i]? = some (.t 2 (Au x)) := by simp [Bm, h]
theorem HY (xs : List (List Ar)) (i : Nat) (x : List Ar) : (Bm xs).set i (.t 2 (Au x)) = Bm (xs.set i x) := by simp [Bm, List.map_set]
theorem Dg (f : List Nat) (L : List (List Ar)) : (Bm L).map (C.ren f) = Bm L := by simp [Bm, C.ren, Function.comp_def]
theorem D3 (f : Nat -> Nat) (L : List (List Ar)) : (Bm L).map (C.up f) = Bm L := by simp [Bm, C.up, Function.comp_def]
theorem KH (L : List (List Ar)) : Fz (Bm L) (Ao L) := by unfold Bm Ao; exact Fz.map fun x _ => .inl rfl
open Go.RowKit
set_option maxRecDepth 100000
theorem JE (x : Int) : FC Tryd.prog 78 [.i x] [] (fun r o => o = [] /\ r = .b false) := by
 refine Af Tryd.func78 rfl (by rw [Tryd.ntmps78]; simp) ?_
 rw [Tryd.ntmps78]
 simp only [C2]
 (repeat (first | (refine Ah ?_; intro K hK) | refine A8 ?_ | refine A5 ?_ | (refine AE rfl rfl ?_; intro K1 hK1; simp only [go_sem, bne_self_eq_false]; (first | refine hK1 _ ?_ | refine Aw (hK1 _ ?_)); clear hK1 K1) | ((first | refine A6 ?_ | refine A9 ?_); refine hK _ ?_; clear hK K)))
 exact RH Tryd.results78
def F4 (a b : Int) : Int := if a < b then -1 else if a > b then 1 else 0
theorem JF (x y : Int) : FC Tryd.prog 59 [.i x, .i y] [] (fun r o => o = [] /\ r = .i (F4 x y)) := by
 refine Af Tryd.func59 rfl (by rw [Tryd.ntmps59]; simp) ?_
 rw [Tryd.ntmps59]
 simp only [C2]
 (refine UW ?_;(repeat clear hK K);repeat refine kq fun K hK=>?_)
 (refine V1 (JE x) ?_; intro K1 hK1)
 rintro _ _ ⟨rfl, rfl⟩
 (refine V3 ?_; clear hK1 K1)
 (refine UW ?_;(repeat clear hK K);repeat refine kq fun K hK=>?_)
 (refine V1 (JE y) ?_; intro K1 hK1)
 rintro _ _ ⟨rfl, rfl⟩
 (refine V3 ?_; clear hK1 K1)
 (refine UW ?_;(repeat clear hK K);repeat refine kq fun K hK=>?_)
 (refine As ?_; intro X Y hX hY; simp only [go_sem])
 refine hY ?_; clear hX hY X Y
 (refine UW ?_;(repeat clear hK K);repeat refine kq fun K hK=>?_)
 (refine As ?_; intro X Y hX hY; simp only [go_sem])
 refine hY ?_; clear hX hY X Y
 (refine UW ?_;(repeat clear hK K);repeat refine kq fun K hK=>?_)
 (refine As ?_; intro X Y hX hY; simp only [go_sem])
 refine ⟨fun h => hX ?_, fun h => hY ?_⟩
 ·clear hX hY X Y
  (refine UW ?_;(repeat clear hK K);repeat refine kq fun K hK=>?_)
  refine Va Tryd.results59 ?_
  have : x < y := by simpa using h
  simp [F4, this]
 clear hX hY X Y
 have h1 : ¬ x < y := by simpa using h
 clear h
 (refine UW ?_;(repeat clear hK K);repeat refine kq fun K hK=>?_)
 (refine As ?_; intro X Y hX hY; simp only [go_sem])
 refine ⟨fun h => hX ?_, fun h => hY ?_⟩
 ·clear hX hY X Y
  (refine UW ?_;(repeat clear hK K);repeat refine kq fun K hK=>?_)
  refine Va Tryd.results59 ?_
  have : y < x := by simpa using h
  simp [F4, this, h1]
 clear hX hY X Y
 (refine UW ?_;(repeat clear hK K);repeat refine kq fun K hK=>?_)
 refine Va Tryd.results59 ?_
 have : ¬ y < x := by simpa using h
 simp [F4, this, h1]
theorem NP {α : Type} {xs : List α} {k : Nat} (h : k < xs.length) : xs.drop k = xs[k] :: xs.drop (k + 1) := List.drop_eq_getElem_cons h
theorem EV {P : Program} {ops : Array Oper} {l : List Oper} {st t : ST} {K : ST -> Prop} (h : Le st t) (k : Uk P ops l t K) : Uk P ops l st K := fun M0 w0 a w Q hR hN => k M0 w0 a w Q (h M0 w0 a w hR) hN
def FM (a b : Ar) : Int := if F4 a.1 b.1 ≠ 0 then F4 a.1 b.1 else F4 a.2 b.2
theorem LO (a b : Int) : (a < b /\ F4 a b = -1) \/ (a = b /\ F4 a b = 0) \/ (b < a /\ F4 a b = 1) := by
 unfold F4
 rcases Int.lt_trichotomy a b with h | h | h
 ·exact .inl ⟨h, by simp [h]⟩
 ·exact .inr (.inl ⟨h, by simp [h]⟩)
 exact .inr (.inr ⟨h, by rw [if_neg (by omega), if_pos h]⟩)
theorem Cn (a b : Ar) : decide (FM a b < 0) = Vd a b := by
 rw [Bool.eq_iff_iff, decide_eq_true_iff, CD]
 unfold FM
 rcases LO a.1 b.1 with ⟨h, e⟩ | ⟨h, e⟩ | ⟨h, e⟩ <;> rw [e]
 ·simp; omega
 ·rcases LO a.2 b.2 with ⟨h2, e2⟩ | ⟨h2, e2⟩ | ⟨h2, e2⟩ <;> rw [e2] <;> simp <;> omega
 simp; omega
theorem LP (a b : Ar) : decide (FM a b >= 0) = !Vd a b := by
 rw [<- Cn, Bool.eq_iff_iff, decide_eq_true_iff, Bool.not_eq_true', decide_eq_false_iff_not]
 omega
instance decSortA (l : List Ar) : Decidable (SortA l) := inferInstanceAs (Decidable (List.Pairwise (fun a b => Vd a b = true) l))
theorem LQ {xs : List Ar} (h : ∀ i a b, xs[i]? = some a -> xs[i + 1]? = some b -> Vd a b = true) : SortA xs := by
 unfold SortA
 induction xs with
 | nil => exact .nil
 | cons a r ih =>
  have h2 := ih fun i x y hx hy => h (i + 1) x y (by simpa using hx) (by simpa using hy)
  rw [List.pairwise_cons]
  refine ⟨fun b hb => ?_, h2⟩
  cases r with
  | nil => simp at hb
  | cons c q =>
   have h1 := h 0 a c rfl rfl
   rcases List.mem_cons.1 hb with rfl | hb
   ·exact h1
   exact Ee h1 ((List.pairwise_cons.1 h2).1 b hb)
theorem SortA.at {xs : List Ar} (h : SortA xs) {i j : Nat} {a b : Ar} (hij : i < j) (ha : xs[i]? = some a) (hb : xs[j]? = some b) : Vd a b = true := by
 have h1 := List.getElem?_eq_some_iff.1 ha
 have h2 := List.getElem?_eq_some_iff.1 hb
 have := List.pairwise_iff_getElem.1 h i j h1.1 h2.1 hij
 rwa [h1.2, h2.2] at this
theorem LS {xs : List Ar} {i : Nat} {a b : Ar} (ha : xs[i]? = some a) (hb : xs[i + 1]? = some b) (h : Vd a b = false) : ¬ SortA xs := fun hs => by
 have := hs.at (by omega) ha hb
 rw [h] at this; cases this
def Qg (x : Int) : Prop := 2 <= x /\ x <= 1025
instance decChanP (x : Int) : Decidable (Qg x) := inferInstanceAs (Decidable (_ /\ _))
theorem NQ {xs : List Ar} {i : Nat} (h : i < xs.length) : (Au xs)[i * 2]? = some (.v (.int .i64 xs[i].1)) := by
 have := Bi h
 have e : ((Au xs).drop (i * 2))[0]? = some (.v (.int .i64 xs[i].1)) := by
  rw [<- List.getElem?_take_of_lt (show 0 < 2 by omega), this]; rfl
 simpa using e
theorem NR {xs : List Ar} {i : Nat} (h : i < xs.length) : (Au xs)[i * 2 + 1]? = some (.v (.int .i64 xs[i].2)) := by
 have := Bi h
 have e : ((Au xs).drop (i * 2))[1]? = some (.v (.int .i64 xs[i].2)) := by
  rw [<- List.getElem?_take_of_lt (show 1 < 2 by omega), this]; rfl
 simpa using e
def TW (o : List Ar) : Prop := SortA o /\ (∀ a ∈ o, Qg a.1 /\ Qg a.2 /\ a.1 ≠ a.2) /\ ∀ x ∈ o, ∀ y ∈ o, y.1 = x.2 -> (x.1, y.2) ∈ o
instance decOrdP (o : List Ar) : Decidable (TW o) := inferInstanceAs (Decidable (_ /\ _ /\ _))
def AA (R : List (List Ar)) : Nat := (R.map List.length).sum
theorem HZ (R : List (List Ar)) (r : List Ar) : AA (R ++ [r]) = AA R + r.length := by simp [AA]
theorem Cb {R : List (List Ar)} {k : Nat} (h : k < R.length) : AA (R.take (k + 1)) = AA (R.take k) + R[k].length := by
 rw [gE8 h, HZ]
theorem GX (R : List (List Ar)) (k : Nat) : AA (R.take k) <= AA R := by
 have : AA R = AA (R.take k) + AA (R.drop k) := by
  unfold AA
  rw [<- List.sum_append, <- List.map_append, List.take_append_drop]
 omega
def RI : Nat := 16384
def RJ : Nat := 262144
def S9 (R : List (List Ar)) : Prop := 1 <= R.length /\ R.length <= RI /\ AA R <= RJ /\ ∀ r ∈ R, ∀ a ∈ r, 0 <= a.1 /\ a.1 <= 1025 /\ 0 <= a.2 /\ a.2 < (R.length : Int)
instance decLooP (R : List (List Ar)) : Decidable (S9 R) := inferInstanceAs (Decidable (_ /\ _ /\ _ /\ _))
def Bd (R : List (List Ar)) : Bool := decide (S9 R)
def AR (R : List (List Ar)) : Bool := decide (S9 R /\ ∀ r ∈ R, SortA r)
theorem Qh {R : List (List Ar)} (h : Bd R = false) : AR R = false := by
 rw [Bd, decide_eq_false_iff_not] at h
 rw [AR, decide_eq_false_iff_not]
 exact fun h2 => h h2.1
def Bj (r : List Ar) : List Ar := r.foldl (fun acc a => Db a acc) []
def AF (num old : List Int) (t : Int) : List Int × List Int := if num.getD t.toNat 0 < 0 then (num.set t.toNat old.length, old ++ [t]) else (num, old)
def D4 : List Ar -> List Int -> List Int -> List Ar -> List Int × List Int × List Ar
 | [], num, old, nxt => (num, old, nxt)
 | a :: tl, num, old, nxt => D4 tl (AF num old a.2).1 (AF num old a.2).2 (Db (a.1, (AF num old a.2).1.getD a.2.toNat 0) nxt)
def BE (rows : List (List Ar)) : Nat -> Nat -> List Int -> List Int -> List (List Ar) -> List (List Ar) × List Int
 | 0, _, _, old, out => (out, old)
 | f + 1, i, num, old, out => match old[i]? with
  | none => (out, old)
  | some s => BE rows f (i + 1) (D4 (Bj (rows.getD s.toNat [])) num old []).1 (D4 (Bj (rows.getD s.toNat [])) num old []).2.1 (out ++ [(D4 (Bj (rows.getD s.toNat [])) num old []).2.2])
def AG (rows : List (List Ar)) : List (List Ar) × List Int := BE rows rows.length 0 ((List.replicate rows.length (-1)).set 0 0) [0] []

theorem Ef (r acc : List Ar) (a : Ar) : a ∈ r.foldl (fun acc a => Db a acc) acc ↔ a ∈ acc \/ a ∈ r := by
 induction r generalizing acc with
 | nil => simp
 | cons x xs ih => rw [List.foldl_cons, ih, Fc, List.mem_cons, or_comm (a := a = x), or_assoc]
theorem B0 (r : List Ar) (a : Ar) : a ∈ Bj r ↔ a ∈ r := by unfold Bj; rw [Ef]; simp
theorem Eg (r acc : List Ar) : (r.foldl (fun acc a => Db a acc) acc).length <= acc.length + r.length := by
 induction r generalizing acc with
 | nil => simp
 | cons x xs ih => rw [List.foldl_cons, List.length_cons]; have := ih (Db x acc); have := Fd x acc; omega
theorem FN (r : List Ar) : (Bj r).length <= r.length := by have := Eg r []; simpa [Bj] using this

structure NumOk (n : Nat) (num old : List Int) : Prop where
 len : num.length = n
 rng : ∀ x ∈ num, -1 <= x /\ x < n
 st : ∀ s ∈ old, 0 <= s /\ s < n
 cnt : old.length + num.countP (fun x => decide (x < 0)) = n
theorem KI {p : Int -> Bool} {l : List Int} {i : Nat} {x y : Int} (h : l[i]? = some x) (hx : p x = true) (hy : p y = false) : (l.set i y).countP p + 1 = l.countP p := by
 induction l generalizing i with
 | nil => simp at h
 | cons z zs ih =>
  cases i with
  | zero => simp at h; subst h; simp [List.countP_cons, hx, hy]
  | succ i =>
   simp only [List.getElem?_cons_succ] at h
   have := ih h
   simp only [List.set_cons_succ, List.countP_cons]
   omega
theorem NumOk.le {n : Nat} {num old : List Int} (h : NumOk n num old) : old.length <= n := by have := h.cnt; omega
theorem NumOk.get {n : Nat} {num old : List Int} (h : NumOk n num old) {t : Int} (h0 : 0 <= t) (h1 : t < n) : ∃ x, num[t.toNat]? = some x /\ num.getD t.toNat 0 = x /\ -1 <= x /\ x < n := by
 have hl : t.toNat < num.length := by rw [h.len]; omega
 exact ⟨num[t.toNat], gE1 hl, by simp [hl], h.rng _ (gE6 hl)⟩
theorem NumOk.one {n : Nat} {num old : List Int} (h : NumOk n num old) {t : Int} (h0 : 0 <= t) (h1 : t < n) : NumOk n (AF num old t).1 (AF num old t).2 := by
 obtain ⟨x, hx, hd, hb⟩ := h.get h0 h1
 unfold AF
 rw [hd]
 split
 rotate_left
 ·exact h
 rename_i hneg
 have hc := KI (p := fun x => decide (x < 0)) (y := (old.length : Int)) hx (by simpa using hneg) (by simp)
 have hcnt := h.cnt
 refine ⟨by simp [h.len], fun y hy => ?_, fun s hs => ?_, by simp; omega⟩
 ·rcases List.mem_or_eq_of_mem_set hy with hy | hy
  ·exact h.rng y hy
  subst hy; omega
 rcases List.mem_append.1 hs with hs | hs
 ·exact h.st s hs
 simp at hs; subst hs; exact ⟨h0, h1⟩
theorem NumOk.go {n : Nat} : ∀ (r : List Ar) {num old : List Int} (nxt : List Ar), NumOk n num old -> (∀ a ∈ r, 0 <= a.2 /\ a.2 < n) -> NumOk n (D4 r num old nxt).1 (D4 r num old nxt).2.1
 | [], _, _, _, h, _ => h
 | a :: tl, _, _, nxt, h, hr => NumOk.go tl _ (h.one (hr a (by simp)).1 (hr a (by simp)).2) (fun b hb => hr b (gEf _ hb))
theorem NumOk.start {n : Nat} (hn : 0 < n) : NumOk n ((List.replicate n (-1)).set 0 0) [0] := by
 obtain ⟨k, rfl⟩ : ∃ k, n = k + 1 := ⟨n - 1, by omega⟩
 refine ⟨by simp, fun x hx => ?_, fun s hs => ?_, ?_⟩
 rotate_left
 ·simp at hs; subst hs; omega
 ·simp [List.replicate_succ, List.countP_replicate]; omega
 rcases List.mem_or_eq_of_mem_set hx with h | h
 ·rw [(List.mem_replicate.1 h).2]; omega
 subst h; omega


theorem KJ {rows : List (List Ar)} {f i : Nat} {num old : List Int} {out : List (List Ar)} (h : old.length <= i) : BE rows f i num old out = (out, old) := by
 cases f with
 | zero => rfl
 | succ f => simp [BE, List.getElem?_eq_none h]
theorem KK {rows : List (List Ar)} {n i : Nat} {num old : List Int} {out : List (List Ar)} {s : Int} {r : List Ar} (hi : i < n) (hs : old[i]? = some s) (hr : rows[s.toNat]? = some r) {row : List Ar} (hrow : row = Bj r) :
  BE rows (n - i) i num old out = BE rows (n - (i + 1)) (i + 1) (D4 row num old []).1 (D4 row num old []).2.1 (out ++ [(D4 row num old []).2.2]) := by
 obtain ⟨m, hm⟩ : ∃ m, n - i = m + 1 := ⟨n - i - 1, by omega⟩
 have hm' : n - (i + 1) = m := by omega
 rw [hm, hm', BE, hs, hrow]
 have : rows.getD s.toNat [] = r := by simp [List.getD, hr]
 simp only [this]

def Dh (p : Ar) : List Ar -> List Ar
 | [] => []
 | y :: ys => if y = p then Dh p ys else y :: Dh y ys
def NS : List Ar -> List Ar
 | [] => []
 | x :: xs => x :: Dh x xs


theorem BQ : ∀ {l m : List Ar}, SortA l -> SortA m -> (∀ a, a ∈ l ↔ a ∈ m) -> l = m
 | [], [], _, _, _ => rfl
 | [], b :: m, _, _, h => by have := (h b).2 (by simp); simp at this
 | a :: l, [], _, _, h => by have := (h a).1 (by simp); simp at this
 | a :: l, b :: m, hl, hm, h => by
  have hl' := List.pairwise_cons.1 hl
  have hm' := List.pairwise_cons.1 hm
  have hab : a = b := by
   rcases List.mem_cons.1 ((h a).1 (by simp)) with e | e
   ·exact e
   ·rcases List.mem_cons.1 ((h b).2 (by simp)) with e' | e'
    ·exact e'.symm
    ·have h1 := hm'.1 a e
     have h2 := hl'.1 b e'
     rw [CD] at h1 h2; omega
  subst hab
  congr 1
  refine BQ hl'.2 hm'.2 fun c => ⟨fun hc => ?_, fun hc => ?_⟩
  ·rcases List.mem_cons.1 ((h c).1 (gEf _ hc)) with e | e
   ·subst e; have := hl'.1 c hc; rw [Ey] at this; cases this
   ·exact e
  ·rcases List.mem_cons.1 ((h c).2 (gEf _ hc)) with e | e
   ·subst e; have := hm'.1 c hc; rw [Ey] at this; cases this
   ·exact e
def Ve (a b : Ar) : Prop := Vd b a = false
theorem KL (p : Ar) (l : List Ar) (a : Ar) : a ∈ p :: Dh p l ↔ a ∈ p :: l := by
 induction l generalizing p with
 | nil => simp [Dh]
 | cons y ys ih =>
  unfold Dh
  split
  ·rename_i h; subst h; rw [ih]; simp
  have := ih y
  simp only [List.mem_cons] at this ⊢
  rw [this]
theorem GY (p : Ar) (l : List Ar) (h : (p :: l).Pairwise Ve) : SortA (p :: Dh p l) := by
 induction l generalizing p with
 | nil => simp [Dh, SortA]
 | cons y ys ih =>
  have h1 := List.pairwise_cons.1 h
  have h2 := List.pairwise_cons.1 h1.2
  unfold Dh
  split
  ·rename_i e; subst e
   exact ih _ (List.pairwise_cons.2 ⟨fun a ha => h2.1 a ha, h2.2⟩)
  rename_i e
  have hy := ih y h1.2
  refine List.pairwise_cons.2 ⟨fun a ha => ?_, hy⟩
  have hpy : Vd p y = true := by
   have := h1.1 y (by simp)
   rcases GW p y with h | h | h
   ·exact h
   ·exact absurd h.symm e
   unfold Ve at this; rw [h] at this; cases this
  rcases List.mem_cons.1 ha with rfl | ha
  ·exact hpy
  exact Ee hpy ((List.pairwise_cons.1 hy).1 a ha)
theorem Ay (r : List Ar) : SortA (Bj r) := by
 unfold Bj
 have : ∀ (l acc : List Ar), SortA acc -> SortA (l.foldl (fun acc a => Db a acc) acc) := by
  intro l
  induction l with
  | nil => intro acc h; exact h
  | cons x xs ih => intro acc h; exact ih _ (FJ h)
 exact this r [] List.Pairwise.nil
theorem LT {r q : List Ar} (hp : q.Perm r) (h : q.Pairwise Ve) : NS q = Bj r := by
 refine BQ ?_ (Ay r) fun a => ?_
 ·cases q with
  | nil => exact List.Pairwise.nil
  | cons x xs => exact GY x xs h
 rw [B0, <- hp.mem_iff]
 cases q with
 | nil => simp [NS]
 | cons x xs => exact KL x xs a
theorem KM {r q : List Ar} (h : r.Nodup) (hp : q.Perm r) (h1 : q.Pairwise Ve) : q = Bj r := by
 refine BQ ?_ (Ay r) fun a => by rw [B0, hp.mem_iff]
 have h2 := hp.symm.nodup h
 refine (List.pairwise_iff_forall_sublist.2 ?_)
 intro a b hab
 have hle := List.pairwise_iff_forall_sublist.1 h1 hab
 have hne := List.pairwise_iff_forall_sublist.1 h2 hab
 rcases GW a b with h | h | h
 ·exact h
 ·exact absurd h hne
 unfold Ve at hle; rw [h] at hle; cases hle
def Ck : List Ar -> List Int -> List Int -> List Int × List Int × List Ar
 | [], num, old => (num, old, [])
 | a :: tl, num, old =>
  ((Ck tl (AF num old a.2).1 (AF num old a.2).2).1, (Ck tl (AF num old a.2).1 (AF num old a.2).2).2.1,
   (a.1, (AF num old a.2).1.getD a.2.toNat 0) :: (Ck tl (AF num old a.2).1 (AF num old a.2).2).2.2)
theorem EA (r : List Ar) (num old : List Int) (nxt : List Ar) :
  D4 r num old nxt = ((Ck r num old).1, (Ck r num old).2.1, (Ck r num old).2.2.foldl (fun acc a => Db a acc) nxt) := by
 induction r generalizing num old nxt with
 | nil => rfl
 | cons a tl ih => simp only [D4, Ck, ih, List.foldl_cons]
structure NumInj (num old : List Int) : Prop where
 inj : ∀ (t : Nat) (x : Int), num[t]? = some x -> 0 <= x -> old[x.toNat]? = some (t : Int)
theorem NumInj.one {num old : List Int} (h : NumInj num old) {t : Int} (h0 : 0 <= t) (h1 : t < num.length) : NumInj (AF num old t).1 (AF num old t).2 := by
 unfold AF
 split
 rotate_left
 ·exact h
 refine ⟨fun s x hx hp => ?_⟩
 rw [List.getElem?_set] at hx
 split at hx
 ·rename_i hs
  rw [if_pos (by omega)] at hx
  injection hx with hx
  subst hx
  simp
  omega
 have := h.inj s x hx hp
 rw [gEa (List.getElem?_eq_some_iff.1 this).1]
 exact this
theorem EB (num old : List Int) (t : Int) : (AF num old t).1.length = num.length := by unfold AF; split <;> simp
theorem IM {num old : List Int} {t : Int} {s : Nat} {x : Int} (h0 : 0 <= t) (hx : num[s]? = some x) (hp : 0 <= x) : (AF num old t).1[s]? = some x := by
 unfold AF
 split
 rotate_left
 ·exact hx
 rename_i hneg
 simp only [List.getElem?_set]
 split
 rotate_left
 ·exact hx
 rename_i hs
 subst hs
 simp [List.getD, hx] at hneg
 omega
theorem LU {num old : List Int} {t : Int} (h0 : 0 <= t) (h1 : t < num.length) : ∃ x, (AF num old t).1[t.toNat]? = some x /\ 0 <= x := by
 unfold AF
 split
 ·exact ⟨_, by rw [List.getElem?_set, if_pos rfl, if_pos (by omega)], by omega⟩
 rename_i hneg
 have hl : t.toNat < num.length := by omega
 refine ⟨num[t.toNat], gE1 hl, ?_⟩
 simpa [List.getD, gE1 hl] using hneg
theorem I0 (r : List Ar) {num old : List Int} (hr : ∀ a ∈ r, 0 <= a.2) {s : Nat} {x : Int} (hx : num[s]? = some x) (hp : 0 <= x) : (Ck r num old).1[s]? = some x := by
 induction r generalizing num old with
 | nil => exact hx
 | cons a tl ih => exact ih (fun b hb => hr b (by simp [hb])) (IM (hr a (by simp)) hx hp)
theorem Fe (r : List Ar) {num old : List Int} (hr : ∀ a ∈ r, 0 <= a.2 /\ a.2 < num.length) (h : NumInj num old) : NumInj (Ck r num old).1 (Ck r num old).2.1 := by
 induction r generalizing num old with
 | nil => exact h
 | cons a tl ih =>
  have ha := hr a (by simp)
  exact ih (fun b hb => by rw [EB]; exact hr b (by simp [hb])) (h.one ha.1 ha.2)
theorem GZ (r : List Ar) {num old : List Int} (hr : ∀ a ∈ r, 0 <= a.2 /\ a.2 < num.length) :
  (Ck r num old).2.2 = r.map (fun a => (a.1, (Ck r num old).1.getD a.2.toNat 0)) /\ ∀ a ∈ r, ∃ x, (Ck r num old).1[a.2.toNat]? = some x /\ 0 <= x := by
 induction r generalizing num old with
 | nil => exact ⟨rfl, by simp⟩
 | cons a tl ih =>
  have ha := hr a (by simp)
  obtain ⟨i1, i2⟩ := ih (num := (AF num old a.2).1) (old := (AF num old a.2).2) (fun b hb => by rw [EB]; exact hr b (by simp [hb]))
  obtain ⟨x, hx, hp⟩ := LU (old := old) ha.1 ha.2
  have hk := I0 (old := (AF num old a.2).2) tl (fun b hb => (hr b (by simp [hb])).1) hx hp
  refine ⟨?_, fun b hb => ?_⟩
  ·simp only [Ck, List.map_cons]
   congr 1
   simp [List.getD, hx, hk]
  rcases List.mem_cons.1 hb with rfl | hb
  ·exact ⟨x, hk, hp⟩
  exact i2 b hb
theorem KN (r : List Ar) {num old : List Int} (hs : SortA r) (hr : ∀ a ∈ r, 0 <= a.2 /\ a.2 < num.length) (h : NumInj num old) : (Ck r num old).2.2.Nodup := by
 obtain ⟨h1, h2⟩ := GZ (old := old) r hr
 have hi := Fe r hr h
 rw [h1, List.Nodup, List.pairwise_map]
 have hnd : r.Pairwise (· ≠ ·) := hs.imp (fun {a b} hab e => by subst e; rw [Ey] at hab; cases hab)
 refine hnd.imp_of_mem (fun {a b} ha hb hne e => hne ?_)
 obtain ⟨x, hx, hxp⟩ := h2 a ha
 obtain ⟨y, hy, hyp⟩ := h2 b hb
 have ha' := hr a ha
 have hb' := hr b hb
 simp only [Prod.mk.injEq, List.getD, hx, hy, Option.getD_some] at e
 obtain ⟨e1, e2⟩ := e
 subst e2
 have q1 := hi.inj _ _ hx hxp
 have q2 := hi.inj _ _ hy hxp
 rw [q1] at q2
 injection q2 with q2
 rcases a with ⟨a1, a2⟩
 rcases b with ⟨b1, b2⟩
 simp only at *
 have : a2 = b2 := by omega
 rw [e1, this]
theorem NumInj.start {n : Nat} (hn : 0 < n) : NumInj ((List.replicate n (-1)).set 0 0) [0] := ⟨fun t x hx hp => by
 rw [List.getElem?_set] at hx
 split at hx
 ·rename_i h
  subst h
  simp [hn] at hx
  subst hx; rfl
 ·rw [List.getElem?_replicate] at hx
  split at hx
  ·cases hx; omega
  ·cases hx⟩

theorem NT {tl : List Ar} {num old : List Int} {e x : Int} {tn L : Nat} (hx : num[tn]? = some x) (hneg : x < 0) (hL : old.length = L) :
  Ck ((e, (tn : Int)) :: tl) num old = ((Ck tl (num.set tn L) (old ++ [(tn : Int)])).1, (Ck tl (num.set tn L) (old ++ [(tn : Int)])).2.1, (e, (L : Int)) :: (Ck tl (num.set tn L) (old ++ [(tn : Int)])).2.2) := by
 have hl : tn < num.length := (List.getElem?_eq_some_iff.1 hx).1
 have h1 : AF num old (tn : Int) = (num.set tn L, old ++ [(tn : Int)]) := by
  simp only [AF, Int.toNat_natCast, List.getD, hx, Option.getD_some, if_pos hneg, hL]
 simp only [Ck, h1, Int.toNat_natCast]
 simp [List.getD, hl]
theorem NU {tl : List Ar} {num old : List Int} {e x : Int} {tn : Nat} (hx : num[tn]? = some x) (hpos : ¬ x < 0) :
  Ck ((e, (tn : Int)) :: tl) num old = ((Ck tl num old).1, (Ck tl num old).2.1, (e, x) :: (Ck tl num old).2.2) := by
 have h1 : AF num old (tn : Int) = (num, old) := by
  simp only [AF, Int.toNat_natCast, List.getD, hx, Option.getD_some, if_neg hpos]
 simp only [Ck, h1, Int.toNat_natCast, List.getD, hx, Option.getD_some]
def NL (R : List Int × List Int × List Ar) (ya q : List Ar) (k : Nat) (num old : List Int) : Prop :=
 ya.take k ++ (Ck (q.drop k) num old).2.2 = R.2.2 /\ (Ck (q.drop k) num old).1 = R.1 /\ (Ck (q.drop k) num old).2.1 = R.2.1 /\ ya.drop k = q.drop k
theorem NL.neg {R : List Int × List Int × List Ar} {ya q : List Ar} {k : Nat} {num old : List Int} {e x : Int} {tn L : Nat} (h : NL R ya q k num old) (hk : ya[k]? = some (e, (tn : Int))) (hx : num[tn]? = some x) (hneg : x < 0) (hL : old.length = L) :
  NL R (ya.set k (e, (L : Int))) q (k + 1) (num.set tn L) (old ++ [(tn : Int)]) := by
 obtain ⟨h1, h2, h3, h4⟩ := h
 have hl := (List.getElem?_eq_some_iff.1 hk).1
 have hd : q.drop k = (e, (tn : Int)) :: q.drop (k + 1) := by
  have h5 : ya.drop k = (e, (tn : Int)) :: ya.drop (k + 1) := by
   rw [List.drop_eq_getElem_cons hl]; congr 1
   rw [gE1 hl] at hk; exact Option.some.inj hk
  have h6 := congrArg (List.drop 1) h4
  rw [List.drop_drop, List.drop_drop] at h6
  rw [<- h4, h5, h6]
 rw [hd, NT hx hneg hL] at h1 h2 h3
 refine ⟨?_, h2, h3, ?_⟩
 ·rw [<- h1, List.take_add_one, List.take_set_of_le (Nat.le_refl k)]
  simp [List.getElem?_set, hl]
 rw [List.drop_set, if_pos (by omega)]
 have h6 := congrArg (List.drop 1) h4
 rwa [List.drop_drop, List.drop_drop] at h6
theorem NL.pos {R : List Int × List Int × List Ar} {ya q : List Ar} {k : Nat} {num old : List Int} {e x : Int} {tn : Nat} (h : NL R ya q k num old) (hk : ya[k]? = some (e, (tn : Int))) (hx : num[tn]? = some x) (hpos : ¬ x < 0) :
  NL R (ya.set k (e, x)) q (k + 1) num old := by
 obtain ⟨h1, h2, h3, h4⟩ := h
 have hl := (List.getElem?_eq_some_iff.1 hk).1
 have hd : q.drop k = (e, (tn : Int)) :: q.drop (k + 1) := by
  have h5 : ya.drop k = (e, (tn : Int)) :: ya.drop (k + 1) := by
   rw [List.drop_eq_getElem_cons hl]; congr 1
   rw [gE1 hl] at hk; exact Option.some.inj hk
  have h6 := congrArg (List.drop 1) h4
  rw [List.drop_drop, List.drop_drop] at h6
  rw [<- h4, h5, h6]
 rw [hd, NU hx hpos] at h1 h2 h3
 refine ⟨?_, h2, h3, ?_⟩
 ·rw [<- h1, List.take_add_one, List.take_set_of_le (Nat.le_refl k)]
  simp [List.getElem?_set, hl]
 rw [List.drop_set, if_pos (by omega)]
 have h6 := congrArg (List.drop 1) h4
 rwa [List.drop_drop, List.drop_drop] at h6


section
variable {α β : Type} [DecidableEq α] [DecidableEq β]
def Vf (f : Nat -> α) : Nat -> List Int × Nat
 | 0 => ([], 0)
 | k + 1 => match (List.range k).find? (fun t => decide (f t = f k)) with
  | some t => ((Vf f k).1 ++ [(Vf f k).1.getD t 0], (Vf f k).2)
  | none => ((Vf f k).1 ++ [((Vf f k).2 : Int)], (Vf f k).2 + 1)
theorem Eh {f : Nat -> α} {k t : Nat} (h : (List.range k).find? (fun t => decide (f t = f k)) = some t) : Vf f (k + 1) = ((Vf f k).1 ++ [(Vf f k).1.getD t 0], (Vf f k).2) := by rw [Vf, h]
theorem Ei {f : Nat -> α} {k : Nat} (h : (List.range k).find? (fun t => decide (f t = f k)) = none) : Vf f (k + 1) = ((Vf f k).1 ++ [((Vf f k).2 : Int)], (Vf f k).2 + 1) := by rw [Vf, h]
theorem I1 {f : Nat -> α} {k t : Nat} (ht : t < k) (h : f t = f k) (hn : ∀ u, u < t -> f u ≠ f k) : (List.range k).find? (fun t => decide (f t = f k)) = some t := by
 rw [List.find?_range_eq_some]
 exact ⟨by simpa using h, by simpa using ht, fun j hj => by simpa using hn j hj⟩
theorem I2 {f : Nat -> α} {k : Nat} (hn : ∀ u, u < k -> f u ≠ f k) : (List.range k).find? (fun t => decide (f t = f k)) = none := by
 rw [List.find?_range_eq_none]
 exact fun j hj => by simpa using hn j hj
theorem Dx (f : Nat -> α) (k : Nat) : (∃ t, t < k /\ f t = f k /\ (∀ u, u < t -> f u ≠ f k) /\ Vf f (k + 1) = ((Vf f k).1 ++ [(Vf f k).1.getD t 0], (Vf f k).2)) \/ ((∀ u, u < k -> f u ≠ f k) /\ Vf f (k + 1) = ((Vf f k).1 ++ [((Vf f k).2 : Int)], (Vf f k).2 + 1)) := by
 cases h : (List.range k).find? (fun t => decide (f t = f k)) with
 | some t =>
  have h2 := List.find?_range_eq_some.1 h
  exact .inl ⟨t, by simpa using h2.2.1, by simpa using h2.1, fun u hu => by simpa using h2.2.2 u hu, Eh h⟩
 | none =>
  have h2 := List.find?_range_eq_none.1 h
  exact .inr ⟨fun u hu => by simpa using h2 u hu, Ei h⟩
structure NmOk (f : Nat -> α) (k : Nat) (p : List Int × Nat) : Prop where
 len : p.1.length = k
 eq : ∀ s t, s < k -> t < k -> (p.1.getD s 0 = p.1.getD t 0 ↔ f s = f t)
 rng : ∀ s, s < k -> 0 <= p.1.getD s 0 /\ p.1.getD s 0 < (p.2 : Int)
 cnt : p.2 <= k
theorem Cw {l : List Int} {x : Int} {s : Nat} (h : s < l.length) : (l ++ [x]).getD s 0 = l.getD s 0 := by
 rw [gE2, gEa h, <- gE2]
theorem Di {l : List Int} {x : Int} {s : Nat} (h : s = l.length) : (l ++ [x]).getD s 0 = x := by
 subst h
 rw [gE2, gEb (Nat.le_refl _), Nat.sub_self]; rfl
theorem BX (f : Nat -> α) (k : Nat) : NmOk f k (Vf f k) := by
 induction k with
 | zero => exact ⟨rfl, fun s t h => by omega, fun s h => by omega, Nat.le_refl _⟩
 | succ k ih =>
  have hl := ih.len
  rcases Dx f k with ⟨t, h1, h2, h3, h4⟩ | ⟨h3, h4⟩
  ·rw [h4]
   generalize Vf f k = p at *
   have g1 : ∀ s, s < k -> (p.1 ++ [p.1.getD t 0]).getD s 0 = p.1.getD s 0 := fun s hs => Cw (by omega)
   have g2 : (p.1 ++ [p.1.getD t 0]).getD k 0 = p.1.getD t 0 := Di hl.symm
   refine ⟨by simp [hl], fun s u hs hu => ?_, fun s hs => ?_, by have := ih.cnt; simp only; omega⟩
   rotate_left
   ·simp only
    rcases Nat.lt_or_ge s k with a | a
    ·rw [g1 s a]; exact ih.rng s a
    have : s = k := by omega
    subst this; rw [g2]; exact ih.rng t h1
   simp only
   rcases Nat.lt_or_ge s k with a | a <;> rcases Nat.lt_or_ge u k with b | b
   ·rw [g1 s a, g1 u b]; exact ih.eq s u a b
   ·have : u = k := by omega
    subst this
    rw [g1 s a, g2, ih.eq s t a h1, h2]
   ·have : s = k := by omega
    subst this
    rw [g1 u b, g2, ih.eq t u h1 b, h2]
   have e1 : s = k := by omega
   have e2 : u = k := by omega
   subst e1; subst e2; simp
  rw [h4]
  generalize Vf f k = p at *
  have g1 : ∀ s, s < k -> (p.1 ++ [(p.2 : Int)]).getD s 0 = p.1.getD s 0 := fun s hs => Cw (by omega)
  have g2 : (p.1 ++ [(p.2 : Int)]).getD k 0 = p.2 := Di hl.symm
  refine ⟨by simp [hl], fun s u hs hu => ?_, fun s hs => ?_, by have := ih.cnt; simp only; omega⟩
  rotate_left
  ·simp only
   rcases Nat.lt_or_ge s k with a | a
   ·rw [g1 s a]; have := ih.rng s a; omega
   have : s = k := by omega
   subst this; rw [g2]; omega
  simp only
  rcases Nat.lt_or_ge s k with a | a <;> rcases Nat.lt_or_ge u k with b | b
  rotate_left 3
  ·have e1 : s = k := by omega
   have e2 : u = k := by omega
   subst e1; subst e2; simp
  ·rw [g1 s a, g1 u b]; exact ih.eq s u a b
  ·have : u = k := by omega
   subst this
   rw [g1 s a, g2]
   have := ih.rng s a
   exact ⟨fun e => by omega, fun e => absurd e (h3 s a)⟩
  have : s = k := by omega
  subst this
  rw [g1 u b, g2]
  have := ih.rng u b
  exact ⟨fun e => by omega, fun e => absurd e.symm (h3 u b)⟩
theorem IP {f : Nat -> α} {g : Nat -> β} : ∀ k, (∀ s t, s < k -> t < k -> (f s = f t ↔ g s = g t)) -> Vf f k = Vf g k := by
 intro k
 induction k with
 | zero => intro _; rfl
 | succ k ih =>
  intro h
  have ih2 := ih fun s t hs ht => h s t (by omega) (by omega)
  rcases Dx f k with ⟨t, h1, h2, h3, h4⟩ | ⟨h3, h4⟩
  ·rw [h4, Eh (f := g) (I1 h1 ((h t k (by omega) (by omega)).1 h2) fun u hu e => h3 u hu ((h u k (by omega) (by omega)).2 e)), ih2]
  rw [h4, Ei (f := g) (I2 fun u hu e => h3 u hu ((h u k (by omega) (by omega)).2 e)), ih2]
theorem JG (f : Nat -> α) (n : Nat) : Vf (fun s => (Vf f n).1.getD s 0) n = Vf f n := IP n fun s t hs ht => (BX f n).eq s t hs ht
def NV (f : Nat -> α) (k : Nat) : Bool := (List.range k).all fun t => !decide (f t = f k)
theorem Dy {f : Nat -> α} {k : Nat} : NV f k = true ↔ ∀ t, t < k -> f t ≠ f k := by simp [NV]
theorem JH (f : Nat -> α) (k : Nat) : (Vf f k).2 = (List.range k).countP (NV f) := by
 induction k with
 | zero => rfl
 | succ k ih =>
  rw [List.range_succ, List.countP_append, <- ih]
  rcases Dx f k with ⟨t, h1, h2, h3, h4⟩ | ⟨h3, h4⟩
  rotate_left
  ·have : NV f k = true := Dy.2 h3
   rw [h4]; simp [this]
  have : NV f k = false := by
   rw [<- Bool.not_eq_true, Dy]
   exact fun h => h t h1 h2
  rw [h4]; simp [this]
theorem Ej {γ : Type} {p q : γ -> Bool} : ∀ {l : List γ}, (∀ x ∈ l, p x = true -> q x = true) -> l.countP p = l.countP q -> ∀ x ∈ l, q x = true -> p x = true
 | [], _, _, x, hx, _ => by simp at hx
 | a :: r, h, e, x, hx, hq => by
  have hle := List.countP_mono_left (p := p) (q := q) (l := r) fun y hy => h y (gEf _ hy)
  rw [List.countP_cons, List.countP_cons] at e
  have ha := h a (by simp)
  rcases List.mem_cons.1 hx with rfl | hx
  ·cases hp : p x with
   | true => rfl
   | false => rw [hp, hq] at e; simp at e; omega
  ·refine Ej (fun y hy => h y (gEf _ hy)) ?_ x hx hq
   cases hp : p a with
   | true => rw [hp, ha hp] at e; simp at e; exact e
   | false =>
    rw [hp] at e
    cases hqa : q a with
    | true => rw [hqa] at e; simp at e; omega
    | false => rw [hqa] at e; simpa using e
theorem JI {f : Nat -> α} (s : Nat) : ∃ t, t <= s /\ f t = f s /\ NV f t = true := by
 induction s using Nat.strongRecOn with
 | _ s ih =>
  cases h : NV f s with
  | true => exact ⟨s, Nat.le_refl _, rfl, h⟩
  | false =>
   have : ¬ ∀ t, t < s -> f t ≠ f s := fun q => by rw [Dy.2 q] at h; cases h
   obtain ⟨t, ht, e⟩ : ∃ t, t < s /\ f t = f s := Classical.byContradiction fun q => this fun t ht e => q ⟨t, ht, e⟩
   obtain ⟨u, h1, h2, h3⟩ := ih t ht
   exact ⟨u, by omega, h2.trans e, h3⟩
theorem LV {f : Nat -> α} {g : Nat -> β} {n : Nat} (h : ∀ s t, s < n -> t < n -> g s = g t -> f s = f t) : (Vf f n).2 <= (Vf g n).2 /\ ((Vf f n).2 = (Vf g n).2 -> Vf f n = Vf g n) := by
 have hsub : ∀ k ∈ List.range n, NV f k = true -> NV g k = true := fun k hk hf => by
  rw [List.mem_range] at hk
  rw [Dy] at hf ⊢
  exact fun t ht e => hf t ht (h t k (by omega) hk e)
 rw [JH, JH]
 refine ⟨List.countP_mono_left hsub, fun e => IP n fun s t hs ht => ⟨fun hf => ?_, h s t hs ht⟩⟩
 have hback := Ej hsub e
 obtain ⟨s1, a1, a2, a3⟩ := JI (f := g) s
 obtain ⟨t1, b1, b2, b3⟩ := JI (f := g) t
 have c1 := Dy.1 (hback s1 (List.mem_range.2 (by omega)) a3)
 have c2 := Dy.1 (hback t1 (List.mem_range.2 (by omega)) b3)
 have d1 : f s1 = f s := h s1 s (by omega) hs a2
 have d2 : f t1 = f t := h t1 t (by omega) ht b2
 have e3 : f s1 = f t1 := by rw [d1, d2, hf]
 have e4 : s1 = t1 := by
  rcases Nat.lt_trichotomy s1 t1 with q | q | q
  ·exact absurd e3 (c2 s1 q)
  ·exact q
  exact absurd e3.symm (c1 t1 q)
 rw [<- a2, <- b2, e4]
end
def Vg (S : List (List Ar)) (c : List Int) (s : Nat) : List Ar := Bj ((S.getD s []).map fun a => (a.1, c.getD a.2.toNat 0))
theorem Dj {S : List (List Ar)} {c : List Int} {s : Nat} {x : Ar} : x ∈ Vg S c s ↔ ∃ a ∈ S.getD s [], x = (a.1, c.getD a.2.toNat 0) := by
 unfold Vg
 rw [B0, List.mem_map]
 exact ⟨fun ⟨a, h1, h2⟩ => ⟨a, h1, h2.symm⟩, fun ⟨a, h1, h2⟩ => ⟨a, h1, h2.symm⟩⟩
def T3 (c : List Int) (row : List Ar) (e x : Int) : Bool := row.any fun a => a.1 == e && c.getD a.2.toNat 0 == x
def Py (c : List Int) (a b : List Ar) : Bool := a.all fun x => T3 c b x.1 (c.getD x.2.toNat 0)
theorem H2 {S : List (List Ar)} {c : List Int} {s t : Nat} : Vg S c s = Vg S c t ↔ Py c (S.getD s []) (S.getD t []) = true /\ Py c (S.getD t []) (S.getD s []) = true := by
 have key : ∀ s t, Py c (S.getD s []) (S.getD t []) = true ↔ ∀ x ∈ Vg S c s, x ∈ Vg S c t := by
  intro s t
  simp only [Py, T3, List.all_eq_true, List.any_eq_true, Bool.and_eq_true, beq_iff_eq]
  constructor
  ·intro h x hx
   obtain ⟨a, ha, rfl⟩ := Dj.1 hx
   obtain ⟨b, hb, h1, h2⟩ := h a ha
   exact Dj.2 ⟨b, hb, by rw [h1, h2]⟩
  intro h a ha
  obtain ⟨b, hb, e⟩ := Dj.1 (h _ (Dj.2 ⟨a, ha, rfl⟩))
  injection e with e1 e2
  exact ⟨b, hb, e1.symm, e2.symm⟩
 rw [key, key]
 constructor
 ·intro h; rw [h]; exact ⟨fun _ h => h, fun _ h => h⟩
 rintro ⟨h1, h2⟩
 exact BQ (Ay _) (Ay _) fun x => ⟨h1 x, h2 x⟩
def Vh (S : List (List Ar)) (c : List Int) (s : Nat) : Int × List Ar := (c.getD s 0, Vg S c s)
def Vi (S : List (List Ar)) (c : List Int) : List Int := (Vf (Vh S c) S.length).1
def Vj (S : List (List Ar)) (c : List Int) : Nat -> List Int
 | 0 => c
 | k + 1 => Vi S (Vj S c k)
def FxS (S : List (List Ar)) (c d : List Int) : Prop := ∃ k, d = Vj S c k /\ Vi S d = d
theorem FxS.stay {S : List (List Ar)} {c : List Int} {k j : Nat} (h : Vi S (Vj S c k) = Vj S c k) (hj : k <= j) : Vj S c j = Vj S c k := by
 induction j with
 | zero =>
  have : k = 0 := by omega
  subst this; rfl
 | succ j ih =>
  by_cases e : k = j + 1
  ·subst e; rfl
  rw [Vj, ih (by omega), h]
theorem FxS.uniq {S : List (List Ar)} {c d e : List Int} (h1 : FxS S c d) (h2 : FxS S c e) : d = e := by
 obtain ⟨k, rfl, hk⟩ := h1
 obtain ⟨j, rfl, hj⟩ := h2
 rcases Nat.le_total k j with h | h
 ·exact (FxS.stay hk h).symm
 exact FxS.stay hj h
def Nrm (n : Nat) (c : List Int) : Prop := (Vf (fun s => c.getD s 0) n).1 = c
def EW (n : Nat) (c : List Int) : Nat := (Vf (fun s => c.getD s 0) n).2
theorem Pz {α : Type} [DecidableEq α] (f : Nat -> α) (n : Nat) : Nrm n (Vf f n).1 := by unfold Nrm; rw [JG]
theorem LW {α : Type} [DecidableEq α] (f : Nat -> α) (n : Nat) : EW n (Vf f n).1 = (Vf f n).2 := by unfold EW; rw [JG]
theorem Nrm.len {n : Nat} {c : List Int} (h : Nrm n c) : c.length = n := by rw [<- h]; exact (BX _ n).len
theorem Nrm.rng {n : Nat} {c : List Int} (h : Nrm n c) : ∀ x ∈ c, 0 <= x /\ x < (n : Int) := fun x hx => by
 obtain ⟨i, hi, rfl⟩ := List.getElem_of_mem hx
 have hl := h.len
 have h1 := (BX (fun s => c.getD s 0) n).rng i (by omega)
 have h2 := (BX (fun s => c.getD s 0) n).cnt
 unfold Nrm at h
 rw [h, gE2, gE1 hi, Option.getD_some] at h1
 omega
theorem PA (S : List (List Ar)) (c : List Int) : Nrm S.length (Vi S c) := Pz _ _
theorem Qi {S : List (List Ar)} {c : List Int} (h : Nrm S.length c) (hne : Vi S c ≠ c) : EW S.length c < EW S.length (Vi S c) := by
 have hr := LV (f := fun s => c.getD s 0) (g := Vh S c) (n := S.length) fun s t _ _ e => by
  have := congrArg Prod.fst e
  exact this
 have e1 : EW S.length (Vi S c) = (Vf (Vh S c) S.length).2 := LW _ _
 rw [e1]
 unfold EW
 rcases Nat.lt_or_eq_of_le hr.1 with q | q
 ·exact q
 exfalso
 apply hne
 have := hr.2 q
 unfold Vi
 rw [<- this]
 exact h
theorem LX (n : Nat) (c : List Int) : EW n c <= n := (BX _ n).cnt
theorem PB (v n : Int) (hn : 1 <= n) : -n < v.tmod n /\ v.tmod n < n := by
 by_cases h : 0 <= v
 ·rw [Int.tmod_eq_emod_of_nonneg h]
  have h1 := Int.emod_nonneg v (show n ≠ 0 by omega)
  exact ⟨by omega, Int.emod_lt_of_pos _ (by omega)⟩
 have h1 : v.tmod n = -((-v).tmod n) := by rw [Int.neg_tmod]; omega
 have h2 := Int.emod_nonneg (-v) (show n ≠ 0 by omega)
 have h3 := Int.emod_lt_of_pos (-v) (show 0 < n by omega)
 rw [h1, Int.tmod_eq_emod_of_nonneg (show 0 <= -v by omega)]
 omega

def tape (T : List Int) (a : Nat) : Ob := .r ⟨41, 2, false, [.t 1 (Ad T), .v (.int .i64 a)]⟩
structure TpOk (T : List Int) : Prop where
 len : T.length <= 9223372036854775807
 in_ : ∀ x ∈ T, Kt x
theorem Sa (T : List Int) : FC Tryd.prog 5 [AC T] [] (fun r o => r = .a (.c (.p 0 0)) /\ o = [tape T 0]) := by
 refine Af Tryd.func5 rfl (by rw [Tryd.ntmps5]; simp) ?_
 rw [Tryd.ntmps5]
 simp only [C2, AC]
 (refine UX (an @List.set_cons_zero.{0} @List.set_cons_succ.{0}) ?_;(repeat clear hK K);repeat refine kq fun K hK=>?_)
 refine Va Tryd.results5 ?_
 rfl

theorem H3 (T : List Int) (a : Nat) (n : Int) (hT : TpOk T) (ha : a <= 1000000000) (hn : n <= 1000000000) :
  FC Tryd.prog 31 [.a (.c (.p 0 0)), .i n] [tape T a] (fun r o => o = [tape T (a + 1)] /\ ∃ v : Nat, r = .i v /\ ((v : Int) < n \/ v = 0)) := by
 refine Af Tryd.func31 rfl (by rw [Tryd.ntmps31]; simp) ?_
 rw [Tryd.ntmps31]
 simp only [C2, tape]
 have hl := hT.len
 (refine UW ?_;(repeat clear hK K);repeat refine kq fun K hK=>?_)
 (refine Ap 9 [(0, 0), (1, 0), (2, 0), (3, 1), (4, 0), (5, 0), (6, 0), (7, 1), (8, 0), (9, 2)] (by kernel_rfl) (by kernel_rfl) (by intro c st h; simp [Ag, B6, Un] at h) ?_)
 (refine UU @A2 ?_; repeat clear hK K)
 (refine As ?_; intro X Y hX hY; simp only [go_sem])
 refine ⟨fun h => hX ?_, fun h => hY ?_⟩
 rotate_left
 ·clear hX hY X Y h
  (refine UX (an @List.set_cons_zero.{0} @List.set_cons_succ.{0}) ?_;(repeat clear hK K);repeat refine kq fun K hK=>?_)
  (refine As ?_; intro X Y hX hY; simp only [go_sem])
  refine ⟨fun h => hX ?_, fun h => hY ?_⟩
  ·clear hX hY X Y
   (refine UW ?_;(repeat clear hK K);repeat refine kq fun K hK=>?_)
   refine Va Tryd.results31 ?_
   exact ⟨rfl, 0, rfl, .inr rfl⟩
  have hn1 : 1 <= n := by simp at h; omega
  have hb := PB (5 * (a : Int) + 3) n hn1
  clear hX hY X Y
  (refine UW ?_;(repeat clear hK K);repeat refine kq fun K hK=>?_)
  (refine As ?_; intro X Y hX hY; simp only [go_sem])
  refine ⟨fun h => hX ?_, fun h => hY ?_⟩
  rotate_left
  ·clear hX hY X Y
   have h1 : 0 <= Int.tmod (5 * (a : Int) + 3) n := by simpa using h
   (refine UW ?_;(repeat clear hK K);repeat refine kq fun K hK=>?_)
   refine Va Tryd.results31 ?_
   exact ⟨rfl, (Int.tmod (5 * (a : Int) + 3) n).toNat, by rw [Int.toNat_of_nonneg (by omega)], .inl (by omega)⟩
  clear hX hY X Y
  have h1 : Int.tmod (5 * (a : Int) + 3) n < 0 := by simpa using h
  (refine UW ?_;(repeat clear hK K);repeat refine kq fun K hK=>?_)
  refine Va Tryd.results31 ?_
  exact ⟨rfl, (Int.tmod (5 * (a : Int) + 3) n + n).toNat, by rw [Int.toNat_of_nonneg (by omega)], .inl (by omega)⟩
 have hlt : a < T.length := by simpa using h
 have hv := hT.in_ _ (gE6 hlt)
 simp only [Kt] at hv
 clear hX hY X Y h
 (refine Ap 10 [(0, 0), (1, 0), (2, 0), (3, 1), (4, 0), (5, 0), (6, 0), (7, 1), (8, 0), (9, 1), (10, 2)] (by kernel_rfl) (by kernel_rfl) (by intro c st h; simp [Ag, B6, Un] at h) ?_)
 (refine UU (an @A2 (Ai (gE1 hlt))) ?_; repeat clear hK K)
 (refine UX (an @List.set_cons_zero.{0} @List.set_cons_succ.{0}) ?_;(repeat clear hK K);repeat refine kq fun K hK=>?_)
 (refine As ?_; intro X Y hX hY; simp only [go_sem])
 refine ⟨fun h => hX ?_, fun h => hY ?_⟩
 ·clear hX hY X Y
  (refine UW ?_;(repeat clear hK K);repeat refine kq fun K hK=>?_)
  refine Va Tryd.results31 ?_
  exact ⟨rfl, 0, rfl, .inr rfl⟩
 have hn1 : 1 <= n := by simp at h; omega
 have hb := PB (T[a]) n hn1
 clear hX hY X Y
 (refine UW ?_;(repeat clear hK K);repeat refine kq fun K hK=>?_)
 (refine As ?_; intro X Y hX hY; simp only [go_sem])
 refine ⟨fun h => hX ?_, fun h => hY ?_⟩
 rotate_left
 ·clear hX hY X Y
  have h1 : 0 <= Int.tmod (T[a]) n := by simpa using h
  (refine UW ?_;(repeat clear hK K);repeat refine kq fun K hK=>?_)
  refine Va Tryd.results31 ?_
  exact ⟨rfl, (Int.tmod (T[a]) n).toNat, by rw [Int.toNat_of_nonneg (by omega)], .inl (by omega)⟩
 clear hX hY X Y
 have h1 : Int.tmod (T[a]) n < 0 := by simpa using h
 (refine UW ?_;(repeat clear hK K);repeat refine kq fun K hK=>?_)
 refine Va Tryd.results31 ?_
 exact ⟨rfl, (Int.tmod (T[a]) n + n).toNat, by rw [Int.toNat_of_nonneg (by omega)], .inl (by omega)⟩

/-! rows of numbers -/
def A7 (xs : List Int) : List C := xs.map fun x => C.v (.int .i64 x)
def Al (xs : List Int) : Ob := .r ⟨3, 1, true, A7 xs⟩
theorem A4 (xs : List Int) : (A7 xs).length = xs.length := by simp [A7]
theorem Aq {xs : List Int} {i : Nat} {x : Int} (h : xs[i]? = some x) : (A7 xs)[i]? = some (.v (.int .i64 x)) := by simp [A7, h]
theorem AN (xs : List Int) (n : Nat) : (A7 xs).take n = A7 (xs.take n) := by simp [A7, List.map_take]
theorem B3 (xs : List Int) (n : Nat) : (A7 xs).drop n = A7 (xs.drop n) := by simp [A7, List.map_drop]
theorem Bb (xs ys : List Int) : A7 xs ++ A7 ys = A7 (xs ++ ys) := by simp [A7]
theorem B8 (xs : List Int) : (A7 xs).all C.one = true := by simp [A7, C.one]
theorem AH (xs : List Int) (x : Int) : A7 xs ++ [.v (.int .i64 x)] = A7 (xs ++ [x]) := by simp [A7]
theorem Ak (f : List Nat) (L : List Int) : (A7 L).map (C.ren f) = A7 L := by simp [A7, C.ren, Function.comp_def]
theorem Cx (f : Nat -> Nat) (L : List Int) : (A7 L).map (C.up f) = A7 L := by simp [A7, C.up, Function.comp_def]
theorem AJ (xs : List Int) (n : Nat) : (Ad xs).take n = Ad (xs.take n) := by simp [Ad, List.map_take]
theorem B4 (xs : List Int) (n : Nat) : (Ad xs).drop n = Ad (xs.drop n) := by simp [Ad, List.map_drop]
theorem BL (xs : List Int) : (Ad xs).map C.ofTr = A7 xs := NO xs
theorem KO (L : List Int) : Fz (A7 L) (Ad L) := by unfold A7 Ad; exact Fz.map fun x _ => .inl rfl
end Go.Proofs.YthnkailnoobdoaaDoor
