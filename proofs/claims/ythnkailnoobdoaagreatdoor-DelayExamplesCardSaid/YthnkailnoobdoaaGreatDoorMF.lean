/- Lemmas. -/
import Derived.Test.YthnkailnoobdoaaGreatDoorZk
import Derived.Test.YthnkailnoobdoaaGreatDoorTy
import Derived.Test.YthnkailnoobdoaaGreatDoorME
import Derived.Test.YthnkailnoobdoaaGreatDoorTs1
import Derived.Test.YthnkailnoobdoaaGreatDoorMD
namespace Go.Proofs.YthnkailnoobdoaaGreatDoor
set_option linter.unusedVariables false
set_option linter.unusedSimpArgs false
open Go.RowKit

def Aa (xs : List Int) : List Tr := xs.map fun x => .v (.int .i64 x)
def Aq (xs : List Int) : AV := .a (.c (.t 1 (Aa xs)))
def Cw (L : List (List Int)) : List Tr := L.map fun r => .l 1 (Aa r)
def Bc (L : List (List Int)) : AV := .a (.c (.t 1 (Cw L)))
def At (xs : List (Int × Int)) : List Tr := xs.flatMap fun a => [.v (.int .i64 a.1), .v (.int .i64 a.2)]
def Ai (R : List (List (Int × Int))) : List Tr := R.map fun r => .l 2 (At r)
def Bh (R : List (List (Int × Int))) : AV := .a (.g [.t 1 (Ai R)])
theorem Yi (xs : List Int) : (Aa xs).length = xs.length := by simp [Aa]
theorem BQ (xs : List (List Int)) : (Cw xs).length = xs.length := by simp [Cw]
theorem A4 (xs : List (List (Int × Int))) : (Ai xs).length = xs.length := by simp [Ai]
theorem A3 (xs : List (Int × Int)) : (At xs).length = xs.length * 2 := by
 induction xs with
 | nil => rfl
 | cons x r ih => simp only [At, List.flatMap_cons, List.length_append, List.length_cons, List.length_nil] at ih ⊢; omega
theorem Aj {xs : List Int} {i : Nat} {x : Int} (h : xs[i]? = some x) : (Aa xs)[i]? = some (.v (.int .i64 x)) := by simp [Aa, h]
theorem Dy {xs : List (List Int)} {i : Nat} {x : List Int} (h : xs[i]? = some x) : (Cw xs)[i]? = some (.l 1 (Aa x)) := by simp [Cw, h]
theorem Ac {xs : List (List (Int × Int))} {i : Nat} {x : List (Int × Int)} (h : xs[i]? = some x) : (Ai xs)[i]? = some (.l 2 (At x)) := by simp [Ai, h]
theorem P4 (xs : List Int) : (Aa xs).map C.ofTr = xs.map fun x => .v (.int .i64 x) := by simp [Aa, C.ofTr, Function.comp_def]
theorem BU (ρ : List Nat) (ts : List Tr) : (ts.map C.ofTr).map (C.ren ρ) = ts.map C.ofTr := by
 simp only [List.map_map]
 exact List.map_congr_left fun t _ => by cases t <;> rfl
theorem Ri (f : Nat -> Nat) (ts : List Tr) : (ts.map C.ofTr).map (C.up f) = ts.map C.ofTr := by
 simp only [List.map_map]
 exact List.map_congr_left fun t _ => by cases t <;> rfl
attribute [go_sem] BU Ri
set_option maxRecDepth 100000 in
theorem GX (ts : List Tr) (hn : ts.length <= 100000000) : FC Tryz.prog 42 [.a (.c (.t 2 ts))] [] (fun r o => r = .a (.c (.s 0 (ts.length / 2))) /\ o = [.r ⟨40, 2, true, ts.map C.ofTr⟩]) := by
 refine A9 Tryz.func42 rfl (by rw [Tryz.ntmps42]; simp) ?_
 rw [Tryz.ntmps42]
 simp only [Bz]
 (refine We ?_;(repeat clear hK K);repeat refine kq fun K hK=>?_)
 refine Ad rfl ?_; intro K1 hK1
 refine Ml rfl rfl Tryz.underlying41 (.inl rfl) (.inl ⟨2, ts, by simp only [go_sem], ?_⟩)
 intro b hb
 simp only [go_sem]
 refine hK1 _ ?_; clear hK1 K1
 (refine We ?_;(repeat clear hK K);repeat refine kq fun K hK=>?_)
 (refine AA ?_; intro X Y hX hY; simp only [go_sem])
 refine ⟨fun h => hX ?_, fun h => hY ?_⟩
 ·have hts := hb h
  subst hts
  (refine We ?_;(repeat clear hK K);repeat refine kq fun K hK=>?_)
  refine AF ?_
  simp only [Ae]
  refine Bm (Dt 2 40 2 ?_) ?_
  ·simp only [go_sem]
  exact P0 Tryz.results42
 clear hX hY X Y
 (refine We ?_;(repeat clear hK K);repeat refine kq fun K hK=>?_)
 refine AF ?_
 refine Bm (A8 [1] rfl rfl) ?_
 (try simp only [List.set_nil, List.take_nil, List.take_zero, List.map_append, go_sem])
 exact P0 Tryz.results42
end Go.Proofs.YthnkailnoobdoaaGreatDoor
namespace Go.Proofs.YthnkailnoobdoaaGreatDoor
set_option linter.unusedVariables false
set_option linter.unusedSimpArgs false
open Go.RowKit
set_option maxRecDepth 100000


end Go.Proofs.YthnkailnoobdoaaGreatDoor
namespace Go.Proofs.YthnkailnoobdoaaGreatDoor
set_option linter.unusedVariables false
set_option linter.unusedSimpArgs false
open Go.RowKit
set_option maxRecDepth 100000

end Go.Proofs.YthnkailnoobdoaaGreatDoor
namespace Go.Proofs.YthnkailnoobdoaaGreatDoor
set_option linter.unusedVariables false
set_option linter.unusedSimpArgs false

abbrev Ar := Int × Int
def Wu (a b : Ar) : Bool := decide (a.1 < b.1) || (a.1 == b.1 && decide (a.2 < b.2))
theorem CX {a b : Ar} : Wu a b = true ↔ a.1 < b.1 \/ (a.1 = b.1 /\ a.2 < b.2) := by simp [Wu]
theorem F0 (a : Ar) : Wu a a = false := by simp [Wu]
theorem Ex {a b c : Ar} (h1 : Wu a b = true) (h2 : Wu b c = true) : Wu a c = true := by
 rw [CX] at *; omega
theorem Hq (a b : Ar) : Wu a b = true \/ a = b \/ Wu b a = true := by
 rw [CX, CX]
 obtain ⟨a1, a2⟩ := a
 obtain ⟨b1, b2⟩ := b
 simp only [Prod.mk.injEq]
 omega
def CK (x : Ar) : List Ar -> List Ar
 | [] => [x]
 | y :: ys => if Wu y x then y :: CK x ys else if y = x then y :: ys else x :: y :: ys
theorem Di (x a : Ar) (l : List Ar) : a ∈ CK x l ↔ a = x \/ a ∈ l := by
 induction l with
 | nil => simp [CK]
 | cons y ys ih =>
  simp only [CK]
  split
  ·simp [ih]; constructor <;> (intro h; rcases h with h | h | h <;> simp [h])
  split
  ·rename_i h; subst h; simp
  simp
theorem Dj (x : Ar) (l : List Ar) : (CK x l).length <= l.length + 1 := by
 induction l with
 | nil => simp [CK]
 | cons y ys ih =>
  simp only [CK]
  split
  ·simp; omega
  split <;> simp
def SortA (l : List Ar) : Prop := l.Pairwise fun a b => Wu a b = true
theorem Ga {x : Ar} {l : List Ar} (h : SortA l) : SortA (CK x l) := by
 unfold SortA at *
 induction l with
 | nil => simp [CK]
 | cons y ys ih =>
  rw [List.pairwise_cons] at h
  simp only [CK]
  split
  ·rename_i hl
   rw [List.pairwise_cons]
   refine ⟨fun a ha => ?_, ih h.2⟩
   rcases (Di x a ys).1 ha with rfl | ha
   ·exact hl
   exact h.1 a ha
  split
  ·exact List.pairwise_cons.2 h
  rename_i hl hne
  have hxy : Wu x y = true := by
   rcases Hq x y with h | h | h
   ·exact h
   ·exact absurd h.symm hne
   exact absurd h hl
  rw [List.pairwise_cons]
  refine ⟨fun a ha => ?_, List.pairwise_cons.2 h⟩
  rcases List.mem_cons.1 ha with rfl | ha
  ·exact hxy
  exact Ex hxy (h.1 a ha)
def OkRow (k m : Nat) (r : List Ar) : Prop := SortA r /\ r.length <= k /\ ∀ a ∈ r, 0 <= a.1 /\ a.1 <= 1025 /\ 0 <= a.2 /\ a.2 < m
def OkSys (k m : Nat) (R : List (List Ar)) : Prop := R.length = m /\ ∀ r ∈ R, OkRow k m r
theorem OkRow.le {k k' m : Nat} {r : List Ar} (h : OkRow k m r) (hk : k <= k') : OkRow k' m r := ⟨h.1, Nat.le_trans h.2.1 hk, h.2.2⟩
theorem OkSys.le {k k' m : Nat} {R : List (List Ar)} (h : OkSys k m R) (hk : k <= k') : OkSys k' m R := ⟨h.1, fun r hr => (h.2 r hr).le hk⟩
theorem OkSys.set {k m : Nat} {R : List (List Ar)} (h : OkSys k m R) {r : List Ar} (hr : OkRow k m r) (s : Nat) : OkSys k m (R.set s r) :=
 ⟨by simp [h.1], fun q hq => by
  rcases List.mem_or_eq_of_mem_set hq with hq | rfl
  ·exact h.2 q hq
  ·exact hr⟩

/-! trees and cells -/
open Go.RowKit
def As (xs : List Ar) : List C := xs.flatMap fun a => [C.v (.int .i64 a.1), C.v (.int .i64 a.2)]
def AC (R : List (List Ar)) : List C := R.map fun r => C.t 2 (At r)
theorem Ah (xs : List Ar) : (As xs).length = xs.length * 2 := by
 induction xs with
 | nil => rfl
 | cons x r ih =>
  have : As (x :: r) = [C.v (.int .i64 x.1), C.v (.int .i64 x.2)] ++ As r := rfl
  rw [this, List.length_append, ih, List.length_cons]; simp; omega
theorem Cm (xs ys : List Ar) : As xs ++ As ys = As (xs ++ ys) := by simp [As]
theorem Br (xs : List Ar) (x y : Int) : As xs ++ [.v (.int .i64 x), .v (.int .i64 y)] = As (xs ++ [(x, y)]) := by simp [As]
theorem Dz (xs : List Ar) : (As xs).all C.one = true := by simp [As, C.one]
theorem Co (xs : List Ar) : (At xs).map C.ofTr = As xs := by simp [At, As, List.map_flatMap, C.ofTr]
theorem F1 {α β : Type} (f : α -> List β) (hf : ∀ a, (f a).length = 2) : ∀ (xs : List α) (n : Nat), (xs.flatMap f).take (n * 2) = (xs.take n).flatMap f
 | [], n => by simp
 | x :: r, 0 => by simp
 | x :: r, n + 1 => by
  simp only [List.flatMap_cons, List.take_succ_cons]
  rw [show (n + 1) * 2 = (f x).length + n * 2 by rw [hf]; omega, List.take_length_add_append, F1 f hf r n]
theorem GY {α β : Type} (f : α -> List β) (hf : ∀ a, (f a).length = 2) : ∀ (xs : List α) (n : Nat), (xs.flatMap f).drop (n * 2) = (xs.drop n).flatMap f
 | [], n => by simp
 | x :: r, 0 => by simp
 | x :: r, n + 1 => by
  simp only [List.flatMap_cons, List.drop_succ_cons]
  rw [show (n + 1) * 2 = (f x).length + n * 2 by rw [hf]; omega, List.drop_length_add_append, GY f hf r n]
theorem Bl (xs : List Ar) (n : Nat) : (At xs).take (n * 2) = At (xs.take n) := F1 _ (fun _ => rfl) xs n
theorem DR (xs : List Ar) (n : Nat) : (At xs).drop (n * 2) = At (xs.drop n) := GY _ (fun _ => rfl) xs n
theorem D3 (xs : List Ar) (n : Nat) : (As xs).take (n * 2) = As (xs.take n) := F1 _ (fun _ => rfl) xs n
theorem Be {xs : List Ar} {i : Nat} (h : i < xs.length) : (((At xs).drop (i * 2)).take 2) = [.v (.int .i64 xs[i].1), .v (.int .i64 xs[i].2)] := by
 rw [DR]
 have e : xs.drop i = xs[i] :: xs.drop (i + 1) := List.drop_eq_getElem_cons h
 rw [e]
 rfl
theorem DA (L : List Ar) : Fz (As L) (At L) := by
 unfold As At
 exact Fz.flatMap fun x _ => ⟨.inl rfl, .inl rfl, trivial⟩
theorem Af (xs : List (List Ar)) : (AC xs).length = xs.length := by simp [AC]
theorem Bp (f : List Nat) (L : List (List Ar)) : (AC L).map (C.ren f) = AC L := by simp [AC, C.ren, Function.comp_def]
theorem AL (f : Nat -> Nat) (L : List (List Ar)) : (AC L).map (C.up f) = AC L := by simp [AC, C.up, Function.comp_def]
theorem Ee (L : List (List Ar)) : Fz (AC L) (Ai L) := by unfold AC Ai; exact Fz.map fun x _ => .inl rfl
open Go.RowKit
set_option maxRecDepth 100000
theorem K9 (x : Int) : FC Tryz.prog 84 [.i x] [] (fun r o => o = [] /\ r = .b false) := by
 refine A9 Tryz.func84 rfl (by rw [Tryz.ntmps84]; simp) ?_
 rw [Tryz.ntmps84]
 simp only [Bz]
 (repeat (first | (refine AG ?_; intro K hK) | refine Am ?_ | refine Ag ?_ | (refine Bg rfl rfl ?_; intro K1 hK1; simp only [go_sem, bne_self_eq_false]; (first | refine hK1 _ ?_ | refine AE (hK1 _ ?_)); clear hK1 K1) | ((first | refine Ab ?_ | refine Ap ?_); refine hK _ ?_; clear hK K)))
 exact P0 Tryz.results84
def Fy (a b : Int) : Int := if a < b then -1 else if a > b then 1 else 0
theorem Ka (x y : Int) : FC Tryz.prog 60 [.i x, .i y] [] (fun r o => o = [] /\ r = .i (Fy x y)) := by
 refine A9 Tryz.func60 rfl (by rw [Tryz.ntmps60]; simp) ?_
 rw [Tryz.ntmps60]
 simp only [Bz]
 (refine We ?_;(repeat clear hK K);repeat refine kq fun K hK=>?_)
 (refine Wj (K9 x) ?_; intro K1 hK1)
 rintro _ _ ⟨rfl, rfl⟩
 (refine Wk ?_; clear hK1 K1)
 (refine We ?_;(repeat clear hK K);repeat refine kq fun K hK=>?_)
 (refine Wj (K9 y) ?_; intro K1 hK1)
 rintro _ _ ⟨rfl, rfl⟩
 (refine Wk ?_; clear hK1 K1)
 (refine We ?_;(repeat clear hK K);repeat refine kq fun K hK=>?_)
 (refine AA ?_; intro X Y hX hY; simp only [go_sem])
 refine hY ?_; clear hX hY X Y
 (refine We ?_;(repeat clear hK K);repeat refine kq fun K hK=>?_)
 (refine AA ?_; intro X Y hX hY; simp only [go_sem])
 refine hY ?_; clear hX hY X Y
 (refine We ?_;(repeat clear hK K);repeat refine kq fun K hK=>?_)
 (refine AA ?_; intro X Y hX hY; simp only [go_sem])
 refine ⟨fun h => hX ?_, fun h => hY ?_⟩
 ·clear hX hY X Y
  (refine We ?_;(repeat clear hK K);repeat refine kq fun K hK=>?_)
  refine Wr Tryz.results60 ?_
  have : x < y := by simpa using h
  simp [Fy, this]
 clear hX hY X Y
 have h1 : ¬ x < y := by simpa using h
 clear h
 (refine We ?_;(repeat clear hK K);repeat refine kq fun K hK=>?_)
 (refine AA ?_; intro X Y hX hY; simp only [go_sem])
 refine ⟨fun h => hX ?_, fun h => hY ?_⟩
 ·clear hX hY X Y
  (refine We ?_;(repeat clear hK K);repeat refine kq fun K hK=>?_)
  refine Wr Tryz.results60 ?_
  have : y < x := by simpa using h
  simp [Fy, this, h1]
 clear hX hY X Y
 (refine We ?_;(repeat clear hK K);repeat refine kq fun K hK=>?_)
 refine Wr Tryz.results60 ?_
 have : ¬ y < x := by simpa using h
 simp [Fy, this, h1]
theorem P5 {α : Type} {xs : List α} {k : Nat} (h : k < xs.length) : xs.drop k = xs[k] :: xs.drop (k + 1) := List.drop_eq_getElem_cons h
theorem D4 {P : Program} {ops : Array Oper} {l : List Oper} {st t : ST} {K : ST -> Prop} (h : Le st t) (k : VA P ops l t K) : VA P ops l st K := fun M0 w0 a w Q hR hN => k M0 w0 a w Q (h M0 w0 a w hR) hN
def Gb (a b : Ar) : Int := if Fy a.1 b.1 ≠ 0 then Fy a.1 b.1 else Fy a.2 b.2
theorem MF (a b : Int) : (a < b /\ Fy a b = -1) \/ (a = b /\ Fy a b = 0) \/ (b < a /\ Fy a b = 1) := by
 unfold Fy
 rcases Int.lt_trichotomy a b with h | h | h
 ·exact .inl ⟨h, by simp [h]⟩
 ·exact .inr (.inl ⟨h, by simp [h]⟩)
 exact .inr (.inr ⟨h, by rw [if_neg (by omega), if_pos h]⟩)
theorem CG (a b : Ar) : decide (Gb a b < 0) = Wu a b := by
 rw [Bool.eq_iff_iff, decide_eq_true_iff, CX]
 unfold Gb
 rcases MF a.1 b.1 with ⟨h, e⟩ | ⟨h, e⟩ | ⟨h, e⟩ <;> rw [e]
 ·simp; omega
 ·rcases MF a.2 b.2 with ⟨h2, e2⟩ | ⟨h2, e2⟩ | ⟨h2, e2⟩ <;> rw [e2] <;> simp <;> omega
 simp; omega
theorem Hr (a b : Ar) : decide (Gb a b >= 0) = !Wu a b := by
 rw [<- CG, Bool.eq_iff_iff, decide_eq_true_iff, Bool.not_eq_true', decide_eq_false_iff_not]
 omega
instance decSortA (l : List Ar) : Decidable (SortA l) := inferInstanceAs (Decidable (List.Pairwise (fun a b => Wu a b = true) l))
theorem Io {xs : List Ar} (h : ∀ i a b, xs[i]? = some a -> xs[i + 1]? = some b -> Wu a b = true) : SortA xs := by
 unfold SortA
 induction xs with
 | nil => exact .nil
 | cons a r ih =>
  have h2 := ih fun i x y hx hy => h (i + 1) x y (by simpa using hx) (by simpa using hy)
  rw [List.pairwise_cons]
  refine ⟨fun b hb => ?_, h2⟩
  cases r with
  | nil => simp at hb
  | cons c q =>
   have h1 := h 0 a c rfl rfl
   rcases List.mem_cons.1 hb with rfl | hb
   ·exact h1
   exact Ex h1 ((List.pairwise_cons.1 h2).1 b hb)
theorem SortA.at {xs : List Ar} (h : SortA xs) {i j : Nat} {a b : Ar} (hij : i < j) (ha : xs[i]? = some a) (hb : xs[j]? = some b) : Wu a b = true := by
 have h1 := List.getElem?_eq_some_iff.1 ha
 have h2 := List.getElem?_eq_some_iff.1 hb
 have := List.pairwise_iff_getElem.1 h i j h1.1 h2.1 hij
 rwa [h1.2, h2.2] at this
theorem MG {xs : List Ar} {i : Nat} {a b : Ar} (ha : xs[i]? = some a) (hb : xs[i + 1]? = some b) (h : Wu a b = false) : ¬ SortA xs := fun hs => by
 have := hs.at (by omega) ha hb
 rw [h] at this; cases this
def Rj (x : Int) : Prop := 2 <= x /\ x <= 1025
instance decChanP (x : Int) : Decidable (Rj x) := inferInstanceAs (Decidable (_ /\ _))
theorem CQ {xs : List Ar} {i : Nat} (h : i < xs.length) : (At xs)[i * 2]? = some (.v (.int .i64 xs[i].1)) := by
 have := Be h
 have e : ((At xs).drop (i * 2))[0]? = some (.v (.int .i64 xs[i].1)) := by
  rw [<- List.getElem?_take_of_lt (show 0 < 2 by omega), this]; rfl
 simpa using e
theorem Dk {xs : List Ar} {i : Nat} (h : i < xs.length) : (At xs)[i * 2 + 1]? = some (.v (.int .i64 xs[i].2)) := by
 have := Be h
 have e : ((At xs).drop (i * 2))[1]? = some (.v (.int .i64 xs[i].2)) := by
  rw [<- List.getElem?_take_of_lt (show 1 < 2 by omega), this]; rfl
 simpa using e
def Vb (o : List Ar) : Prop := SortA o /\ (∀ a ∈ o, Rj a.1 /\ Rj a.2 /\ a.1 ≠ a.2) /\ ∀ x ∈ o, ∀ y ∈ o, y.1 = x.2 -> (x.1, y.2) ∈ o
instance decOrdP (o : List Ar) : Decidable (Vb o) := inferInstanceAs (Decidable (_ /\ _ /\ _))
def AN (R : List (List Ar)) : Nat := (R.map List.length).sum
theorem Ip (R : List (List Ar)) (r : List Ar) : AN (R ++ [r]) = AN R + r.length := by simp [AN]
theorem BX {R : List (List Ar)} {k : Nat} (h : k < R.length) : AN (R.take (k + 1)) = AN (R.take k) + R[k].length := by
 rw [gE8 h, Ip]
theorem Gc (R : List (List Ar)) (k : Nat) : AN (R.take k) <= AN R := by
 have : AN R = AN (R.take k) + AN (R.drop k) := by
  unfold AN
  rw [<- List.sum_append, <- List.map_append, List.take_append_drop]
 omega
def T3 : Nat := 16384
def T4 : Nat := 262144
def Us (R : List (List Ar)) : Prop := 1 <= R.length /\ R.length <= T3 /\ AN R <= T4 /\ ∀ r ∈ R, ∀ a ∈ r, 0 <= a.1 /\ a.1 <= 1025 /\ 0 <= a.2 /\ a.2 < (R.length : Int)
instance decLooP (R : List (List Ar)) : Decidable (Us R) := inferInstanceAs (Decidable (_ /\ _ /\ _ /\ _))
def BK (R : List (List Ar)) : Bool := decide (Us R)
def BL (R : List (List Ar)) : Bool := decide (Us R /\ ∀ r ∈ R, SortA r)
theorem MH {R : List (List Ar)} (h : BK R = false) : BL R = false := by
 rw [BK, decide_eq_false_iff_not] at h
 rw [BL, decide_eq_false_iff_not]
 exact fun h2 => h h2.1
def Cx (r : List Ar) : List Ar := r.foldl (fun acc a => CK a acc) []
def B7 (num old : List Int) (t : Int) : List Int × List Int := if num.getD t.toNat 0 < 0 then (num.set t.toNat old.length, old ++ [t]) else (num, old)
def Ez : List Ar -> List Int -> List Int -> List Ar -> List Int × List Int × List Ar
 | [], num, old, nxt => (num, old, nxt)
 | a :: tl, num, old, nxt => Ez tl (B7 num old a.2).1 (B7 num old a.2).2 (CK (a.1, (B7 num old a.2).1.getD a.2.toNat 0) nxt)
def Dl (rows : List (List Ar)) : Nat -> Nat -> List Int -> List Int -> List (List Ar) -> List (List Ar) × List Int
 | 0, _, _, old, out => (out, old)
 | f + 1, i, num, old, out => match old[i]? with
  | none => (out, old)
  | some s => Dl rows f (i + 1) (Ez (Cx (rows.getD s.toNat [])) num old []).1 (Ez (Cx (rows.getD s.toNat [])) num old []).2.1 (out ++ [(Ez (Cx (rows.getD s.toNat [])) num old []).2.2])
def CH (rows : List (List Ar)) : List (List Ar) × List Int := Dl rows rows.length 0 ((List.replicate rows.length (-1)).set 0 0) [0] []

theorem EA (r acc : List Ar) (a : Ar) : a ∈ r.foldl (fun acc a => CK a acc) acc ↔ a ∈ acc \/ a ∈ r := by
 induction r generalizing acc with
 | nil => simp
 | cons x xs ih => rw [List.foldl_cons, ih, Di, List.mem_cons, or_comm (a := a = x), or_assoc]
theorem C9 (r : List Ar) (a : Ar) : a ∈ Cx r ↔ a ∈ r := by unfold Cx; rw [EA]; simp
theorem EB (r acc : List Ar) : (r.foldl (fun acc a => CK a acc) acc).length <= acc.length + r.length := by
 induction r generalizing acc with
 | nil => simp
 | cons x xs ih => rw [List.foldl_cons, List.length_cons]; have := ih (CK x acc); have := Dj x acc; omega
theorem Iq (r : List Ar) : (Cx r).length <= r.length := by have := EB r []; simpa [Cx] using this

structure NumOk (n : Nat) (num old : List Int) : Prop where
 len : num.length = n
 rng : ∀ x ∈ num, -1 <= x /\ x < n
 st : ∀ s ∈ old, 0 <= s /\ s < n
 cnt : old.length + num.countP (fun x => decide (x < 0)) = n
theorem Ly {p : Int -> Bool} {l : List Int} {i : Nat} {x y : Int} (h : l[i]? = some x) (hx : p x = true) (hy : p y = false) : (l.set i y).countP p + 1 = l.countP p := by
 induction l generalizing i with
 | nil => simp at h
 | cons z zs ih =>
  cases i with
  | zero => simp at h; subst h; simp [List.countP_cons, hx, hy]
  | succ i =>
   simp only [List.getElem?_cons_succ] at h
   have := ih h
   simp only [List.set_cons_succ, List.countP_cons]
   omega
theorem NumOk.le {n : Nat} {num old : List Int} (h : NumOk n num old) : old.length <= n := by have := h.cnt; omega
theorem NumOk.get {n : Nat} {num old : List Int} (h : NumOk n num old) {t : Int} (h0 : 0 <= t) (h1 : t < n) : ∃ x, num[t.toNat]? = some x /\ num.getD t.toNat 0 = x /\ -1 <= x /\ x < n := by
 have hl : t.toNat < num.length := by rw [h.len]; omega
 exact ⟨num[t.toNat], gE1 hl, by simp [hl], h.rng _ (gE6 hl)⟩
theorem NumOk.one {n : Nat} {num old : List Int} (h : NumOk n num old) {t : Int} (h0 : 0 <= t) (h1 : t < n) : NumOk n (B7 num old t).1 (B7 num old t).2 := by
 obtain ⟨x, hx, hd, hb⟩ := h.get h0 h1
 unfold B7
 rw [hd]
 split
 rotate_left
 ·exact h
 rename_i hneg
 have hc := Ly (p := fun x => decide (x < 0)) (y := (old.length : Int)) hx (by simpa using hneg) (by simp)
 have hcnt := h.cnt
 refine ⟨by simp [h.len], fun y hy => ?_, fun s hs => ?_, by simp; omega⟩
 ·rcases List.mem_or_eq_of_mem_set hy with hy | hy
  ·exact h.rng y hy
  subst hy; omega
 rcases List.mem_append.1 hs with hs | hs
 ·exact h.st s hs
 simp at hs; subst hs; exact ⟨h0, h1⟩
theorem NumOk.go {n : Nat} : ∀ (r : List Ar) {num old : List Int} (nxt : List Ar), NumOk n num old -> (∀ a ∈ r, 0 <= a.2 /\ a.2 < n) -> NumOk n (Ez r num old nxt).1 (Ez r num old nxt).2.1
 | [], _, _, _, h, _ => h
 | a :: tl, _, _, nxt, h, hr => NumOk.go tl _ (h.one (hr a (by simp)).1 (hr a (by simp)).2) (fun b hb => hr b (gEf _ hb))
theorem NumOk.start {n : Nat} (hn : 0 < n) : NumOk n ((List.replicate n (-1)).set 0 0) [0] := by
 obtain ⟨k, rfl⟩ : ∃ k, n = k + 1 := ⟨n - 1, by omega⟩
 refine ⟨by simp, fun x hx => ?_, fun s hs => ?_, ?_⟩
 rotate_left
 ·simp at hs; subst hs; omega
 ·simp [List.replicate_succ, List.countP_replicate]; omega
 rcases List.mem_or_eq_of_mem_set hx with h | h
 ·rw [(List.mem_replicate.1 h).2]; omega
 subst h; omega


theorem Lz {rows : List (List Ar)} {f i : Nat} {num old : List Int} {out : List (List Ar)} (h : old.length <= i) : Dl rows f i num old out = (out, old) := by
 cases f with
 | zero => rfl
 | succ f => simp [Dl, List.getElem?_eq_none h]
theorem LA {rows : List (List Ar)} {n i : Nat} {num old : List Int} {out : List (List Ar)} {s : Int} {r : List Ar} (hi : i < n) (hs : old[i]? = some s) (hr : rows[s.toNat]? = some r) {row : List Ar} (hrow : row = Cx r) :
  Dl rows (n - i) i num old out = Dl rows (n - (i + 1)) (i + 1) (Ez row num old []).1 (Ez row num old []).2.1 (out ++ [(Ez row num old []).2.2]) := by
 obtain ⟨m, hm⟩ : ∃ m, n - i = m + 1 := ⟨n - i - 1, by omega⟩
 have hm' : n - (i + 1) = m := by omega
 rw [hm, hm', Dl, hs, hrow]
 have : rows.getD s.toNat [] = r := by simp [List.getD, hr]
 simp only [this]

def DB (p : Ar) : List Ar -> List Ar
 | [] => []
 | y :: ys => if y = p then DB p ys else y :: DB y ys
def P6 : List Ar -> List Ar
 | [] => []
 | x :: xs => x :: DB x xs


theorem C5 : ∀ {l m : List Ar}, SortA l -> SortA m -> (∀ a, a ∈ l ↔ a ∈ m) -> l = m
 | [], [], _, _, _ => rfl
 | [], b :: m, _, _, h => by have := (h b).2 (by simp); simp at this
 | a :: l, [], _, _, h => by have := (h a).1 (by simp); simp at this
 | a :: l, b :: m, hl, hm, h => by
  have hl' := List.pairwise_cons.1 hl
  have hm' := List.pairwise_cons.1 hm
  have hab : a = b := by
   rcases List.mem_cons.1 ((h a).1 (by simp)) with e | e
   ·exact e
   ·rcases List.mem_cons.1 ((h b).2 (by simp)) with e' | e'
    ·exact e'.symm
    ·have h1 := hm'.1 a e
     have h2 := hl'.1 b e'
     rw [CX] at h1 h2; omega
  subst hab
  congr 1
  refine C5 hl'.2 hm'.2 fun c => ⟨fun hc => ?_, fun hc => ?_⟩
  ·rcases List.mem_cons.1 ((h c).1 (gEf _ hc)) with e | e
   ·subst e; have := hl'.1 c hc; rw [F0] at this; cases this
   ·exact e
  ·rcases List.mem_cons.1 ((h c).2 (gEf _ hc)) with e | e
   ·subst e; have := hm'.1 c hc; rw [F0] at this; cases this
   ·exact e
def Wv (a b : Ar) : Prop := Wu b a = false
theorem LB (p : Ar) (l : List Ar) (a : Ar) : a ∈ p :: DB p l ↔ a ∈ p :: l := by
 induction l generalizing p with
 | nil => simp [DB]
 | cons y ys ih =>
  unfold DB
  split
  ·rename_i h; subst h; rw [ih]; simp
  have := ih y
  simp only [List.mem_cons] at this ⊢
  rw [this]
theorem Hs (p : Ar) (l : List Ar) (h : (p :: l).Pairwise Wv) : SortA (p :: DB p l) := by
 induction l generalizing p with
 | nil => simp [DB, SortA]
 | cons y ys ih =>
  have h1 := List.pairwise_cons.1 h
  have h2 := List.pairwise_cons.1 h1.2
  unfold DB
  split
  ·rename_i e; subst e
   exact ih _ (List.pairwise_cons.2 ⟨fun a ha => h2.1 a ha, h2.2⟩)
  rename_i e
  have hy := ih y h1.2
  refine List.pairwise_cons.2 ⟨fun a ha => ?_, hy⟩
  have hpy : Wu p y = true := by
   have := h1.1 y (by simp)
   rcases Hq p y with h | h | h
   ·exact h
   ·exact absurd h.symm e
   unfold Wv at this; rw [h] at this; cases this
  rcases List.mem_cons.1 ha with rfl | ha
  ·exact hpy
  exact Ex hpy ((List.pairwise_cons.1 hy).1 a ha)
theorem AP (r : List Ar) : SortA (Cx r) := by
 unfold Cx
 have : ∀ (l acc : List Ar), SortA acc -> SortA (l.foldl (fun acc a => CK a acc) acc) := by
  intro l
  induction l with
  | nil => intro acc h; exact h
  | cons x xs ih => intro acc h; exact ih _ (Ga h)
 exact this r [] List.Pairwise.nil
theorem MI {r q : List Ar} (hp : q.Perm r) (h : q.Pairwise Wv) : P6 q = Cx r := by
 refine C5 ?_ (AP r) fun a => ?_
 ·cases q with
  | nil => exact List.Pairwise.nil
  | cons x xs => exact Hs x xs h
 rw [C9, <- hp.mem_iff]
 cases q with
 | nil => simp [P6]
 | cons x xs => exact LB x xs a
theorem LC {r q : List Ar} (h : r.Nodup) (hp : q.Perm r) (h1 : q.Pairwise Wv) : q = Cx r := by
 refine C5 ?_ (AP r) fun a => by rw [C9, hp.mem_iff]
 have h2 := hp.symm.nodup h
 refine (List.pairwise_iff_forall_sublist.2 ?_)
 intro a b hab
 have hle := List.pairwise_iff_forall_sublist.1 h1 hab
 have hne := List.pairwise_iff_forall_sublist.1 h2 hab
 rcases Hq a b with h | h | h
 ·exact h
 ·exact absurd h hne
 unfold Wv at hle; rw [h] at hle; cases hle
def CY : List Ar -> List Int -> List Int -> List Int × List Int × List Ar
 | [], num, old => (num, old, [])
 | a :: tl, num, old =>
  ((CY tl (B7 num old a.2).1 (B7 num old a.2).2).1, (CY tl (B7 num old a.2).1 (B7 num old a.2).2).2.1,
   (a.1, (B7 num old a.2).1.getD a.2.toNat 0) :: (CY tl (B7 num old a.2).1 (B7 num old a.2).2).2.2)
theorem GZ (r : List Ar) (num old : List Int) (nxt : List Ar) :
  Ez r num old nxt = ((CY r num old).1, (CY r num old).2.1, (CY r num old).2.2.foldl (fun acc a => CK a acc) nxt) := by
 induction r generalizing num old nxt with
 | nil => rfl
 | cons a tl ih => simp only [Ez, CY, ih, List.foldl_cons]
structure NumInj (num old : List Int) : Prop where
 inj : ∀ (t : Nat) (x : Int), num[t]? = some x -> 0 <= x -> old[x.toNat]? = some (t : Int)
theorem NumInj.one {num old : List Int} (h : NumInj num old) {t : Int} (h0 : 0 <= t) (h1 : t < num.length) : NumInj (B7 num old t).1 (B7 num old t).2 := by
 unfold B7
 split
 rotate_left
 ·exact h
 refine ⟨fun s x hx hp => ?_⟩
 rw [List.getElem?_set] at hx
 split at hx
 ·rename_i hs
  rw [if_pos (by omega)] at hx
  injection hx with hx
  subst hx
  simp
  omega
 have := h.inj s x hx hp
 rw [gEa (List.getElem?_eq_some_iff.1 this).1]
 exact this
theorem F2 (num old : List Int) (t : Int) : (B7 num old t).1.length = num.length := by unfold B7; split <;> simp
theorem Jj {num old : List Int} {t : Int} {s : Nat} {x : Int} (h0 : 0 <= t) (hx : num[s]? = some x) (hp : 0 <= x) : (B7 num old t).1[s]? = some x := by
 unfold B7
 split
 rotate_left
 ·exact hx
 rename_i hneg
 simp only [List.getElem?_set]
 split
 rotate_left
 ·exact hx
 rename_i hs
 subst hs
 simp [List.getD, hx] at hneg
 omega
theorem MJ {num old : List Int} {t : Int} (h0 : 0 <= t) (h1 : t < num.length) : ∃ x, (B7 num old t).1[t.toNat]? = some x /\ 0 <= x := by
 unfold B7
 split
 ·exact ⟨_, by rw [List.getElem?_set, if_pos rfl, if_pos (by omega)], by omega⟩
 rename_i hneg
 have hl : t.toNat < num.length := by omega
 refine ⟨num[t.toNat], gE1 hl, ?_⟩
 simpa [List.getD, gE1 hl] using hneg
theorem MK (r : List Ar) {num old : List Int} (hr : ∀ a ∈ r, 0 <= a.2) {s : Nat} {x : Int} (hx : num[s]? = some x) (hp : 0 <= x) : (CY r num old).1[s]? = some x := by
 induction r generalizing num old with
 | nil => exact hx
 | cons a tl ih => exact ih (fun b hb => hr b (by simp [hb])) (Jj (hr a (by simp)) hx hp)
theorem Ht (r : List Ar) {num old : List Int} (hr : ∀ a ∈ r, 0 <= a.2 /\ a.2 < num.length) (h : NumInj num old) : NumInj (CY r num old).1 (CY r num old).2.1 := by
 induction r generalizing num old with
 | nil => exact h
 | cons a tl ih =>
  have ha := hr a (by simp)
  exact ih (fun b hb => by rw [F2]; exact hr b (by simp [hb])) (h.one ha.1 ha.2)
theorem Kb (r : List Ar) {num old : List Int} (hr : ∀ a ∈ r, 0 <= a.2 /\ a.2 < num.length) :
  (CY r num old).2.2 = r.map (fun a => (a.1, (CY r num old).1.getD a.2.toNat 0)) /\ ∀ a ∈ r, ∃ x, (CY r num old).1[a.2.toNat]? = some x /\ 0 <= x := by
 induction r generalizing num old with
 | nil => exact ⟨rfl, by simp⟩
 | cons a tl ih =>
  have ha := hr a (by simp)
  obtain ⟨i1, i2⟩ := ih (num := (B7 num old a.2).1) (old := (B7 num old a.2).2) (fun b hb => by rw [F2]; exact hr b (by simp [hb]))
  obtain ⟨x, hx, hp⟩ := MJ (old := old) ha.1 ha.2
  have hk := MK (old := (B7 num old a.2).2) tl (fun b hb => (hr b (by simp [hb])).1) hx hp
  refine ⟨?_, fun b hb => ?_⟩
  ·simp only [CY, List.map_cons]
   congr 1
   simp [List.getD, hx, hk]
  rcases List.mem_cons.1 hb with rfl | hb
  ·exact ⟨x, hk, hp⟩
  exact i2 b hb
theorem LD (r : List Ar) {num old : List Int} (hs : SortA r) (hr : ∀ a ∈ r, 0 <= a.2 /\ a.2 < num.length) (h : NumInj num old) : (CY r num old).2.2.Nodup := by
 obtain ⟨h1, h2⟩ := Kb (old := old) r hr
 have hi := Ht r hr h
 rw [h1, List.Nodup, List.pairwise_map]
 have hnd : r.Pairwise (· ≠ ·) := hs.imp (fun {a b} hab e => by subst e; rw [F0] at hab; cases hab)
 refine hnd.imp_of_mem (fun {a b} ha hb hne e => hne ?_)
 obtain ⟨x, hx, hxp⟩ := h2 a ha
 obtain ⟨y, hy, hyp⟩ := h2 b hb
 have ha' := hr a ha
 have hb' := hr b hb
 simp only [Prod.mk.injEq, List.getD, hx, hy, Option.getD_some] at e
 obtain ⟨e1, e2⟩ := e
 subst e2
 have q1 := hi.inj _ _ hx hxp
 have q2 := hi.inj _ _ hy hxp
 rw [q1] at q2
 injection q2 with q2
 rcases a with ⟨a1, a2⟩
 rcases b with ⟨b1, b2⟩
 simp only at *
 have : a2 = b2 := by omega
 rw [e1, this]
theorem NumInj.start {n : Nat} (hn : 0 < n) : NumInj ((List.replicate n (-1)).set 0 0) [0] := ⟨fun t x hx hp => by
 rw [List.getElem?_set] at hx
 split at hx
 ·rename_i h
  subst h
  simp [hn] at hx
  subst hx; rfl
 ·rw [List.getElem?_replicate] at hx
  split at hx
  ·cases hx; omega
  ·cases hx⟩

theorem P7 {tl : List Ar} {num old : List Int} {e x : Int} {tn L : Nat} (hx : num[tn]? = some x) (hneg : x < 0) (hL : old.length = L) :
  CY ((e, (tn : Int)) :: tl) num old = ((CY tl (num.set tn L) (old ++ [(tn : Int)])).1, (CY tl (num.set tn L) (old ++ [(tn : Int)])).2.1, (e, (L : Int)) :: (CY tl (num.set tn L) (old ++ [(tn : Int)])).2.2) := by
 have hl : tn < num.length := (List.getElem?_eq_some_iff.1 hx).1
 have h1 : B7 num old (tn : Int) = (num.set tn L, old ++ [(tn : Int)]) := by
  simp only [B7, Int.toNat_natCast, List.getD, hx, Option.getD_some, if_pos hneg, hL]
 simp only [CY, h1, Int.toNat_natCast]
 simp [List.getD, hl]
theorem P8 {tl : List Ar} {num old : List Int} {e x : Int} {tn : Nat} (hx : num[tn]? = some x) (hpos : ¬ x < 0) :
  CY ((e, (tn : Int)) :: tl) num old = ((CY tl num old).1, (CY tl num old).2.1, (e, x) :: (CY tl num old).2.2) := by
 have h1 : B7 num old (tn : Int) = (num, old) := by
  simp only [B7, Int.toNat_natCast, List.getD, hx, Option.getD_some, if_neg hpos]
 simp only [CY, h1, Int.toNat_natCast, List.getD, hx, Option.getD_some]
def NL (R : List Int × List Int × List Ar) (ya q : List Ar) (k : Nat) (num old : List Int) : Prop :=
 ya.take k ++ (CY (q.drop k) num old).2.2 = R.2.2 /\ (CY (q.drop k) num old).1 = R.1 /\ (CY (q.drop k) num old).2.1 = R.2.1 /\ ya.drop k = q.drop k
theorem NL.neg {R : List Int × List Int × List Ar} {ya q : List Ar} {k : Nat} {num old : List Int} {e x : Int} {tn L : Nat} (h : NL R ya q k num old) (hk : ya[k]? = some (e, (tn : Int))) (hx : num[tn]? = some x) (hneg : x < 0) (hL : old.length = L) :
  NL R (ya.set k (e, (L : Int))) q (k + 1) (num.set tn L) (old ++ [(tn : Int)]) := by
 obtain ⟨h1, h2, h3, h4⟩ := h
 have hl := (List.getElem?_eq_some_iff.1 hk).1
 have hd : q.drop k = (e, (tn : Int)) :: q.drop (k + 1) := by
  have h5 : ya.drop k = (e, (tn : Int)) :: ya.drop (k + 1) := by
   rw [List.drop_eq_getElem_cons hl]; congr 1
   rw [gE1 hl] at hk; exact Option.some.inj hk
  have h6 := congrArg (List.drop 1) h4
  rw [List.drop_drop, List.drop_drop] at h6
  rw [<- h4, h5, h6]
 rw [hd, P7 hx hneg hL] at h1 h2 h3
 refine ⟨?_, h2, h3, ?_⟩
 ·rw [<- h1, List.take_add_one, List.take_set_of_le (Nat.le_refl k)]
  simp [List.getElem?_set, hl]
 rw [List.drop_set, if_pos (by omega)]
 have h6 := congrArg (List.drop 1) h4
 rwa [List.drop_drop, List.drop_drop] at h6
theorem NL.pos {R : List Int × List Int × List Ar} {ya q : List Ar} {k : Nat} {num old : List Int} {e x : Int} {tn : Nat} (h : NL R ya q k num old) (hk : ya[k]? = some (e, (tn : Int))) (hx : num[tn]? = some x) (hpos : ¬ x < 0) :
  NL R (ya.set k (e, x)) q (k + 1) num old := by
 obtain ⟨h1, h2, h3, h4⟩ := h
 have hl := (List.getElem?_eq_some_iff.1 hk).1
 have hd : q.drop k = (e, (tn : Int)) :: q.drop (k + 1) := by
  have h5 : ya.drop k = (e, (tn : Int)) :: ya.drop (k + 1) := by
   rw [List.drop_eq_getElem_cons hl]; congr 1
   rw [gE1 hl] at hk; exact Option.some.inj hk
  have h6 := congrArg (List.drop 1) h4
  rw [List.drop_drop, List.drop_drop] at h6
  rw [<- h4, h5, h6]
 rw [hd, P8 hx hpos] at h1 h2 h3
 refine ⟨?_, h2, h3, ?_⟩
 ·rw [<- h1, List.take_add_one, List.take_set_of_le (Nat.le_refl k)]
  simp [List.getElem?_set, hl]
 rw [List.drop_set, if_pos (by omega)]
 have h6 := congrArg (List.drop 1) h4
 rwa [List.drop_drop, List.drop_drop] at h6


section
variable {α β : Type} [DecidableEq α] [DecidableEq β]
def Ww (f : Nat -> α) : Nat -> List Int × Nat
 | 0 => ([], 0)
 | k + 1 => match (List.range k).find? (fun t => decide (f t = f k)) with
  | some t => ((Ww f k).1 ++ [(Ww f k).1.getD t 0], (Ww f k).2)
  | none => ((Ww f k).1 ++ [((Ww f k).2 : Int)], (Ww f k).2 + 1)
theorem Dm {f : Nat -> α} {k t : Nat} (h : (List.range k).find? (fun t => decide (f t = f k)) = some t) : Ww f (k + 1) = ((Ww f k).1 ++ [(Ww f k).1.getD t 0], (Ww f k).2) := by rw [Ww, h]
theorem Dn {f : Nat -> α} {k : Nat} (h : (List.range k).find? (fun t => decide (f t = f k)) = none) : Ww f (k + 1) = ((Ww f k).1 ++ [((Ww f k).2 : Int)], (Ww f k).2 + 1) := by rw [Ww, h]
theorem DC {f : Nat -> α} {k t : Nat} (ht : t < k) (h : f t = f k) (hn : ∀ u, u < t -> f u ≠ f k) : (List.range k).find? (fun t => decide (f t = f k)) = some t := by
 rw [List.find?_range_eq_some]
 exact ⟨by simpa using h, by simpa using ht, fun j hj => by simpa using hn j hj⟩
theorem DD {f : Nat -> α} {k : Nat} (hn : ∀ u, u < k -> f u ≠ f k) : (List.range k).find? (fun t => decide (f t = f k)) = none := by
 rw [List.find?_range_eq_none]
 exact fun j hj => by simpa using hn j hj
theorem EC (f : Nat -> α) (k : Nat) : (∃ t, t < k /\ f t = f k /\ (∀ u, u < t -> f u ≠ f k) /\ Ww f (k + 1) = ((Ww f k).1 ++ [(Ww f k).1.getD t 0], (Ww f k).2)) \/ ((∀ u, u < k -> f u ≠ f k) /\ Ww f (k + 1) = ((Ww f k).1 ++ [((Ww f k).2 : Int)], (Ww f k).2 + 1)) := by
 cases h : (List.range k).find? (fun t => decide (f t = f k)) with
 | some t =>
  have h2 := List.find?_range_eq_some.1 h
  exact .inl ⟨t, by simpa using h2.2.1, by simpa using h2.1, fun u hu => by simpa using h2.2.2 u hu, Dm h⟩
 | none =>
  have h2 := List.find?_range_eq_none.1 h
  exact .inr ⟨fun u hu => by simpa using h2 u hu, Dn h⟩
structure NmOk (f : Nat -> α) (k : Nat) (p : List Int × Nat) : Prop where
 len : p.1.length = k
 eq : ∀ s t, s < k -> t < k -> (p.1.getD s 0 = p.1.getD t 0 ↔ f s = f t)
 rng : ∀ s, s < k -> 0 <= p.1.getD s 0 /\ p.1.getD s 0 < (p.2 : Int)
 cnt : p.2 <= k
theorem CS {l : List Int} {x : Int} {s : Nat} (h : s < l.length) : (l ++ [x]).getD s 0 = l.getD s 0 := by
 rw [gE2, gEa h, <- gE2]
theorem DE {l : List Int} {x : Int} {s : Nat} (h : s = l.length) : (l ++ [x]).getD s 0 = x := by
 subst h
 rw [gE2, gEb (Nat.le_refl _), Nat.sub_self]; rfl
theorem Ca (f : Nat -> α) (k : Nat) : NmOk f k (Ww f k) := by
 induction k with
 | zero => exact ⟨rfl, fun s t h => by omega, fun s h => by omega, Nat.le_refl _⟩
 | succ k ih =>
  have hl := ih.len
  rcases EC f k with ⟨t, h1, h2, h3, h4⟩ | ⟨h3, h4⟩
  ·rw [h4]
   generalize Ww f k = p at *
   have g1 : ∀ s, s < k -> (p.1 ++ [p.1.getD t 0]).getD s 0 = p.1.getD s 0 := fun s hs => CS (by omega)
   have g2 : (p.1 ++ [p.1.getD t 0]).getD k 0 = p.1.getD t 0 := DE hl.symm
   refine ⟨by simp [hl], fun s u hs hu => ?_, fun s hs => ?_, by have := ih.cnt; simp only; omega⟩
   rotate_left
   ·simp only
    rcases Nat.lt_or_ge s k with a | a
    ·rw [g1 s a]; exact ih.rng s a
    have : s = k := by omega
    subst this; rw [g2]; exact ih.rng t h1
   simp only
   rcases Nat.lt_or_ge s k with a | a <;> rcases Nat.lt_or_ge u k with b | b
   ·rw [g1 s a, g1 u b]; exact ih.eq s u a b
   ·have : u = k := by omega
    subst this
    rw [g1 s a, g2, ih.eq s t a h1, h2]
   ·have : s = k := by omega
    subst this
    rw [g1 u b, g2, ih.eq t u h1 b, h2]
   have e1 : s = k := by omega
   have e2 : u = k := by omega
   subst e1; subst e2; simp
  rw [h4]
  generalize Ww f k = p at *
  have g1 : ∀ s, s < k -> (p.1 ++ [(p.2 : Int)]).getD s 0 = p.1.getD s 0 := fun s hs => CS (by omega)
  have g2 : (p.1 ++ [(p.2 : Int)]).getD k 0 = p.2 := DE hl.symm
  refine ⟨by simp [hl], fun s u hs hu => ?_, fun s hs => ?_, by have := ih.cnt; simp only; omega⟩
  rotate_left
  ·simp only
   rcases Nat.lt_or_ge s k with a | a
   ·rw [g1 s a]; have := ih.rng s a; omega
   have : s = k := by omega
   subst this; rw [g2]; omega
  simp only
  rcases Nat.lt_or_ge s k with a | a <;> rcases Nat.lt_or_ge u k with b | b
  rotate_left 3
  ·have e1 : s = k := by omega
   have e2 : u = k := by omega
   subst e1; subst e2; simp
  ·rw [g1 s a, g1 u b]; exact ih.eq s u a b
  ·have : u = k := by omega
   subst this
   rw [g1 s a, g2]
   have := ih.rng s a
   exact ⟨fun e => by omega, fun e => absurd e (h3 s a)⟩
  have : s = k := by omega
  subst this
  rw [g1 u b, g2]
  have := ih.rng u b
  exact ⟨fun e => by omega, fun e => absurd e.symm (h3 u b)⟩
theorem Jk {f : Nat -> α} {g : Nat -> β} : ∀ k, (∀ s t, s < k -> t < k -> (f s = f t ↔ g s = g t)) -> Ww f k = Ww g k := by
 intro k
 induction k with
 | zero => intro _; rfl
 | succ k ih =>
  intro h
  have ih2 := ih fun s t hs ht => h s t (by omega) (by omega)
  rcases EC f k with ⟨t, h1, h2, h3, h4⟩ | ⟨h3, h4⟩
  ·rw [h4, Dm (f := g) (DC h1 ((h t k (by omega) (by omega)).1 h2) fun u hu e => h3 u hu ((h u k (by omega) (by omega)).2 e)), ih2]
  rw [h4, Dn (f := g) (DD fun u hu e => h3 u hu ((h u k (by omega) (by omega)).2 e)), ih2]
theorem Kc (f : Nat -> α) (n : Nat) : Ww (fun s => (Ww f n).1.getD s 0) n = Ww f n := Jk n fun s t hs ht => (Ca f n).eq s t hs ht
def P9 (f : Nat -> α) (k : Nat) : Bool := (List.range k).all fun t => !decide (f t = f k)
theorem DS {f : Nat -> α} {k : Nat} : P9 f k = true ↔ ∀ t, t < k -> f t ≠ f k := by simp [P9]
theorem Kd (f : Nat -> α) (k : Nat) : (Ww f k).2 = (List.range k).countP (P9 f) := by
 induction k with
 | zero => rfl
 | succ k ih =>
  rw [List.range_succ, List.countP_append, <- ih]
  rcases EC f k with ⟨t, h1, h2, h3, h4⟩ | ⟨h3, h4⟩
  rotate_left
  ·have : P9 f k = true := DS.2 h3
   rw [h4]; simp [this]
  have : P9 f k = false := by
   rw [<- Bool.not_eq_true, DS]
   exact fun h => h t h1 h2
  rw [h4]; simp [this]
theorem ED {γ : Type} {p q : γ -> Bool} : ∀ {l : List γ}, (∀ x ∈ l, p x = true -> q x = true) -> l.countP p = l.countP q -> ∀ x ∈ l, q x = true -> p x = true
 | [], _, _, x, hx, _ => by simp at hx
 | a :: r, h, e, x, hx, hq => by
  have hle := List.countP_mono_left (p := p) (q := q) (l := r) fun y hy => h y (gEf _ hy)
  rw [List.countP_cons, List.countP_cons] at e
  have ha := h a (by simp)
  rcases List.mem_cons.1 hx with rfl | hx
  ·cases hp : p x with
   | true => rfl
   | false => rw [hp, hq] at e; simp at e; omega
  ·refine ED (fun y hy => h y (gEf _ hy)) ?_ x hx hq
   cases hp : p a with
   | true => rw [hp, ha hp] at e; simp at e; exact e
   | false =>
    rw [hp] at e
    cases hqa : q a with
    | true => rw [hqa] at e; simp at e; omega
    | false => rw [hqa] at e; simpa using e
theorem Ke {f : Nat -> α} (s : Nat) : ∃ t, t <= s /\ f t = f s /\ P9 f t = true := by
 induction s using Nat.strongRecOn with
 | _ s ih =>
  cases h : P9 f s with
  | true => exact ⟨s, Nat.le_refl _, rfl, h⟩
  | false =>
   have : ¬ ∀ t, t < s -> f t ≠ f s := fun q => by rw [DS.2 q] at h; cases h
   obtain ⟨t, ht, e⟩ : ∃ t, t < s /\ f t = f s := Classical.byContradiction fun q => this fun t ht e => q ⟨t, ht, e⟩
   obtain ⟨u, h1, h2, h3⟩ := ih t ht
   exact ⟨u, by omega, h2.trans e, h3⟩
theorem MM {f : Nat -> α} {g : Nat -> β} {n : Nat} (h : ∀ s t, s < n -> t < n -> g s = g t -> f s = f t) : (Ww f n).2 <= (Ww g n).2 /\ ((Ww f n).2 = (Ww g n).2 -> Ww f n = Ww g n) := by
 have hsub : ∀ k ∈ List.range n, P9 f k = true -> P9 g k = true := fun k hk hf => by
  rw [List.mem_range] at hk
  rw [DS] at hf ⊢
  exact fun t ht e => hf t ht (h t k (by omega) hk e)
 rw [Kd, Kd]
 refine ⟨List.countP_mono_left hsub, fun e => Jk n fun s t hs ht => ⟨fun hf => ?_, h s t hs ht⟩⟩
 have hback := ED hsub e
 obtain ⟨s1, a1, a2, a3⟩ := Ke (f := g) s
 obtain ⟨t1, b1, b2, b3⟩ := Ke (f := g) t
 have c1 := DS.1 (hback s1 (List.mem_range.2 (by omega)) a3)
 have c2 := DS.1 (hback t1 (List.mem_range.2 (by omega)) b3)
 have d1 : f s1 = f s := h s1 s (by omega) hs a2
 have d2 : f t1 = f t := h t1 t (by omega) ht b2
 have e3 : f s1 = f t1 := by rw [d1, d2, hf]
 have e4 : s1 = t1 := by
  rcases Nat.lt_trichotomy s1 t1 with q | q | q
  ·exact absurd e3 (c2 s1 q)
  ·exact q
  exact absurd e3.symm (c1 t1 q)
 rw [<- a2, <- b2, e4]
end
def Wx (S : List (List Ar)) (c : List Int) (s : Nat) : List Ar := Cx ((S.getD s []).map fun a => (a.1, c.getD a.2.toNat 0))
theorem DF {S : List (List Ar)} {c : List Int} {s : Nat} {x : Ar} : x ∈ Wx S c s ↔ ∃ a ∈ S.getD s [], x = (a.1, c.getD a.2.toNat 0) := by
 unfold Wx
 rw [C9, List.mem_map]
 exact ⟨fun ⟨a, h1, h2⟩ => ⟨a, h1, h2.symm⟩, fun ⟨a, h1, h2⟩ => ⟨a, h1, h2.symm⟩⟩
def LE (c : List Int) (row : List Ar) (e x : Int) : Bool := row.any fun a => a.1 == e && c.getD a.2.toNat 0 == x
def Ir (c : List Int) (a b : List Ar) : Bool := a.all fun x => LE c b x.1 (c.getD x.2.toNat 0)
theorem MN {S : List (List Ar)} {c : List Int} {s t : Nat} : Wx S c s = Wx S c t ↔ Ir c (S.getD s []) (S.getD t []) = true /\ Ir c (S.getD t []) (S.getD s []) = true := by
 have key : ∀ s t, Ir c (S.getD s []) (S.getD t []) = true ↔ ∀ x ∈ Wx S c s, x ∈ Wx S c t := by
  intro s t
  simp only [Ir, LE, List.all_eq_true, List.any_eq_true, Bool.and_eq_true, beq_iff_eq]
  constructor
  ·intro h x hx
   obtain ⟨a, ha, rfl⟩ := DF.1 hx
   obtain ⟨b, hb, h1, h2⟩ := h a ha
   exact DF.2 ⟨b, hb, by rw [h1, h2]⟩
  intro h a ha
  obtain ⟨b, hb, e⟩ := DF.1 (h _ (DF.2 ⟨a, ha, rfl⟩))
  injection e with e1 e2
  exact ⟨b, hb, e1.symm, e2.symm⟩
 rw [key, key]
 constructor
 ·intro h; rw [h]; exact ⟨fun _ h => h, fun _ h => h⟩
 rintro ⟨h1, h2⟩
 exact C5 (AP _) (AP _) fun x => ⟨h1 x, h2 x⟩
def Wy (S : List (List Ar)) (c : List Int) (s : Nat) : Int × List Ar := (c.getD s 0, Wx S c s)
def Wz (S : List (List Ar)) (c : List Int) : List Int := (Ww (Wy S c) S.length).1
def WB (S : List (List Ar)) (c : List Int) : Nat -> List Int
 | 0 => c
 | k + 1 => Wz S (WB S c k)
def FxS (S : List (List Ar)) (c d : List Int) : Prop := ∃ k, d = WB S c k /\ Wz S d = d
theorem FxS.stay {S : List (List Ar)} {c : List Int} {k j : Nat} (h : Wz S (WB S c k) = WB S c k) (hj : k <= j) : WB S c j = WB S c k := by
 induction j with
 | zero =>
  have : k = 0 := by omega
  subst this; rfl
 | succ j ih =>
  by_cases e : k = j + 1
  ·subst e; rfl
  rw [WB, ih (by omega), h]
theorem FxS.uniq {S : List (List Ar)} {c d e : List Int} (h1 : FxS S c d) (h2 : FxS S c e) : d = e := by
 obtain ⟨k, rfl, hk⟩ := h1
 obtain ⟨j, rfl, hj⟩ := h2
 rcases Nat.le_total k j with h | h
 ·exact (FxS.stay hk h).symm
 exact FxS.stay hj h
def Nrm (n : Nat) (c : List Int) : Prop := (Ww (fun s => c.getD s 0) n).1 = c
def F3 (n : Nat) (c : List Int) : Nat := (Ww (fun s => c.getD s 0) n).2
theorem Qx {α : Type} [DecidableEq α] (f : Nat -> α) (n : Nat) : Nrm n (Ww f n).1 := by unfold Nrm; rw [Kc]
theorem MO {α : Type} [DecidableEq α] (f : Nat -> α) (n : Nat) : F3 n (Ww f n).1 = (Ww f n).2 := by unfold F3; rw [Kc]
theorem Nrm.len {n : Nat} {c : List Int} (h : Nrm n c) : c.length = n := by rw [<- h]; exact (Ca _ n).len
theorem Nrm.rng {n : Nat} {c : List Int} (h : Nrm n c) : ∀ x ∈ c, 0 <= x /\ x < (n : Int) := fun x hx => by
 obtain ⟨i, hi, rfl⟩ := List.getElem_of_mem hx
 have hl := h.len
 have h1 := (Ca (fun s => c.getD s 0) n).rng i (by omega)
 have h2 := (Ca (fun s => c.getD s 0) n).cnt
 unfold Nrm at h
 rw [h, gE2, gE1 hi, Option.getD_some] at h1
 omega
theorem MP (S : List (List Ar)) (c : List Int) : Nrm S.length (Wz S c) := Qx _ _
theorem Tt {S : List (List Ar)} {c : List Int} (h : Nrm S.length c) (hne : Wz S c ≠ c) : F3 S.length c < F3 S.length (Wz S c) := by
 have hr := MM (f := fun s => c.getD s 0) (g := Wy S c) (n := S.length) fun s t _ _ e => by
  have := congrArg Prod.fst e
  exact this
 have e1 : F3 S.length (Wz S c) = (Ww (Wy S c) S.length).2 := MO _ _
 rw [e1]
 unfold F3
 rcases Nat.lt_or_eq_of_le hr.1 with q | q
 ·exact q
 exfalso
 apply hne
 have := hr.2 q
 unfold Wz
 rw [<- this]
 exact h
theorem Kf (n : Nat) (c : List Int) : F3 n c <= n := (Ca _ n).cnt
structure TpOk (T : List Int) : Prop where
 len : T.length <= 9223372036854775807
 in_ : ∀ x ∈ T, Lg x
/-! rows of numbers -/
def A7 (xs : List Int) : List C := xs.map fun x => C.v (.int .i64 x)
def Aw (xs : List Int) : Ob := .r ⟨3, 1, true, A7 xs⟩
theorem A5 (xs : List Int) : (A7 xs).length = xs.length := by simp [A7]
theorem Ax {xs : List Int} {i : Nat} {x : Int} (h : xs[i]? = some x) : (A7 xs)[i]? = some (.v (.int .i64 x)) := by simp [A7, h]
theorem AM (xs : List Int) (n : Nat) : (A7 xs).take n = A7 (xs.take n) := by simp [A7, List.map_take]
theorem AY (xs : List Int) (n : Nat) : (A7 xs).drop n = A7 (xs.drop n) := by simp [A7, List.map_drop]
theorem Bd (xs ys : List Int) : A7 xs ++ A7 ys = A7 (xs ++ ys) := by simp [A7]
theorem B6 (xs : List Int) : (A7 xs).all C.one = true := by simp [A7, C.one]
theorem AH (xs : List Int) (x : Int) : A7 xs ++ [.v (.int .i64 x)] = A7 (xs ++ [x]) := by simp [A7]
theorem Ak (f : List Nat) (L : List Int) : (A7 L).map (C.ren f) = A7 L := by simp [A7, C.ren, Function.comp_def]
theorem CT (f : Nat -> Nat) (L : List Int) : (A7 L).map (C.up f) = A7 L := by simp [A7, C.up, Function.comp_def]
theorem Az (xs : List Int) (n : Nat) : (Aa xs).take n = Aa (xs.take n) := by simp [Aa, List.map_take]
theorem AZ (xs : List Int) (n : Nat) : (Aa xs).drop n = Aa (xs.drop n) := by simp [Aa, List.map_drop]
theorem BC (xs : List Int) : (Aa xs).map C.ofTr = A7 xs := P4 xs
theorem Gd (L : List Int) : Fz (A7 L) (Aa L) := by unfold A7 Aa; exact Fz.map fun x _ => .inl rfl
end Go.Proofs.YthnkailnoobdoaaGreatDoor
