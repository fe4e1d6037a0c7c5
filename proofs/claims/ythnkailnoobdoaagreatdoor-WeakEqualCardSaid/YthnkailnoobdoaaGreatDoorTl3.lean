/- Lemmas. -/
import Derived.Test.YthnkailnoobdoaaGreatDoorG45
import Derived.Test.YthnkailnoobdoaaGreatDoorMF
import Derived.Test.YthnkailnoobdoaaGreatDoorZk
import Derived.Test.YthnkailnoobdoaaGreatDoorG11
import Derived.Test.YthnkailnoobdoaaGreatDoorG53
import Derived.Test.YthnkailnoobdoaaGreatDoorOd1
import Derived.Test.YthnkailnoobdoaaGreatDoorG42
import Derived.Test.YthnkailnoobdoaaGreatDoorMG
namespace Go.Proofs.YthnkailnoobdoaaGreatDoor
set_option linter.unusedVariables false
set_option linter.unusedSimpArgs false

def Y3 (f : Nat -> Nat) (c : Nat) (o : List (List Ar)) (a : Ar) : List (List Ar) := o.set c (CK (a.1, (f a.2.toNat : Int)) (o.getD c []))
def UP (f : Nat -> Nat) (c : Nat) (o : List (List Ar)) (row : List Ar) : List (List Ar) := row.foldl (Y3 f c) o
theorem SG (f : Nat -> Nat) (c : Nat) (o : List (List Ar)) (a : Ar) : (Y3 f c o a).length = o.length := by simp [Y3]
def SameS (o p : List (List Ar)) : Prop := o.length = p.length /\ ∀ i a, a ∈ o.getD i [] ↔ a ∈ p.getD i []
theorem SameS.one {f : Nat -> Nat} {c : Nat} {o p : List (List Ar)} (h : SameS o p) (a : Ar) : SameS (Y3 f c o a) (WQ f c p a) := by
 refine ⟨by rw [SG, Rx]; exact h.1, fun i b => ?_⟩
 have h1 := h.1
 unfold Y3 WQ
 simp only [gE2, List.getElem?_set]
 by_cases hi : c = i
 rotate_left
 ·rw [if_neg hi, if_neg hi]
  have h2 := h.2 i b
  simpa only [gE2] using h2
 subst hi
 by_cases hc : c < o.length
 rotate_left
 ·rw [if_pos rfl, if_neg hc, if_pos rfl, if_neg (by omega)]
 have h2 := h.2 c b
 simp only [gE2] at h2
 rw [if_pos rfl, if_pos hc, if_pos rfl, if_pos (by omega)]
 simp only [Option.getD_some, Di, List.mem_append, List.mem_singleton, h2, or_comm]
theorem SameS.row {f : Nat -> Nat} {c : Nat} : ∀ (row : List Ar) {o p : List (List Ar)}, SameS o p -> SameS (UP f c o row) (UF f c p row)
 | [], _, _, h => h
 | a :: r, _, _, h => SameS.row r (h.one a)
open Go.RowKit
def NumSur (num old : List Int) : Prop := ∀ (j : Nat) (s : Int), old[j]? = some s -> 0 <= s /\ num[s.toNat]? = some (j : Int)
theorem NumSur.one {num old : List Int} (h : NumSur num old) {t : Int} (h0 : 0 <= t) (h1 : t < num.length) : NumSur (B7 num old t).1 (B7 num old t).2 := by
 have htl : t.toNat < num.length := by omega
 unfold B7
 split
 rotate_left
 ·exact h
 rename_i hneg
 intro j s hs
 simp only at hs ⊢
 rcases Nat.lt_or_ge j old.length with hj | hj
 ·rw [gEa hj] at hs
  obtain ⟨q1, q2⟩ := h j s hs
  refine ⟨q1, ?_⟩
  rw [List.getElem?_set, if_neg, q2]
  intro e
  rw [e, gE2, q2, Option.getD_some] at hneg
  omega
 rw [gEb hj] at hs
 have hj' : j = old.length := by
  have := (List.getElem?_eq_some_iff.1 hs).1
  simp at this
  omega
 subst hj'
 simp at hs
 subst hs
 exact ⟨h0, by rw [List.getElem?_set, if_pos rfl, if_pos htl]⟩
theorem Q9 (r : List Ar) {num old : List Int} (hr : ∀ a ∈ r, 0 <= a.2 /\ a.2 < num.length) (h : NumSur num old) : NumSur (CY r num old).1 (CY r num old).2.1 := by
 induction r generalizing num old with
 | nil => exact h
 | cons a tl ih =>
  have ha := hr a (by simp)
  exact ih (fun b hb => by rw [F2]; exact hr b (by simp [hb])) (h.one ha.1 ha.2)
theorem LW (num old : List Int) (t : Int) {j : Nat} {s : Int} (h : old[j]? = some s) : (B7 num old t).2[j]? = some s := by
 unfold B7
 split
 rotate_left
 ·exact h
 simp only
 rw [gEa (List.getElem?_eq_some_iff.1 h).1, h]
theorem La (r : List Ar) {num old : List Int} {j : Nat} {s : Int} (h : old[j]? = some s) : (CY r num old).2.1[j]? = some s := by
 induction r generalizing num old with
 | nil => exact h
 | cons a tl ih => exact ih (LW num old a.2 h)
theorem O9 (r : List Ar) (num old : List Int) : old.length <= (CY r num old).2.1.length := by
 rcases Nat.eq_zero_or_pos old.length with h | h
 ·omega
 have := La r (num := num) (old := old) (j := old.length - 1) (s := old[old.length - 1]) (gE1 (by omega))
 have := (List.getElem?_eq_some_iff.1 this).1
 omega
theorem NumSur.start {n : Nat} (hn : 0 < n) : NumSur ((List.replicate n (-1)).set 0 0) [0] := by
 intro j s hs
 cases j with
 | succ j => simp at hs
 | zero =>
  simp at hs; subst hs
  exact ⟨by omega, by simp [hn]⟩
theorem Oa (V : List (List Ar)) (s : Nat) : AN (V.set s []) + (V.getD s []).length = AN V := by
 induction V generalizing s with
 | nil => simp [AN]
 | cons x r ih =>
  cases s with
  | zero => simp [AN]; omega
  | succ s =>
   have := ih s
   simp only [List.set_cons_succ, List.getD_cons_succ]
   simp only [AN, List.map_cons, List.sum_cons] at this ⊢
   omega
theorem IK (l acc : List Ar) (h : SortA acc) : SortA (l.foldl (fun acc a => CK a acc) acc) := by
 induction l generalizing acc with
 | nil => exact h
 | cons a r ih => exact ih _ (Ga h)
structure RowsG (n : Nat) (out : List (List Ar)) : Prop where
 so : ∀ r ∈ out, SortA r
 bd : ∀ r ∈ out, ∀ a ∈ r, 0 <= a.1 /\ a.1 <= 1025 /\ 0 <= a.2 /\ a.2 < (n : Int)
theorem RowsG.le {n m : Nat} {out : List (List Ar)} (h : RowsG n out) (hm : n <= m) : RowsG m out := ⟨h.so, fun r hr a ha => by have := h.bd r hr a ha; omega⟩
theorem Oc {R : List (List Ar)} {B : Nat} (hb : ∀ r ∈ R, ∀ a ∈ r, 0 <= a.1 /\ a.1 <= 1025 /\ 0 <= a.2 /\ a.2 < (R.length : Int)) : ∀ (f i : Nat) (num old : List Int) (out V : List (List Ar)), NumOk R.length num old -> NumInj num old -> NumSur num old -> i = out.length -> i <= old.length -> R.length <= f + i ->
  RowsG old.length out -> V.length = R.length -> (∀ s, s < R.length -> (∀ j, j < i -> old[j]? ≠ some (s : Int)) -> V.getD s [] = R.getD s []) -> AN out + AN V <= B ->
  old.length <= (Dl R f i num old out).1.length /\ (Dl R f i num old out).1.length <= R.length /\ RowsG (Dl R f i num old out).1.length (Dl R f i num old out).1 /\ AN (Dl R f i num old out).1 <= B := by
 intro f
 induction f with
 | zero =>
  intro i num old out V hN hI hS hi ho hf hG hVl hV ht
  have hle := hN.le
  simp only [Dl]
  exact ⟨by omega, by omega, hG.le (by omega), by omega⟩
 | succ f ih =>
  intro i num old out V hN hI hS hi ho hf hG hVl hV ht
  have hle := hN.le
  unfold Dl
  split
  ·rename_i hs
   have := List.getElem?_eq_none_iff.1 hs
   exact ⟨by simp only; omega, by simp only; omega, hG.le (by simp only; omega), by simp only; omega⟩
  rename_i s hs
  have hs0 := hN.st s (gE9 hs)
  have hsl : s.toNat < R.length := by omega
  have hil := (List.getElem?_eq_some_iff.1 hs).1
  have hg : R.getD s.toNat [] = R[s.toNat] := by rw [gE2, gE1 hsl]; rfl
  have hrm := gE6 hsl
  have hVs : V.getD s.toNat [] = R.getD s.toNat [] := hV s.toNat hsl fun j hj he => by
   have e : ((s.toNat : Nat) : Int) = s := by omega
   rw [e] at he
   have q1 := (hS j s he).2
   have q2 := (hS i s hs).2
   rw [q1] at q2
   injection q2 with q2
   omega
  have hts := Oa V s.toNat
  rw [hVs, hg] at hts
  rw [hg]
  have hq : ∀ a ∈ Cx R[s.toNat], 0 <= a.2 /\ a.2 < (num.length : Int) := fun a ha => by
   have := hb _ hrm a ((C9 _ a).1 ha); rw [hN.len]; omega
  have hqe : ∀ a ∈ Cx R[s.toNat], 0 <= a.1 /\ a.1 <= 1025 := fun a ha => by
   have := hb _ hrm a ((C9 _ a).1 ha); omega
  have hl3 := Iq R[s.toNat]
  generalize Cx R[s.toNat] = q at *
  have hN2 := NumOk.go q [] hN (by rw [<- hN.len]; exact hq)
  have hn2 := GZ q num old []
  rw [hn2] at hN2 ⊢
  simp only at hN2 ⊢
  have hI2 := Ht q hq hI
  have hS2 := Q9 q hq hS
  obtain ⟨hm1, hm2⟩ := Kb (old := old) q hq
  have hgr := O9 q num old
  have hold : ∀ (j : Nat) (x : Int), old[j]? = some x -> (CY q num old).2.1[j]? = some x := fun j x h => La q h
  have hrow : SortA ((CY q num old).2.2.foldl (fun acc a => CK a acc) []) := IK _ _ List.Pairwise.nil
  have hrl := EB (CY q num old).2.2 []
  have hrb : ∀ a ∈ (CY q num old).2.2.foldl (fun acc a => CK a acc) [], 0 <= a.1 /\ a.1 <= 1025 /\ 0 <= a.2 /\ a.2 < ((CY q num old).2.1.length : Int) := fun a ha => by
   rw [EA] at ha
   rcases ha with ha | ha
   ·simp at ha
   rw [hm1] at ha
   obtain ⟨b, hb1, rfl⟩ := List.mem_map.1 ha
   obtain ⟨x, hx, hp⟩ := hm2 b hb1
   have h1 := hqe b hb1
   have h2 := (List.getElem?_eq_some_iff.1 (hI2.inj _ _ hx hp)).1
   simp only [gE2, hx, Option.getD_some]
   omega
  rw [hm1, List.length_map] at hrl
  simp only [List.length_nil, Nat.zero_add] at hrl
  rw [<- hm1] at hrl
  generalize (CY q num old).2.2.foldl (fun acc a => CK a acc) [] = nr at *
  generalize (CY q num old).1 = num2 at *
  generalize (CY q num old).2.1 = old2 at *
  obtain ⟨k1, k2, k3, k4⟩ := ih (i + 1) num2 old2 (out ++ [nr]) (V.set s.toNat []) hN2 hI2 hS2 (by simp; omega) (by omega) (by omega) ⟨fun r hr => by
   rcases List.mem_append.1 hr with h | h
   ·exact hG.so r h
   ·simp at h; subst h; exact hrow, fun r hr a ha => by
   rcases List.mem_append.1 hr with h | h
   ·have := hG.bd r h a ha; omega
   ·simp at h; subst h; exact hrb a ha⟩ (by simp [hVl]) (fun t htl hto => by
   have hne : s.toNat ≠ t := fun e => hto i (by omega) (by rw [hold i s hs]; congr 1; omega)
   rw [gE2, gE5 hne, <- gE2]
   exact hV t htl fun j hj he => hto j (by omega) (hold j _ he)) (by rw [Ip]; omega)
  exact ⟨by omega, k2, k3, k4⟩
def Y4 (m c : Int) : Int := if m < c + 1 then c + 1 else m
def Y5 (m : Int) (l : List Int) : Int := l.foldl Y4 m
def JI : List Int -> Int -> Bool
 | [], _ => true
 | c :: r, m => (!decide (c < 0) && !decide (c > m)) && JI r (Y4 m c)
def M7 (C : List Int) (n : Nat) : Bool := JI C 0 && decide (C.length = n)
theorem HP (m : Int) (l : List Int) (c : Int) : Y5 m (l ++ [c]) = Y4 (Y5 m l) c := by unfold Y5; rw [List.foldl_append]; rfl
theorem Ub (l : List Int) : ∀ m : Int, m <= Y5 m l /\ ∀ c ∈ l, c + 1 <= Y5 m l := by
 induction l with
 | nil => intro m; exact ⟨Int.le_refl _, by simp⟩
 | cons a r ih =>
  intro m
  obtain ⟨h1, h2⟩ := ih (Y4 m a)
  have e : Y5 m (a :: r) = Y5 (Y4 m a) r := rfl
  have h3 : m <= Y4 m a /\ a + 1 <= Y4 m a := by unfold Y4; split <;> omega
  rw [e]
  refine ⟨by omega, fun c hc => ?_⟩
  rcases List.mem_cons.1 hc with rfl | hc
  ·omega
  exact h2 c hc
theorem Uc {n : Nat} (l : List Int) : ∀ m : Int, JI l m = true -> 0 <= m -> Y5 m l <= m + l.length /\ (∀ c ∈ l, 0 <= c) := by
 induction l with
 | nil => intro m _ _; exact ⟨by simp [Y5], by simp⟩
 | cons a r ih =>
  intro m h hm
  simp only [JI, Bool.and_eq_true, Bool.not_eq_true', decide_eq_false_iff_not] at h
  obtain ⟨⟨h1, h2⟩, h3⟩ := h
  have h4 : 0 <= Y4 m a /\ Y4 m a <= m + 1 := by unfold Y4; split <;> omega
  obtain ⟨q1, q2⟩ := ih (Y4 m a) h3 h4.1
  have e : Y5 m (a :: r) = Y5 (Y4 m a) r := rfl
  rw [e]
  refine ⟨by simp only [List.length_cons]; omega, fun c hc => ?_⟩
  rcases List.mem_cons.1 hc with rfl | hc
  ·omega
  exact q2 c hc
def IY (x : Int) (l : List Int) : Int := l.foldl (fun a b => if a < b then b else a) x
theorem Oe (x : Int) (l : List Int) (y : Int) : IY x (l ++ [y]) = if IY x l < y then y else IY x l := by unfold IY; rw [List.foldl_append]; rfl
theorem SH (l : List Int) : ∀ x : Int, Y5 (x + 1) l = IY x l + 1 := by
 induction l with
 | nil => intro x; rfl
 | cons a r ih =>
  intro x
  have e : Y4 (x + 1) a = (if x < a then a else x) + 1 := by unfold Y4; split <;> split <;> omega
  show Y5 (Y4 (x + 1) a) r = IY (if x < a then a else x) r + 1
  rw [e, ih]
theorem Qa {x : Int} (l : List Int) (h : 0 <= x) : Y5 0 (x :: l) = IY x (x :: l) + 1 := by
 have e1 : Y4 0 x = x + 1 := by unfold Y4; rw [if_pos (by omega)]
 have e2 : IY x (x :: l) = IY x l := by show IY (if x < x then x else x) l = _; simp
 rw [e2, <- SH, <- e1]; rfl
def Y6 (C : List Int) (v : Nat) : Nat := (C.getD v 0).toNat
def Y7 (C : List Int) : Nat := (Y5 0 C).toNat
theorem IL {C : List Int} {n : Nat} (h : M7 C n = true) : C.length = n /\ Y7 C <= n /\ (∀ v, v < n -> Y6 C v < Y7 C /\ C[v]? = some ((Y6 C v : Nat) : Int)) /\ Y5 0 C = (Y7 C : Int) := by
 simp only [M7, Bool.and_eq_true, decide_eq_true_eq] at h
 obtain ⟨h1, h2⟩ := h
 obtain ⟨q1, q2⟩ := Uc (n := n) C 0 h1 (Int.le_refl _)
 obtain ⟨p1, p2⟩ := Ub C 0
 refine ⟨h2, by unfold Y7; omega, fun v hv => ?_, by unfold Y7; omega⟩
 have hl : v < C.length := by omega
 have a1 := q2 _ (gE6 hl)
 have a2 := p2 _ (gE6 hl)
 unfold Y6 Y7
 rw [gE2, gE1 hl, Option.getD_some]
 refine ⟨by omega, by congr 1; omega⟩
def Y8 (f : Nat -> Nat) (c : Nat) (a : Ar) : Option Ar := if a.1 ≠ 0 \/ f a.2.toNat ≠ c then some (a.1, (f a.2.toNat : Int)) else none
def CN (x : Option Ar) (c : Nat) (o : List (List Ar)) : List (List Ar) := match x with | some b => o.set c (o.getD c [] ++ [b]) | none => o
def Da (f : Nat -> Nat) (c : Nat) (o : List (List Ar)) (row : List Ar) : List (List Ar) := row.foldl (fun o a => CN (Y8 f c a) c o) o
def C4 (f : Nat -> Nat) (m : Nat) (R : List (List Ar)) : Nat -> List (List Ar)
 | 0 => List.replicate m []
 | k + 1 => Da f (f k) (C4 f m R k) (R.getD k [])
def Y9 (b : Bool) (c : Nat) : Option Ar := if b then some (0, (c : Int)) else none
def Ya (f : Nat -> Nat) (m : Nat) (B : List Bool) (k : Nat) : List Bool := (List.range m).map fun c => (List.range k).any fun s => decide (f s = c) && B.getD s false
def DJ (L : List Bool) (o : List (List Ar)) : Nat -> List (List Ar)
 | 0 => o
 | c + 1 => CN (Y9 (L.getD c false) c) c (DJ L o c)
def qR (R : List (List Ar)) (C : List Int) (B : List Bool) : List (List Ar) := DJ (Ya (Y6 C) (Y7 C) B R.length) (C4 (Y6 C) (Y7 C) R R.length) (Y7 C)
theorem Gz (x : Option Ar) (c : Nat) (o : List (List Ar)) : (CN x c o).length = o.length := by cases x <;> simp [CN]
theorem GA (f : Nat -> Nat) (c : Nat) (row : List Ar) : ∀ o, (Da f c o row).length = o.length := by
 induction row with
 | nil => intro o; rfl
 | cons a r ih => intro o; show (Da f c (CN (Y8 f c a) c o) r).length = _; rw [ih, Gz]
theorem Db (f : Nat -> Nat) (m : Nat) (R : List (List Ar)) (k : Nat) : (C4 f m R k).length = m := by
 induction k with
 | zero => simp [C4]
 | succ k ih => rw [C4, GA, ih]
theorem GB (L : List Bool) (o : List (List Ar)) (k : Nat) : (DJ L o k).length = o.length := by
 induction k with
 | zero => rfl
 | succ k ih => rw [DJ, Gz, ih]
theorem He (f : Nat -> Nat) (c : Nat) (o : List (List Ar)) (row : List Ar) (a : Ar) : Da f c o (row ++ [a]) = CN (Y8 f c a) c (Da f c o row) := by unfold Da; rw [List.foldl_append]; rfl
theorem IM {x : Option Ar} {c d : Nat} {o : List (List Ar)} {a : Ar} (h : c < o.length) : a ∈ (CN x c o).getD d [] ↔ a ∈ o.getD d [] \/ (d = c /\ x = some a) := by
 cases x with
 | none => simp [CN]
 | some b =>
  unfold CN
  simp only
  rw [gE2]
  by_cases e : c = d
  rotate_left
  ·rw [gE5 e, <- gE2]
   simp [Ne.symm e]
  subst e
  rw [gEc h, Option.getD_some, List.mem_append]
  simp [eq_comm]
theorem Of {f : Nat -> Nat} {c d : Nat} {a : Ar} : ∀ (row : List Ar) (o : List (List Ar)), c < o.length -> (a ∈ (Da f c o row).getD d [] ↔ a ∈ o.getD d [] \/ (d = c /\ ∃ b ∈ row, Y8 f c b = some a)) := by
 intro row
 induction row with
 | nil => intro o _; simp [Da]
 | cons b r ih =>
  intro o h
  show a ∈ (Da f c (CN (Y8 f c b) c o) r).getD d [] ↔ _
  rw [ih _ (by rw [Gz]; exact h), IM h]
  simp only [List.mem_cons, exists_eq_or_imp]
  rw [or_assoc, <- and_or_left]
def QA (R : List (List Ar)) (f : Nat -> Nat) (k d : Nat) (a : Ar) : Prop := ∃ s, s < k /\ f s = d /\ ∃ b ∈ R.getD s [], Y8 f d b = some a
def QL (f : Nat -> Nat) (B : List Bool) (k d : Nat) (a : Ar) : Prop := a = (0, (d : Int)) /\ ∃ s, s < k /\ f s = d /\ B.getD s false = true
theorem QA.succ {R : List (List Ar)} {f : Nat -> Nat} {k d : Nat} {a : Ar} : QA R f (k + 1) d a ↔ QA R f k d a \/ (d = f k /\ ∃ b ∈ R.getD k [], Y8 f (f k) b = some a) := by
 constructor
 rotate_left
 ·rintro (⟨s, h1, h2, h3⟩ | ⟨rfl, h3⟩)
  ·exact ⟨s, by omega, h2, h3⟩
  exact ⟨k, by omega, rfl, h3⟩
 rintro ⟨s, h1, h2, h3⟩
 by_cases e : s = k
 ·subst e; subst h2; exact .inr ⟨rfl, h3⟩
 exact .inl ⟨s, by omega, h2, h3⟩
theorem QL.succ {f : Nat -> Nat} {B : List Bool} {k d : Nat} {a : Ar} : QL f B (k + 1) d a ↔ QL f B k d a \/ (d = f k /\ Y9 (B.getD k false) (f k) = some a) := by
 unfold QL Y9
 constructor
 ·rintro ⟨h0, s, h1, h2, h3⟩
  by_cases e : s = k
  ·subst e; subst h2; exact .inr ⟨rfl, by rw [if_pos h3, h0]⟩
  exact .inl ⟨h0, s, by omega, h2, h3⟩
 rintro (⟨h0, s, h1, h2, h3⟩ | ⟨rfl, h3⟩)
 ·exact ⟨h0, s, by omega, h2, h3⟩
 split at h3
 rotate_left
 ·cases h3
 rename_i hb
 injection h3 with h3
 exact ⟨h3.symm, k, by omega, rfl, hb⟩
theorem Qb {m d : Nat} : (List.replicate m ([] : List Ar)).getD d [] = [] := by
 rw [gE2, List.getElem?_replicate]; split <;> rfl
theorem Og {f : Nat -> Nat} {m d : Nat} {R : List (List Ar)} {a : Ar} {n : Nat} (hf : ∀ v, v < n -> f v < m) : ∀ k, k <= n -> (a ∈ (C4 f m R k).getD d [] ↔ QA R f k d a) := by
 intro k
 induction k with
 | zero => intro _; rw [C4, Qb]; simp [QA]
 | succ k ih =>
  intro hk
  rw [C4, Of _ _ (by rw [Db]; exact hf k hk), ih (by omega), QA.succ]
theorem Oh {L : List Bool} {d : Nat} {o : List (List Ar)} {a : Ar} : ∀ k, k <= o.length -> (a ∈ (DJ L o k).getD d [] ↔ a ∈ o.getD d [] \/ (d < k /\ L.getD d false = true /\ a = (0, (d : Int)))) := by
 intro k
 induction k with
 | zero => intro _; simp [DJ]
 | succ k ih =>
  intro hk
  rw [DJ, IM (by rw [GB]; exact hk), ih (by omega)]
  unfold Y9
  constructor
  rotate_left
  ·rintro (h | ⟨h1, h2, h3⟩)
   ·exact .inl (.inl h)
   by_cases e : d = k
   ·subst e; exact .inr ⟨rfl, by rw [if_pos h2, h3]⟩
   exact .inl (.inr ⟨by omega, h2, h3⟩)
  rintro ((h | ⟨h1, h2, h3⟩) | ⟨rfl, h2⟩)
  ·exact .inl h
  ·exact .inr ⟨by omega, h2, h3⟩
  split at h2
  ·rename_i hb; injection h2 with h2; exact .inr ⟨by omega, hb, h2.symm⟩
  cases h2
theorem Fj (f : Nat -> Nat) (m : Nat) (B : List Bool) (k : Nat) : (Ya f m B k).length = m := by simp [Ya]
theorem JJ {f : Nat -> Nat} {m : Nat} {B : List Bool} {k d : Nat} (hd : d < m) : (Ya f m B k).getD d false = (List.range k).any fun s => decide (f s = d) && B.getD s false := by
 simp [Ya, gE2, hd]
theorem SI {f : Nat -> Nat} {m : Nat} {B : List Bool} {k : Nat} (hf : f k < m) : (Ya f m B k).set (f k) ((Ya f m B k).getD (f k) false || B.getD k false) = Ya f m B (k + 1) := by
 have hl := Fj f m B k
 refine List.ext_getElem (by simp [Ya]) fun i h1 h2 => ?_
 rw [Fj] at h2
 have e2 : (Ya f m B (k + 1))[i]'(by rw [Fj]; exact h2) = ((List.range (k + 1)).any fun s => decide (f s = i) && B.getD s false) := by simp [Ya]
 rw [e2, List.range_succ, List.any_append]
 by_cases e : f k = i
 ·subst e
  rw [List.getElem_set_self, JJ hf]
  simp
 rw [List.getElem_set_ne e]
 have e3 : (Ya f m B k)[i]'(by rw [Fj]; exact h2) = ((List.range k).any fun s => decide (f s = i) && B.getD s false) := by simp [Ya]
 rw [e3]
 simp [e]
theorem Ud {R : List (List Ar)} {C : List Int} {B : List Bool} (h : M7 C R.length = true) {d : Nat} {a : Ar} : a ∈ (qR R C B).getD d [] ↔ QA R (Y6 C) R.length d a \/ QL (Y6 C) B R.length d a := by
 obtain ⟨h1, h2, h3, _⟩ := IL h
 have hf : ∀ v, v < R.length -> Y6 C v < Y7 C := fun v hv => (h3 v hv).1
 unfold qR
 rw [Oh _ (by rw [Db]; exact Nat.le_refl _), Og hf _ (Nat.le_refl _)]
 refine or_congr Iff.rfl ?_
 unfold QL
 constructor
 ·rintro ⟨g1, g2, g3⟩
  rw [JJ g1, List.any_eq_true] at g2
  obtain ⟨s, hs, hb⟩ := g2
  simp only [Bool.and_eq_true, decide_eq_true_eq] at hb
  exact ⟨g3, s, List.mem_range.1 hs, hb.1, hb.2⟩
 rintro ⟨g3, s, hs, rfl, hb⟩
 refine ⟨hf s hs, ?_, g3⟩
 rw [JJ (hf s hs), List.any_eq_true]
 exact ⟨s, List.mem_range.2 hs, by simp only [Bool.and_eq_true, decide_eq_true_eq]; exact ⟨trivial, hb⟩⟩
theorem Yh (x : Option Ar) (c : Nat) (o : List (List Ar)) : AN (CN x c o) <= AN o + 1 := by
 cases x with
 | none => simp [CN]
 | some b =>
  unfold CN
  by_cases h : c < o.length
  ·simp only; rw [Pn o h]; exact Nat.le_refl _
  simp only; rw [List.set_eq_of_length_le (by omega)]; omega
theorem GC (f : Nat -> Nat) (c : Nat) (row : List Ar) : ∀ o, AN (Da f c o row) <= AN o + row.length := by
 induction row with
 | nil => intro o; exact Nat.le_refl _
 | cons a r ih =>
  intro o
  have h1 := ih (CN (Y8 f c a) c o)
  have h2 := Yh (Y8 f c a) c o
  show AN (Da f c (CN (Y8 f c a) c o) r) <= _
  simp only [List.length_cons]; omega
theorem GD (f : Nat -> Nat) (m : Nat) (R : List (List Ar)) : ∀ k, k <= R.length -> AN (C4 f m R k) <= AN (R.take k) := by
 intro k
 induction k with
 | zero => intro _; rw [C4, Po]; omega
 | succ k ih =>
  intro hk
  have h1 := ih (by omega)
  have h2 := BX (R := R) (k := k) hk
  have h3 := GC f (f k) (R.getD k []) (C4 f m R k)
  have h4 : R.getD k [] = R[k] := by rw [gE2, gE1 hk]; rfl
  rw [C4]
  rw [h4] at h3 ⊢
  omega
theorem IP (L : List Bool) (o : List (List Ar)) : ∀ k, AN (DJ L o k) <= AN o + k := by
 intro k
 induction k with
 | zero => exact Nat.le_refl _
 | succ k ih =>
  have := Yh (Y9 (L.getD k false) k) k (DJ L o k)
  rw [DJ]; omega
theorem QA.bd {R : List (List Ar)} {f : Nat -> Nat} {m k d : Nat} {a : Ar} (hlo : BK R = true) (hk : k <= R.length) (hf : ∀ v, v < R.length -> f v < m) (h : QA R f k d a) : 0 <= a.1 /\ a.1 <= 1025 /\ 0 <= a.2 /\ a.2 < (m : Int) := by
 obtain ⟨s, h1, h2, b, hb, h3⟩ := h
 have hs : s < R.length := by omega
 rw [gE2, gE1 hs] at hb
 have hbd := (gE4 hlo).2.2.2 _ (gE6 hs) b hb
 unfold Y8 at h3
 split at h3
 rotate_left
 ·cases h3
 injection h3 with h3
 subst h3
 have := hf b.2.toNat (by omega)
 simp only; omega
theorem Ue {R : List (List Ar)} {C : List Int} {B : List Bool} (hlo : BK R = true) (h : M7 C R.length = true) : (qR R C B).length = Y7 C /\ (∀ r ∈ qR R C B, ∀ a ∈ r, 0 <= a.1 /\ a.1 <= 1025 /\ 0 <= a.2 /\ a.2 < ((qR R C B).length : Int)) /\ AN (qR R C B) <= AN R + R.length := by
 obtain ⟨h1, h2, h3, _⟩ := IL h
 have hf : ∀ v, v < R.length -> Y6 C v < Y7 C := fun v hv => (h3 v hv).1
 have hl : (qR R C B).length = Y7 C := by unfold qR; rw [GB, Db]
 refine ⟨hl, fun r hr a ha => ?_, ?_⟩
 rotate_left
 ·have a1 := IP (Ya (Y6 C) (Y7 C) B R.length) (C4 (Y6 C) (Y7 C) R R.length) (Y7 C)
  have a2 := GD (Y6 C) (Y7 C) R R.length (Nat.le_refl _)
  rw [List.take_length] at a2
  unfold qR
  omega
 obtain ⟨d, hd, rfl⟩ := List.getElem_of_mem hr
 have hd2 : d < Y7 C := by omega
 have ha2 : a ∈ (qR R C B).getD d [] := by rw [gE2, gE1 hd]; exact ha
 rw [hl]
 rcases (Ud h).1 ha2 with q | ⟨q, _⟩
 ·exact q.bd hlo (Nat.le_refl _) hf
 subst q; simp only; omega
def sK : List (List Ar) := [[(0, 1)], [(2, 2)], []]
def sQ : List (List Ar) := [[(2, 1)], []]
theorem DK : BL sK = true := by kernel_rfl
theorem QR : ∀ v w, w ∈ WG true sK v -> v = 0 /\ w = 1
 | 0, w, h => by have e : WG true sK 0 = [1] := rfl; rw [e] at h; simp at h; omega
 | 1, w, h => by have e : WG true sK 1 = [] := rfl; rw [e] at h; simp at h
 | 2, w, h => by have e : WG true sK 2 = [] := rfl; rw [e] at h; simp at h
 | n + 3, w, h => by have e : WG true sK (n + 3) = [] := rfl; rw [e] at h; simp at h
theorem Qc {v u : Nat} (h : Rc (WG true sK) v u) : u = v \/ (v = 0 /\ u = 1) := by
 induction h with
 | refl => exact .inl rfl
 | tail _ h2 ih => have := QR _ _ h2; omega
theorem UQ (s : Nat) : ¬ Dv sK s := by
 rintro ⟨g, _, w, hw, hr⟩
 have := QR _ _ hw
 have := Qc hr
 omega
theorem V0 : DvL sK [false, false, false] := by
 refine ⟨rfl, fun s hs => ⟨fun h => ?_, fun h => absurd h (UQ s)⟩⟩
 match s, hs with
 | 0, _ => simp at h
 | 1, _ => simp at h
 | 2, _ => simp at h
theorem Ve : (CH (qR sK [0, 0, 1] [false, false, false])).1 = sQ := by kernel_rfl
set_option maxRecDepth 100000
attribute [local go_sem] lga C.pl C.one
theorem SK {C : List Int} {k : Nat} (h : k < C.length) {m : Int} : JI (C.drop k) m = ((!decide (C[k] < 0) && !decide (C[k] > m)) && JI (C.drop (k + 1)) (Y4 m C[k])) := by
 rw [List.drop_eq_getElem_cons h, JI]
theorem SL {C : List Int} {k : Nat} (h : k < C.length) : Y5 0 (C.take (k + 1)) = Y4 (Y5 0 (C.take k)) C[k] := by
 rw [gE8 h, HP]
theorem Uf (C : List Int) (n : Nat) (hC : C.length <= 9223372036854775807) : FC Tryz.prog 78 [Aq C, .i n] [] (fun r o => o = [] /\ r = .b (M7 C n)) := by
 refine A9 Tryz.func78 rfl (by rw [Tryz.ntmps78]; simp) ?_
 rw [Tryz.ntmps78]
 simp only [Bz, Aq]
 (refine Wf @Yi ?_;(repeat clear hK K);repeat refine kq fun K hK=>?_)
 refine A6 (fun k : Nat => { tm := [(0, .a (.c (.t 1 (Aa C)))), (1, .i n), (5, .i (Y5 0 (C.take k))), (8, .a (.c (.t 1 (Aa C)))), (9, .i C.length), (10, .i k)], hp := [], n := 30, pin := 0 }) (fun k => k <= C.length /\ JI C 0 = JI (C.drop k) (Y5 0 (C.take k)) /\ 0 <= Y5 0 (C.take k) /\ Y5 0 (C.take k) <= k) (fun k => C.length - k) 0 ?_ ?_ ?_
 ·exact ⟨by omega, by simp [Y5], by simp [Y5], by simp [Y5]⟩
 ·have e : Y5 0 (C.take 0) = 0 := by simp [Y5]
  rw [e]
  exact Wo
 rintro k ⟨hk, hg, hm0, hmk⟩ K hK
 by_cases hlt : k < C.length
 rotate_left
 ·have d1 : decide ((k : Int) < (C.length : Int)) = false := by simpa using hlt
  have hd : JI C 0 = true := by rw [hg, List.drop_of_length_le (by omega)]; rfl
  (refine Wf @d1 ?_;(repeat clear hK K);repeat refine kq fun K hK=>?_)
  refine Wm ?_
  (refine Wi ?_;repeat clear hK K)
  (refine Wf @Yi ?_;(repeat clear hK K);repeat refine kq fun K hK=>?_)
  refine Wr Tryz.results78 ?_
  have e : ((C.length : Int) == (n : Int)) = decide (C.length = n) := by rw [Bool.eq_iff_iff, beq_iff_eq, decide_eq_true_iff]; omega
  rw [M7, hd, Bool.true_and, e]
 have d1 : decide ((k : Int) < (C.length : Int)) = true := by simpa using hlt
 have gc := Aj (gE1 hlt)
 have hs := SK hlt (m := Y5 0 (C.take k))
 have hx := SL hlt
 generalize C[k] = c at *
 generalize Y5 0 (C.take k) = m at *
 rw [hs] at hg
 by_cases h1 : c < 0
 ·have d2 : decide (c < 0) = true := by simpa using h1
  (refine Wf @d1 ?_;(repeat clear hK K);repeat refine kq fun K hK=>?_)
  refine Wl ?_
  (refine Wf (an @Yi (an @gc @d2)) ?_;(repeat clear hK K);repeat refine kq fun K hK=>?_)
  refine Wl ?_
  (refine We ?_;(repeat clear hK K);repeat refine kq fun K hK=>?_)
  refine Wr Tryz.results78 ?_
  simp [M7, hg, h1]
 have d2 : decide (c < 0) = false := by simpa using h1
 by_cases h2 : c > m
 ·have d3 : decide (c > m) = true := by simpa using h2
  (refine Wf @d1 ?_;(repeat clear hK K);repeat refine kq fun K hK=>?_)
  refine Wl ?_
  (refine Wf (an @Yi (an @gc (an @d2 @d3))) ?_;(repeat clear hK K);repeat refine kq fun K hK=>?_)
  refine Wl ?_
  (refine We ?_;(repeat clear hK K);repeat refine kq fun K hK=>?_)
  refine Wr Tryz.results78 ?_
  simp [M7, hg, h2]
 have d3 : decide (c > m) = false := by simpa using h2
 (refine Wf @d1 ?_;(repeat clear hK K);repeat refine kq fun K hK=>?_)
 refine Wl ?_
 (refine Wf (an @Yi (an @gc (an @d2 @d3))) ?_;(repeat clear hK K);repeat refine kq fun K hK=>?_)
 refine Wm ?_
 (refine We ?_;(repeat clear hK K);repeat refine kq fun K hK=>?_)
 refine Wn ?_
 have h3 : 0 <= Y4 m c /\ Y4 m c <= m + 1 := by unfold Y4; split <;> omega
 refine hK _ (k + 1) ⟨by omega, by rw [hg, hx, d2, d3]; simp, by rw [hx]; omega, by rw [hx]; omega⟩ (by omega) ?_
 have e : (if c + 1 > m then c + 1 else m) = Y5 0 (C.take (k + 1)) := by rw [hx]; rfl
 rw [<- e]
 exact Wo
theorem Ug (C : List Int) (h1 : 0 < C.length) (hC : C.length <= 140737488355328) : FC Tryz.prog 79 [Aq C] [] (fun r o => o = [] /\ r = .i (IY C[0] C)) := by
 refine A9 Tryz.func79 rfl (by rw [Tryz.ntmps79]; simp) ?_
 rw [Tryz.ntmps79]
 simp only [Bz, Aq]
 have d0 : decide ((C.length : Int) < 1) = false := by simp; omega
 have g0 : (Aa C)[0]? = some (.v (.int .i64 C[0])) := Aj (gE1 h1)
 (refine Wf (an @Yi @d0) ?_;(repeat clear hK K);repeat refine kq fun K hK=>?_)
 refine Wm ?_
 (refine Wf (an @Yi (an @g0 @Int.toNat_zero)) ?_;(repeat clear hK K);repeat refine kq fun K hK=>?_)
 refine A6 (fun k : Nat => { tm := [(0, .a (.c (.t 1 (Aa C)))), (3, .i (IY C[0] (C.take k))), (4, .i k)], hp := [], n := 25, pin := 0 }) (fun k => 1 <= k /\ k <= C.length) (fun k => C.length - k) 1 ?_ ?_ ?_
 ·omega
 ·have e : C.take 1 = [C[0]] := by rw [gE8 h1]; rfl
  have e2 : IY C[0] [C[0]] = C[0] := by simp [IY]
  (refine BP ?_; simp only [Dq, go_sem, e, e2]; try simp)
 rintro k ⟨hk1, hk⟩ K hK
 by_cases hlt : k < C.length
 rotate_left
 ·have d1 : decide ((k : Int) < (C.length : Int)) = false := by simpa using hlt
  have he : C.take k = C := gE7 (by omega)
  rw [he]
  (refine Wf (an @Yi @d1) ?_;(repeat clear hK K);repeat refine kq fun K hK=>?_)
  refine Wm ?_
  (refine Wi ?_;repeat clear hK K)
  (refine We ?_;(repeat clear hK K);repeat refine kq fun K hK=>?_)
  exact P0 Tryz.results79
 have d1 : decide ((k : Int) < (C.length : Int)) = true := by simpa using hlt
 have g1 := Aj (gE1 hlt)
 (refine Wf (an @Yi @d1) ?_;(repeat clear hK K);repeat refine kq fun K hK=>?_)
 refine Wl ?_
 (refine Wf (an @Yi @g1) ?_;(repeat clear hK K);repeat refine kq fun K hK=>?_)
 refine Wn ?_
 refine hK _ (k + 1) ⟨by omega, by omega⟩ (by omega) ?_
 have e := gE8 hlt
 (refine BP ?_; simp only [Dq, go_sem, e, Oe]; try simp)
end Go.Proofs.YthnkailnoobdoaaGreatDoor
namespace Go.Proofs.YthnkailnoobdoaaGreatDoor
set_option linter.unusedVariables false
set_option linter.unusedSimpArgs false
open Go.RowKit
set_option maxRecDepth 100000
theorem Oi (a b : Ar) : FC Tryz.prog 95 [.a (.g [.v (.int .i64 a.1), .v (.int .i64 a.2)]), .a (.g [.v (.int .i64 b.1), .v (.int .i64 b.2)])] [] (fun r o => o = [] /\ r = .i (Gb a b)) := by
 refine A9 Tryz.func95 rfl (by rw [Tryz.ntmps95]; simp) ?_
 rw [Tryz.ntmps95]
 simp only [Bz]
 (refine Wf (an @List.set_cons_zero.{0} @List.set_cons_succ.{0}) ?_;(repeat clear hK K);repeat refine kq fun K hK=>?_)
 (refine BJ [] [(0, 0, 0), (2, 0, 0), (5, 0, 0), (7, 0, 0), (1, 1, 4), (3, 1, 4), (6, 1, 9), (8, 1, 9), (4, 2, 0), (9, 2, 0), (10, 2, 0), (11, 2, 0), (12, 2, 0)] (by kernel_rfl) (by kernel_rfl) (by intro c st h; simp [Ae, AJ, VD] at h) ?_)
 (refine Wc ?_; repeat clear hK K)
 (refine W0 rfl rfl ?_; intro K1 hK1; refine Au ?_; refine xv [] (Ka a.1 b.1) ?_ ?_)
 ·rintro _ _ ⟨rfl, rfl⟩ i o hi hl; simp at hl
 rintro _ _ ⟨rfl, rfl⟩
 (refine Wk ?_; clear hK1 K1)
 (refine Wc ?_; repeat clear hK K)
 (refine W0 rfl rfl ?_; intro K1 hK1; refine Au ?_; refine xv [] (Ka a.2 b.2) ?_ ?_)
 ·rintro _ _ ⟨rfl, rfl⟩ i o hi hl; simp at hl
 rintro _ _ ⟨rfl, rfl⟩
 (refine Wk ?_; clear hK1 K1)
 (refine Wc ?_; repeat clear hK K)
 (refine W1 rfl rfl rfl ?_; intro K1 hK1; refine B4 rfl ?_; simp only [go_sem, List.set_cons_zero, List.set_cons_succ]; (first | refine hK1 _ ?_ | refine AE (hK1 _ ?_)); clear hK1 K1)
 (refine UY (BA (r := ⟨3, 1, true, A7 [Fy a.1 b.1, Fy a.2 b.2]⟩) 2 (Aa [Fy a.1 b.1, Fy a.2 b.2]) rfl (Gd _) (show 0 < (1 : Nat) by omega)) ?_; simp only [ST.frz, A0.frz, AV.frz, C.frz, Nat.le_refl, List.set_cons_zero, List.set_cons_succ, go_sem, Yi, Az, List.length_cons, List.length_nil, List.take_succ_cons, List.take_zero])
 (refine Wc ?_; repeat clear hK K)
 (refine W0 rfl rfl ?_; intro K1 hK1; refine Au ?_; refine BG (ids := []) [] (Kj [Fy a.1 b.1, Fy a.2 b.2] (by simp)) rfl rfl (by simp only [go_sem]) (by kernel_rfl) rfl rfl rfl (by (simp only [List.map_append, List.append_nil, go_sem]) <;> rfl) (by (simp only [VC, Aq, go_sem]) <;> rfl) ?_ ?_)
 ·rintro _ _ ⟨rfl, rfl⟩ i o hi hl; simp at hl
 rintro _ _ ⟨rfl, rfl⟩
 (refine Wk ?_; clear hK1 K1)
 (refine W1 rfl rfl rfl ?_; intro K1 hK1; refine B4 rfl ?_; simp only [go_sem]; (first | refine hK1 _ ?_ | refine AE (hK1 _ ?_)); clear hK1 K1)
 (refine Wc ?_; repeat clear hK K)
 refine Wp [] Tryz.results95 ?_
 rw [MT]
attribute [local go_sem] lga C.pl C.one
theorem Oj (R : List (List Ar)) : ∀ (f i : Nat) (num old : List Int) (out : List (List Ar)), ∃ l, (Dl R f i num old out).1 = out ++ l := by
 intro f
 induction f with
 | zero => intro i num old out; exact ⟨[], by simp [Dl]⟩
 | succ f ih =>
  intro i num old out
  unfold Dl
  split
  ·exact ⟨[], by simp⟩
  obtain ⟨l, hl⟩ := ih (i + 1) (Ez (Cx (R.getD (Int.toNat ‹_›) [])) num old []).1 (Ez (Cx (R.getD (Int.toNat ‹_›) [])) num old []).2.1 (out ++ [(Ez (Cx (R.getD (Int.toNat ‹_›) [])) num old []).2.2])
  exact ⟨_ :: l, by rw [hl, List.append_assoc]; rfl⟩
theorem Lb (x y : List (List Ar)) : AN (x ++ y) = AN x + AN y := by simp [AN]
theorem Qd (r : List Ar) : AN [r] = r.length := by simp [AN]
def Yb (q : List (List Ar)) (r : AV) (o : List Ob) : Prop :=
 if AN q <= 262144 then o = [.r ⟨25, 1, false, [.t 1 (Ai q)]⟩] /\ r = .tup [.g [.t 1 (Ai q)], .c (.v (.bool true))]
 else o = [.r ⟨25, 1, false, [.v (.slice none 0 0)]⟩] /\ r = .tup [.g [.v (.slice none 0 0)], .c (.v (.bool false))]
set_option maxHeartbeats 8000000 in
theorem Ol (R : List (List Ar)) (h1 : 1 <= R.length) (hbd : ∀ r ∈ R, ∀ a ∈ r, 0 <= a.2 /\ a.2 < (R.length : Int)) (hn : R.length <= 1000000) (hr : ∀ r ∈ R, r.length <= 1000000) : FC Tryz.prog 80 [.a (.c (.t 1 (Ai R)))] [] (Yb (CH R).1) := by
 refine A9 Tryz.func80 rfl (by rw [Tryz.ntmps80]; simp) ?_
 rw [Tryz.ntmps80]
 simp only [Bz]
 (refine Wf @A4 ?_;(repeat clear hK K);repeat refine kq fun K hK=>?_)
 (refine Ad rfl ?_; intro K1 hK1; refine AX (ids := []) [1] (Gg (-1) R.length h1 hn) rfl rfl (by simp only [go_sem]) (by first | assumption | kernel_rfl) rfl rfl (by (simp only [List.map_append, List.append_nil, go_sem]) <;> rfl) (by (simp only [VC, Aw, A7, go_sem]) <;> rfl) ?_ ?_)
 ·rintro _ _ ⟨rfl, rfl⟩; rfl
 rintro _ _ ⟨rfl, rfl⟩
 (simp only [Aq, Bc, Aw, CT, List.append_nil, List.nil_append, List.length_map, go_sem]; refine hK1 _ ?_; clear hK1 K1)
 have g0 : 0 < (List.replicate R.length (-1 : Int)).length := by simp; omega
 (refine Cr (an @A5 (an @List.length_replicate.{0} @B3)) ?_;(repeat clear hK K);repeat refine kq fun K hK=>?_)
 refine Av (Nu 41 1) ?_
 simp only [List.cons_append, List.nil_append]
 refine Av (Js 4 0 5 (by decide) rfl rfl rfl) ?_
 simp only [List.set_cons_zero, List.set_cons_succ]
 refine Av (A8 [0, 2, 3, 4, 5] rfl rfl) ?_
 (try simp only [List.set_nil, List.take_nil, List.take_zero, List.map_append, go_sem])
 (try simp only [Ak])
 refine A6 (fun x : Nat × List Int × List Int × List (List Ar) => { tm := [(0, .a (.c (.t 1 (Ai R)))), (2, .a (.c (.p 0 0))), (4, .a (.c (.s 1 R.length))), (5, .a (.c (.s 2 x.2.2.1.length))), (6, .i (AN x.2.2.2)), (7, .a (.c (.p 3 0))), (8, .i x.1)], hp := [.r ⟨25, 1, false, [.v (.slice none 0 0)]⟩, .r ⟨3, 1, true, A7 x.2.1⟩, .r ⟨3, 1, true, A7 x.2.2.1⟩, .r ⟨25, 1, false, [.s 4 x.1]⟩, .r ⟨41, 1, true, AC x.2.2.2⟩], n := 87, pin := 0 }) (fun x => NumOk R.length x.2.1 x.2.2.1 /\ NumInj x.2.1 x.2.2.1 /\ Dl R (R.length - x.1) x.1 x.2.1 x.2.2.1 x.2.2.2 = CH R /\ x.1 <= x.2.2.1.length /\ x.2.2.2.length = x.1 /\ AN x.2.2.2 <= 262144) (fun x => R.length - x.1) (0, (List.replicate R.length (-1)).set 0 0, [0], []) ?_ ?_ ?_
 ·exact ⟨NumOk.start h1, NumInj.start h1, rfl, by simp, rfl, by simp [AN]⟩
 ·simp only [AN, List.map_nil, List.sum_nil]
  exact Wo
 rintro ⟨i, num, old, out⟩ ⟨hN, hI, hC, hio, hoi, hto⟩ K hK
 simp only at hN hI hC hio hoi hto
 have hlen := hN.len
 have hle := hN.le
 by_cases hlt : i < old.length
 rotate_left
 ·have d1 : decide ((i : Int) < (old.length : Int)) = false := by simpa using hlt
  have hfin : CH R = (out, old) := by rw [<- hC]; exact Lz (by omega)
  (refine Wf (an @d1 @A5) ?_;(repeat clear hK K);repeat refine kq fun K hK=>?_)
  refine Wm ?_
  (refine Wi ?_;repeat clear hK K)
  refine Av (AR (r := ⟨41, 1, true, AC out⟩) (ri := ⟨25, 1, false, [.s 4 i]⟩) (ts := Ai out) 3 0 4 i (by decide) rfl rfl rfl rfl (show 0 < 1 by omega) (by simp only [Af, hoi]; omega) (Ee _)) ?_
  simp only [go_sem]
  refine Av (CD 3 rfl) ?_
  simp only [VH, go_sem]
  (refine Oy ?_;(repeat clear hK K);repeat refine kq fun K hK=>?_)
  refine Wp [0] Tryz.results80 ?_
  rw [hfin]
  unfold Yb
  rw [if_pos hto]
  exact ⟨rfl, rfl⟩
 have d1 : decide ((i : Int) < (old.length : Int)) = true := by simpa using hlt
 have hs0 := hN.st _ (gE6 hlt)
 obtain ⟨sn, hsn⟩ : ∃ sn : Nat, old[i] = sn := ⟨old[i].toNat, by omega⟩
 have hsl : sn < R.length := by omega
 have go : (A7 old)[i]? = some (.v (.int .i64 sn)) := by rw [<- hsn]; exact Ax (gE1 hlt)
 have hgR := gE1 hsl
 have hrl := hr _ (gE6 hsl)
 have hst := LA (rows := R) (n := R.length) (i := i) (num := num) (old := old) (out := out) (s := (sn : Int)) (r := R[sn]) (by omega) (by rw [gE1 hlt, hsn]) (by simp [hgR]) rfl
 generalize hrr : R[sn] = r at *
 have hcl := GX (At r) (by rw [A3]; omega)
 rw [Kx, A3, Al] at hcl
 (refine Wf (an @d1 @A5) ?_;(repeat clear hK K);repeat refine kq fun K hK=>?_)
 refine Wl ?_
 (refine Wf (an @A4 (an (Ac hgR) (an @A5 @go))) ?_;(repeat clear hK K);repeat refine kq fun K hK=>?_)
 (refine Wj hcl ?_; intro K1 hK1)
 rintro _ _ ⟨rfl, rfl⟩
 (simp only [Aq, Bc, CI, List.append_nil, List.nil_append, List.length_map, go_sem]; refine hK1 _ ?_; clear hK1 K1)
 (refine We ?_;(repeat clear hK K);repeat refine kq fun K hK=>?_)
 (refine Ad rfl ?_; intro K1 hK1; refine AX (ids := []) [5] (Kw 95 (by kernel_rfl) Oi r (by omega)) rfl rfl (by simp only [go_sem]) (by first | assumption | kernel_rfl) rfl rfl (by (simp only [List.map_append, List.append_nil, go_sem]) <;> rfl) (by (simp only [VC, D6, go_sem]) <;> rfl) ?_ ?_)
 ·rintro _ _ ⟨rfl, L', _, _, rfl⟩; rfl
 rintro _ _ ⟨rfl, L', hperm, hsort, rfl⟩
 (simp only [Aq, Bc, CI, List.append_nil, List.nil_append, List.length_map, go_sem]; refine hK1 _ ?_; clear hK1 K1)
 have hLl := hperm.length_eq
 have hq : LI L' = Cx r := by rw [N3]; exact MI hperm hsort
 rw [<- hLl]
 (refine We ?_;(repeat clear hK K);repeat refine kq fun K hK=>?_)
 (refine Ad rfl ?_; intro K1 hK1; refine AX (ids := []) [5] (Ix L' (by omega)) rfl rfl (by simp only [go_sem]) (by first | assumption | kernel_rfl) rfl rfl (by (simp only [List.map_append, List.append_nil, go_sem]) <;> rfl) (by (simp only [VC, D6, go_sem]) <;> rfl) ?_ ?_)
 ·rintro _ _ ⟨rfl, rest, us, _, _, rfl⟩; rfl
 rintro _ _ ⟨rfl, rest, us, hrest, hr0, rfl⟩
 (simp only [Aq, Bc, CI, List.append_nil, List.nil_append, List.length_map, go_sem]; refine hK1 _ ?_; clear hK1 K1)
 (refine We ?_;(repeat clear hK K);repeat refine kq fun K hK=>?_)
 obtain ⟨q, hqd⟩ : ∃ q, q = Cx r := ⟨_, rfl⟩
 rw [<- hqd] at hq hst
 have hqs : SortA q := by rw [hqd]; exact AP r
 have hql : q.length <= 1000000 := by rw [hqd]; exact Nat.le_trans (Iq r) (by omega)
 have hqb : ∀ a ∈ q, 0 <= a.2 /\ a.2 < (R.length : Int) := fun a ha => by
  rw [hqd, C9] at ha
  exact hbd r (by rw [<- hrr]; exact gE6 hsl) a ha
 rw [hq]
 refine Av (Rr 5 (q.length * 2) rfl ?_) ?_
 ·intro _ h
  rw [Ky _ _ _ (CI _ _)] at h
  have hq0 : q = [] := by
   have := congrArg List.length h
   rw [Ah] at this
   exact List.length_eq_zero_iff.1 (by simp at this; omega)
  have hL0 : L' = [] := by
   cases L' with
   | nil => rfl
   | cons x xs =>
    have : LI (x :: xs) = [] := by rw [hq, hq0]
    simp [LI] at this
  rw [hr0 hL0, hq0]; rfl
 simp only [Ky _ _ _ (CI _ _), go_sem]
 refine A6 (fun x : Nat × List Int × List Int × List Ar => { tm := [(0, .a (.c (.t 1 (Ai R)))), (2, .a (.c (.p 0 0))), (4, .a (.c (.s 1 R.length))), (5, .a (.c (.s 2 x.2.2.1.length))), (6, .i (AN out)), (7, .a (.c (.p 3 0))), (8, .i i), (9, .a (.c (.s 5 q.length))), (37, .a (.c (.s 5 q.length))), (38, .i q.length), (39, .i x.1)], hp := [.r ⟨25, 1, false, [.v (.slice none 0 0)]⟩, .r ⟨3, 1, true, A7 x.2.1⟩, .r ⟨3, 1, true, A7 x.2.2.1⟩, .r ⟨25, 1, false, [.s 4 i]⟩, .r ⟨41, 1, true, AC out⟩, .r ⟨40, 2, true, As x.2.2.2⟩], n := 87, pin := 0 }) (fun x => x.1 <= q.length /\ x.2.2.2.length = q.length /\ NumOk R.length x.2.1 x.2.2.1 /\ old.length <= x.2.2.1.length /\ NL (CY q num old) x.2.2.2 q x.1 x.2.1 x.2.2.1) (fun x => q.length - x.1) (0, num, old, q) ?_ ?_ ?_
 ·exact ⟨by simp, rfl, hN, Nat.le_refl _, NL.start q num old⟩
 ·exact Wo
 rintro ⟨k, num1, old1, ya⟩ ⟨hk, hyl, hN1, hol, hNL⟩ K hK
 simp only at hk hyl hN1 hol hNL
 have hlen1 := hN1.len
 have hle1 := hN1.le
 by_cases hlt2 : k < q.length
 rotate_left
 ·have d2 : decide ((k : Int) < (q.length : Int)) = false := by simpa using hlt2
  obtain ⟨f1, f2, f3⟩ := hNL.fin (by omega) hyl
  have hnd : ya.Nodup := by rw [f1]; exact LD q hqs (fun a ha => by rw [hlen]; exact hqb a ha) hI
  have hI2 : NumInj num1 old1 := by rw [f2, f3]; exact Ht q (fun a ha => by rw [hlen]; exact hqb a ha) hI
  (refine Wf @d2 ?_;(repeat clear hK K);repeat refine kq fun K hK=>?_)
  refine Wm ?_
  (refine Wi ?_;repeat clear hK K)
  rw [<- hyl]
  (refine We ?_;(repeat clear hK K);repeat refine kq fun K hK=>?_)
  (refine Ad rfl ?_; intro K1 hK1; refine AX (ids := []) [5] (Kw 95 (by kernel_rfl) Oi ya (by omega)) rfl rfl (by simp only [go_sem]) (by first | assumption | kernel_rfl) rfl rfl (by (simp only [List.map_append, List.append_nil, go_sem]) <;> rfl) (by (simp only [VC, D6, go_sem]) <;> rfl) ?_ ?_)
  ·rintro _ _ ⟨rfl, L2, _, _, rfl⟩; rfl
  rintro _ _ ⟨rfl, L2, hp2, hs2, rfl⟩
  (simp only [Aq, Bc, CI, List.append_nil, List.nil_append, List.length_map, go_sem]; refine hK1 _ ?_; clear hK1 K1)
  have hL2 : L2 = Cx ya := LC hnd hp2 hs2
  have hL2l := hp2.length_eq
  rw [<- hL2l]
  (refine D4 (BA (r := ⟨40, 2, true, As L2⟩) 5 (At L2) rfl (DA _) (show 0 < (2 : Nat) by omega)) ?_; simp only [ST.frz, A0.frz, AV.frz, C.frz, Nat.le_refl, List.set_cons_zero, List.set_cons_succ, go_sem, A3, Al, Bl, List.take_length])
  have htt : AN (out ++ [L2]) = AN out + L2.length := by rw [Lb, Qd]
  have hCn : Dl R (R.length - (i + 1)) (i + 1) num1 old1 (out ++ [L2]) = CH R := by
   rw [<- hC, hst, GZ, f2, f3, hL2, f1]
   rfl
  by_cases htb : AN (out ++ [L2]) > 262144
  ·have d5 : decide ((AN out : Int) + (L2.length : Int) > 262144) = true := gEg (by omega)
   (refine Wf (an @A3 (an @Al @d5)) ?_;(repeat clear hK K);repeat refine kq fun K hK=>?_)
   refine Wl ?_
   (refine Oy ?_;(repeat clear hK K);repeat refine kq fun K hK=>?_)
   refine Wp [0] Tryz.results80 ?_
   obtain ⟨l, hl⟩ := Oj R (R.length - (i + 1)) (i + 1) num1 old1 (out ++ [L2])
   rw [hCn] at hl
   unfold Yb
   rw [if_neg (by rw [hl, Lb]; omega)]
   exact ⟨rfl, rfl⟩
  have d5 : decide ((AN out : Int) + (L2.length : Int) > 262144) = false := decide_eq_false (by omega)
  have crp := LK out L2 hoi
  have ett : (AN out : Int) + (L2.length : Int) = (AN (out ++ [L2]) : Int) := by omega
  (refine Wf (an @A3 (an @Al @d5)) ?_;(repeat clear hK K);repeat refine kq fun K hK=>?_)
  refine Wm ?_
  (refine Cr (an @crp (an @Af @hoi)) ?_;(repeat clear hK K);repeat refine kq fun K hK=>?_)
  refine Wn ?_
  refine hK _ (i + 1, num1, old1, out ++ [L2]) ⟨hN1, hI2, hCn, by simp only; omega, by simp [hoi], by simp only; omega⟩ (by simp only; omega) ?_
  refine Le.trans (A8 [0, 1, 2, 3, 7] rfl rfl) ?_
  (try simp only [List.set_nil, List.take_nil, List.take_zero, List.map_append, go_sem])
  (try simp only [Ak, Bp, ett])
  exact Wo
 have d2 : decide ((k : Int) < (q.length : Int)) = true := by simpa using hlt2
 have hky : k < ya.length := by omega
 have hyq : ya[k] = q[k] := by
  have := congrArg (fun l => l[0]?) hNL.2.2.2
  simp only [List.getElem?_drop, Nat.add_zero] at this
  rw [gE1 hky, gE1 hlt2] at this
  exact Option.some.inj this
 have hyb := hqb _ (gE6 hlt2)
 rw [<- hyq] at hyb
 obtain ⟨e, tn, hya⟩ : ∃ (e : Int) (tn : Nat), ya[k] = (e, (tn : Int)) := ⟨ya[k].1, ya[k].2.toNat, by
  have : (ya[k].2.toNat : Int) = ya[k].2 := by omega
  rw [this]⟩
 have hyk : ya[k]? = some (e, (tn : Int)) := by rw [gE1 hky, hya]
 have htl : tn < R.length := by rw [hya] at hyb; have := hyb.2; simp only at this; omega
 have hat := DT hky
 rw [hya] at hat
 have gn : (A7 num1)[tn]? = some (.v (.int .i64 num1[tn])) := Ax (gE1 (by omega))
 have gn2 : num1[tn]? = some num1[tn] := gE1 (by omega)
 (refine Wf @d2 ?_;(repeat clear hK K);repeat refine kq fun K hK=>?_)
 refine Wl ?_
 by_cases hx : num1[tn] < 0
 rotate_left
 ·have d3 : decide (num1[tn] < 0) = false := by simpa using hx
  have cs := F8 hyk num1[tn]
  (refine Cr (an @hat (an @Ah (an @hyl (an @gn (an @d3 (an @A5 @hlen1)))))) ?_;(repeat clear hK K);repeat refine kq fun K hK=>?_)
  refine Wm ?_
  (refine Cr (an @gn (an @cs (an @Ah (an @hyl (an @A5 @hlen1))))) ?_;(repeat clear hK K);repeat refine kq fun K hK=>?_)
  refine Wn ?_
  refine hK _ (k + 1, num1, old1, ya.set k (e, num1[tn])) ⟨hlt2, by simp [hyl], hN1, hol, hNL.pos hyk gn2 hx⟩ (by simp only; omega) ?_
  refine Le.trans (A8 [0, 1, 2, 3, 4, 5] rfl rfl) ?_
  (try simp only [List.set_nil, List.take_nil, List.take_zero, List.map_append, go_sem])
  (try simp only [Ak, D6, Bp])
  exact Wo
 have d3 : decide (num1[tn] < 0) = true := by simpa using hx
 have gs : (A7 (num1.set tn (old1.length : Int)))[tn]? = some (.v (.int .i64 (old1.length : Int))) := Ax (gEc (by omega))
 have op := Pg old1 (tn : Int)
 have cs := F8 hyk (old1.length : Int)
 (refine Cr (an @hat (an @Ah (an @hyl (an @gn (an @d3 (an @A5 @hlen1)))))) ?_;(repeat clear hK K);repeat refine kq fun K hK=>?_)
 refine Wl ?_
 (refine Cr (an @A5 (an @hlen1 (an @B3 (an @op (an @gs (an @cs (an @Ah (an @hyl @List.length_set.{0})))))))) ?_;(repeat clear hK K);repeat refine kq fun K hK=>?_)
 refine Wn ?_
 have hone : B7 num1 old1 (tn : Int) = (num1.set tn (old1.length : Int), old1 ++ [(tn : Int)]) := by
  simp only [B7, Int.toNat_natCast, List.getD, gn2, Option.getD_some, if_pos hx]
 have hN2 := hN1.one (t := (tn : Int)) (by omega) (by omega)
 rw [hone] at hN2
 refine hK _ (k + 1, num1.set tn (old1.length : Int), old1 ++ [(tn : Int)], ya.set k (e, (old1.length : Int))) ⟨hlt2, by simp [hyl], hN2, by simp; omega, hNL.neg hyk gn2 hx rfl⟩ (by simp only; omega) ?_
 refine Le.trans (A8 [0, 1, 8, 3, 4, 5] rfl rfl) ?_
 (try simp only [List.set_nil, List.take_nil, List.take_zero, List.map_append, go_sem])
 (try simp only [Ak, D6, Bp])
 simp only [List.length_append, List.length_cons, List.length_nil]
 exact Wo
theorem Cl (L : List C) (s : Nat) (x y : C) : (L.set s x).set s y = L.set s y := by simp
end Go.Proofs.YthnkailnoobdoaaGreatDoor
