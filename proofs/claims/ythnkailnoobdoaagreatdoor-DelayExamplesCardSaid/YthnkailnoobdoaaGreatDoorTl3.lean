/- Lemmas. -/
import Derived.Test.YthnkailnoobdoaaGreatDoorG45
import Derived.Test.YthnkailnoobdoaaGreatDoorMF
import Derived.Test.YthnkailnoobdoaaGreatDoorOd1
namespace Go.Proofs.YthnkailnoobdoaaGreatDoor
set_option linter.unusedVariables false
set_option linter.unusedSimpArgs false

def Y3 (f : Nat -> Nat) (c : Nat) (o : List (List Ar)) (a : Ar) : List (List Ar) := o.set c (CK (a.1, (f a.2.toNat : Int)) (o.getD c []))
def UP (f : Nat -> Nat) (c : Nat) (o : List (List Ar)) (row : List Ar) : List (List Ar) := row.foldl (Y3 f c) o
theorem SG (f : Nat -> Nat) (c : Nat) (o : List (List Ar)) (a : Ar) : (Y3 f c o a).length = o.length := by simp [Y3]
def SameS (o p : List (List Ar)) : Prop := o.length = p.length /\ ∀ i a, a ∈ o.getD i [] ↔ a ∈ p.getD i []
theorem SameS.one {f : Nat -> Nat} {c : Nat} {o p : List (List Ar)} (h : SameS o p) (a : Ar) : SameS (Y3 f c o a) (WQ f c p a) := by
 refine ⟨by rw [SG, Rx]; exact h.1, fun i b => ?_⟩
 have h1 := h.1
 unfold Y3 WQ
 simp only [gE2, List.getElem?_set]
 by_cases hi : c = i
 rotate_left
 ·rw [if_neg hi, if_neg hi]
  have h2 := h.2 i b
  simpa only [gE2] using h2
 subst hi
 by_cases hc : c < o.length
 rotate_left
 ·rw [if_pos rfl, if_neg hc, if_pos rfl, if_neg (by omega)]
 have h2 := h.2 c b
 simp only [gE2] at h2
 rw [if_pos rfl, if_pos hc, if_pos rfl, if_pos (by omega)]
 simp only [Option.getD_some, Di, List.mem_append, List.mem_singleton, h2, or_comm]
theorem SameS.row {f : Nat -> Nat} {c : Nat} : ∀ (row : List Ar) {o p : List (List Ar)}, SameS o p -> SameS (UP f c o row) (UF f c p row)
 | [], _, _, h => h
 | a :: r, _, _, h => SameS.row r (h.one a)
open Go.RowKit
def NumSur (num old : List Int) : Prop := ∀ (j : Nat) (s : Int), old[j]? = some s -> 0 <= s /\ num[s.toNat]? = some (j : Int)
theorem NumSur.one {num old : List Int} (h : NumSur num old) {t : Int} (h0 : 0 <= t) (h1 : t < num.length) : NumSur (B7 num old t).1 (B7 num old t).2 := by
 have htl : t.toNat < num.length := by omega
 unfold B7
 split
 rotate_left
 ·exact h
 rename_i hneg
 intro j s hs
 simp only at hs ⊢
 rcases Nat.lt_or_ge j old.length with hj | hj
 ·rw [gEa hj] at hs
  obtain ⟨q1, q2⟩ := h j s hs
  refine ⟨q1, ?_⟩
  rw [List.getElem?_set, if_neg, q2]
  intro e
  rw [e, gE2, q2, Option.getD_some] at hneg
  omega
 rw [gEb hj] at hs
 have hj' : j = old.length := by
  have := (List.getElem?_eq_some_iff.1 hs).1
  simp at this
  omega
 subst hj'
 simp at hs
 subst hs
 exact ⟨h0, by rw [List.getElem?_set, if_pos rfl, if_pos htl]⟩
theorem Q9 (r : List Ar) {num old : List Int} (hr : ∀ a ∈ r, 0 <= a.2 /\ a.2 < num.length) (h : NumSur num old) : NumSur (CY r num old).1 (CY r num old).2.1 := by
 induction r generalizing num old with
 | nil => exact h
 | cons a tl ih =>
  have ha := hr a (by simp)
  exact ih (fun b hb => by rw [F2]; exact hr b (by simp [hb])) (h.one ha.1 ha.2)
theorem LW (num old : List Int) (t : Int) {j : Nat} {s : Int} (h : old[j]? = some s) : (B7 num old t).2[j]? = some s := by
 unfold B7
 split
 rotate_left
 ·exact h
 simp only
 rw [gEa (List.getElem?_eq_some_iff.1 h).1, h]
theorem La (r : List Ar) {num old : List Int} {j : Nat} {s : Int} (h : old[j]? = some s) : (CY r num old).2.1[j]? = some s := by
 induction r generalizing num old with
 | nil => exact h
 | cons a tl ih => exact ih (LW num old a.2 h)
theorem O9 (r : List Ar) (num old : List Int) : old.length <= (CY r num old).2.1.length := by
 rcases Nat.eq_zero_or_pos old.length with h | h
 ·omega
 have := La r (num := num) (old := old) (j := old.length - 1) (s := old[old.length - 1]) (gE1 (by omega))
 have := (List.getElem?_eq_some_iff.1 this).1
 omega
theorem NumSur.start {n : Nat} (hn : 0 < n) : NumSur ((List.replicate n (-1)).set 0 0) [0] := by
 intro j s hs
 cases j with
 | succ j => simp at hs
 | zero =>
  simp at hs; subst hs
  exact ⟨by omega, by simp [hn]⟩
theorem Oa (V : List (List Ar)) (s : Nat) : AN (V.set s []) + (V.getD s []).length = AN V := by
 induction V generalizing s with
 | nil => simp [AN]
 | cons x r ih =>
  cases s with
  | zero => simp [AN]; omega
  | succ s =>
   have := ih s
   simp only [List.set_cons_succ, List.getD_cons_succ]
   simp only [AN, List.map_cons, List.sum_cons] at this ⊢
   omega
theorem IK (l acc : List Ar) (h : SortA acc) : SortA (l.foldl (fun acc a => CK a acc) acc) := by
 induction l generalizing acc with
 | nil => exact h
 | cons a r ih => exact ih _ (Ga h)
structure RowsG (n : Nat) (out : List (List Ar)) : Prop where
 so : ∀ r ∈ out, SortA r
 bd : ∀ r ∈ out, ∀ a ∈ r, 0 <= a.1 /\ a.1 <= 1025 /\ 0 <= a.2 /\ a.2 < (n : Int)
theorem RowsG.le {n m : Nat} {out : List (List Ar)} (h : RowsG n out) (hm : n <= m) : RowsG m out := ⟨h.so, fun r hr a ha => by have := h.bd r hr a ha; omega⟩
theorem Oc {R : List (List Ar)} {B : Nat} (hb : ∀ r ∈ R, ∀ a ∈ r, 0 <= a.1 /\ a.1 <= 1025 /\ 0 <= a.2 /\ a.2 < (R.length : Int)) : ∀ (f i : Nat) (num old : List Int) (out V : List (List Ar)), NumOk R.length num old -> NumInj num old -> NumSur num old -> i = out.length -> i <= old.length -> R.length <= f + i ->
  RowsG old.length out -> V.length = R.length -> (∀ s, s < R.length -> (∀ j, j < i -> old[j]? ≠ some (s : Int)) -> V.getD s [] = R.getD s []) -> AN out + AN V <= B ->
  old.length <= (Dl R f i num old out).1.length /\ (Dl R f i num old out).1.length <= R.length /\ RowsG (Dl R f i num old out).1.length (Dl R f i num old out).1 /\ AN (Dl R f i num old out).1 <= B := by
 intro f
 induction f with
 | zero =>
  intro i num old out V hN hI hS hi ho hf hG hVl hV ht
  have hle := hN.le
  simp only [Dl]
  exact ⟨by omega, by omega, hG.le (by omega), by omega⟩
 | succ f ih =>
  intro i num old out V hN hI hS hi ho hf hG hVl hV ht
  have hle := hN.le
  unfold Dl
  split
  ·rename_i hs
   have := List.getElem?_eq_none_iff.1 hs
   exact ⟨by simp only; omega, by simp only; omega, hG.le (by simp only; omega), by simp only; omega⟩
  rename_i s hs
  have hs0 := hN.st s (gE9 hs)
  have hsl : s.toNat < R.length := by omega
  have hil := (List.getElem?_eq_some_iff.1 hs).1
  have hg : R.getD s.toNat [] = R[s.toNat] := by rw [gE2, gE1 hsl]; rfl
  have hrm := gE6 hsl
  have hVs : V.getD s.toNat [] = R.getD s.toNat [] := hV s.toNat hsl fun j hj he => by
   have e : ((s.toNat : Nat) : Int) = s := by omega
   rw [e] at he
   have q1 := (hS j s he).2
   have q2 := (hS i s hs).2
   rw [q1] at q2
   injection q2 with q2
   omega
  have hts := Oa V s.toNat
  rw [hVs, hg] at hts
  rw [hg]
  have hq : ∀ a ∈ Cx R[s.toNat], 0 <= a.2 /\ a.2 < (num.length : Int) := fun a ha => by
   have := hb _ hrm a ((C9 _ a).1 ha); rw [hN.len]; omega
  have hqe : ∀ a ∈ Cx R[s.toNat], 0 <= a.1 /\ a.1 <= 1025 := fun a ha => by
   have := hb _ hrm a ((C9 _ a).1 ha); omega
  have hl3 := Iq R[s.toNat]
  generalize Cx R[s.toNat] = q at *
  have hN2 := NumOk.go q [] hN (by rw [<- hN.len]; exact hq)
  have hn2 := GZ q num old []
  rw [hn2] at hN2 ⊢
  simp only at hN2 ⊢
  have hI2 := Ht q hq hI
  have hS2 := Q9 q hq hS
  obtain ⟨hm1, hm2⟩ := Kb (old := old) q hq
  have hgr := O9 q num old
  have hold : ∀ (j : Nat) (x : Int), old[j]? = some x -> (CY q num old).2.1[j]? = some x := fun j x h => La q h
  have hrow : SortA ((CY q num old).2.2.foldl (fun acc a => CK a acc) []) := IK _ _ List.Pairwise.nil
  have hrl := EB (CY q num old).2.2 []
  have hrb : ∀ a ∈ (CY q num old).2.2.foldl (fun acc a => CK a acc) [], 0 <= a.1 /\ a.1 <= 1025 /\ 0 <= a.2 /\ a.2 < ((CY q num old).2.1.length : Int) := fun a ha => by
   rw [EA] at ha
   rcases ha with ha | ha
   ·simp at ha
   rw [hm1] at ha
   obtain ⟨b, hb1, rfl⟩ := List.mem_map.1 ha
   obtain ⟨x, hx, hp⟩ := hm2 b hb1
   have h1 := hqe b hb1
   have h2 := (List.getElem?_eq_some_iff.1 (hI2.inj _ _ hx hp)).1
   simp only [gE2, hx, Option.getD_some]
   omega
  rw [hm1, List.length_map] at hrl
  simp only [List.length_nil, Nat.zero_add] at hrl
  rw [<- hm1] at hrl
  generalize (CY q num old).2.2.foldl (fun acc a => CK a acc) [] = nr at *
  generalize (CY q num old).1 = num2 at *
  generalize (CY q num old).2.1 = old2 at *
  obtain ⟨k1, k2, k3, k4⟩ := ih (i + 1) num2 old2 (out ++ [nr]) (V.set s.toNat []) hN2 hI2 hS2 (by simp; omega) (by omega) (by omega) ⟨fun r hr => by
   rcases List.mem_append.1 hr with h | h
   ·exact hG.so r h
   ·simp at h; subst h; exact hrow, fun r hr a ha => by
   rcases List.mem_append.1 hr with h | h
   ·have := hG.bd r h a ha; omega
   ·simp at h; subst h; exact hrb a ha⟩ (by simp [hVl]) (fun t htl hto => by
   have hne : s.toNat ≠ t := fun e => hto i (by omega) (by rw [hold i s hs]; congr 1; omega)
   rw [gE2, gE5 hne, <- gE2]
   exact hV t htl fun j hj he => hto j (by omega) (hold j _ he)) (by rw [Ip]; omega)
  exact ⟨by omega, k2, k3, k4⟩
def Y4 (m c : Int) : Int := if m < c + 1 then c + 1 else m
def Y5 (m : Int) (l : List Int) : Int := l.foldl Y4 m
def JI : List Int -> Int -> Bool
 | [], _ => true
 | c :: r, m => (!decide (c < 0) && !decide (c > m)) && JI r (Y4 m c)
def M7 (C : List Int) (n : Nat) : Bool := JI C 0 && decide (C.length = n)
theorem HP (m : Int) (l : List Int) (c : Int) : Y5 m (l ++ [c]) = Y4 (Y5 m l) c := by unfold Y5; rw [List.foldl_append]; rfl
theorem Ub (l : List Int) : ∀ m : Int, m <= Y5 m l /\ ∀ c ∈ l, c + 1 <= Y5 m l := by
 induction l with
 | nil => intro m; exact ⟨Int.le_refl _, by simp⟩
 | cons a r ih =>
  intro m
  obtain ⟨h1, h2⟩ := ih (Y4 m a)
  have e : Y5 m (a :: r) = Y5 (Y4 m a) r := rfl
  have h3 : m <= Y4 m a /\ a + 1 <= Y4 m a := by unfold Y4; split <;> omega
  rw [e]
  refine ⟨by omega, fun c hc => ?_⟩
  rcases List.mem_cons.1 hc with rfl | hc
  ·omega
  exact h2 c hc
theorem Uc {n : Nat} (l : List Int) : ∀ m : Int, JI l m = true -> 0 <= m -> Y5 m l <= m + l.length /\ (∀ c ∈ l, 0 <= c) := by
 induction l with
 | nil => intro m _ _; exact ⟨by simp [Y5], by simp⟩
 | cons a r ih =>
  intro m h hm
  simp only [JI, Bool.and_eq_true, Bool.not_eq_true', decide_eq_false_iff_not] at h
  obtain ⟨⟨h1, h2⟩, h3⟩ := h
  have h4 : 0 <= Y4 m a /\ Y4 m a <= m + 1 := by unfold Y4; split <;> omega
  obtain ⟨q1, q2⟩ := ih (Y4 m a) h3 h4.1
  have e : Y5 m (a :: r) = Y5 (Y4 m a) r := rfl
  rw [e]
  refine ⟨by simp only [List.length_cons]; omega, fun c hc => ?_⟩
  rcases List.mem_cons.1 hc with rfl | hc
  ·omega
  exact q2 c hc
def IY (x : Int) (l : List Int) : Int := l.foldl (fun a b => if a < b then b else a) x
theorem Oe (x : Int) (l : List Int) (y : Int) : IY x (l ++ [y]) = if IY x l < y then y else IY x l := by unfold IY; rw [List.foldl_append]; rfl
theorem SH (l : List Int) : ∀ x : Int, Y5 (x + 1) l = IY x l + 1 := by
 induction l with
 | nil => intro x; rfl
 | cons a r ih =>
  intro x
  have e : Y4 (x + 1) a = (if x < a then a else x) + 1 := by unfold Y4; split <;> split <;> omega
  show Y5 (Y4 (x + 1) a) r = IY (if x < a then a else x) r + 1
  rw [e, ih]
theorem Qa {x : Int} (l : List Int) (h : 0 <= x) : Y5 0 (x :: l) = IY x (x :: l) + 1 := by
 have e1 : Y4 0 x = x + 1 := by unfold Y4; rw [if_pos (by omega)]
 have e2 : IY x (x :: l) = IY x l := by show IY (if x < x then x else x) l = _; simp
 rw [e2, <- SH, <- e1]; rfl
def Y6 (C : List Int) (v : Nat) : Nat := (C.getD v 0).toNat
def Y7 (C : List Int) : Nat := (Y5 0 C).toNat
theorem IL {C : List Int} {n : Nat} (h : M7 C n = true) : C.length = n /\ Y7 C <= n /\ (∀ v, v < n -> Y6 C v < Y7 C /\ C[v]? = some ((Y6 C v : Nat) : Int)) /\ Y5 0 C = (Y7 C : Int) := by
 simp only [M7, Bool.and_eq_true, decide_eq_true_eq] at h
 obtain ⟨h1, h2⟩ := h
 obtain ⟨q1, q2⟩ := Uc (n := n) C 0 h1 (Int.le_refl _)
 obtain ⟨p1, p2⟩ := Ub C 0
 refine ⟨h2, by unfold Y7; omega, fun v hv => ?_, by unfold Y7; omega⟩
 have hl : v < C.length := by omega
 have a1 := q2 _ (gE6 hl)
 have a2 := p2 _ (gE6 hl)
 unfold Y6 Y7
 rw [gE2, gE1 hl, Option.getD_some]
 refine ⟨by omega, by congr 1; omega⟩
def Y8 (f : Nat -> Nat) (c : Nat) (a : Ar) : Option Ar := if a.1 ≠ 0 \/ f a.2.toNat ≠ c then some (a.1, (f a.2.toNat : Int)) else none
def CN (x : Option Ar) (c : Nat) (o : List (List Ar)) : List (List Ar) := match x with | some b => o.set c (o.getD c [] ++ [b]) | none => o
def Da (f : Nat -> Nat) (c : Nat) (o : List (List Ar)) (row : List Ar) : List (List Ar) := row.foldl (fun o a => CN (Y8 f c a) c o) o
def C4 (f : Nat -> Nat) (m : Nat) (R : List (List Ar)) : Nat -> List (List Ar)
 | 0 => List.replicate m []
 | k + 1 => Da f (f k) (C4 f m R k) (R.getD k [])
def Y9 (b : Bool) (c : Nat) : Option Ar := if b then some (0, (c : Int)) else none
def Ya (f : Nat -> Nat) (m : Nat) (B : List Bool) (k : Nat) : List Bool := (List.range m).map fun c => (List.range k).any fun s => decide (f s = c) && B.getD s false
def DJ (L : List Bool) (o : List (List Ar)) : Nat -> List (List Ar)
 | 0 => o
 | c + 1 => CN (Y9 (L.getD c false) c) c (DJ L o c)
def qR (R : List (List Ar)) (C : List Int) (B : List Bool) : List (List Ar) := DJ (Ya (Y6 C) (Y7 C) B R.length) (C4 (Y6 C) (Y7 C) R R.length) (Y7 C)
theorem Gz (x : Option Ar) (c : Nat) (o : List (List Ar)) : (CN x c o).length = o.length := by cases x <;> simp [CN]
theorem GA (f : Nat -> Nat) (c : Nat) (row : List Ar) : ∀ o, (Da f c o row).length = o.length := by
 induction row with
 | nil => intro o; rfl
 | cons a r ih => intro o; show (Da f c (CN (Y8 f c a) c o) r).length = _; rw [ih, Gz]
theorem Db (f : Nat -> Nat) (m : Nat) (R : List (List Ar)) (k : Nat) : (C4 f m R k).length = m := by
 induction k with
 | zero => simp [C4]
 | succ k ih => rw [C4, GA, ih]
theorem GB (L : List Bool) (o : List (List Ar)) (k : Nat) : (DJ L o k).length = o.length := by
 induction k with
 | zero => rfl
 | succ k ih => rw [DJ, Gz, ih]
theorem He (f : Nat -> Nat) (c : Nat) (o : List (List Ar)) (row : List Ar) (a : Ar) : Da f c o (row ++ [a]) = CN (Y8 f c a) c (Da f c o row) := by unfold Da; rw [List.foldl_append]; rfl
theorem IM {x : Option Ar} {c d : Nat} {o : List (List Ar)} {a : Ar} (h : c < o.length) : a ∈ (CN x c o).getD d [] ↔ a ∈ o.getD d [] \/ (d = c /\ x = some a) := by
 cases x with
 | none => simp [CN]
 | some b =>
  unfold CN
  simp only
  rw [gE2]
  by_cases e : c = d
  rotate_left
  ·rw [gE5 e, <- gE2]
   simp [Ne.symm e]
  subst e
  rw [gEc h, Option.getD_some, List.mem_append]
  simp [eq_comm]
theorem Of {f : Nat -> Nat} {c d : Nat} {a : Ar} : ∀ (row : List Ar) (o : List (List Ar)), c < o.length -> (a ∈ (Da f c o row).getD d [] ↔ a ∈ o.getD d [] \/ (d = c /\ ∃ b ∈ row, Y8 f c b = some a)) := by
 intro row
 induction row with
 | nil => intro o _; simp [Da]
 | cons b r ih =>
  intro o h
  show a ∈ (Da f c (CN (Y8 f c b) c o) r).getD d [] ↔ _
  rw [ih _ (by rw [Gz]; exact h), IM h]
  simp only [List.mem_cons, exists_eq_or_imp]
  rw [or_assoc, <- and_or_left]
def QA (R : List (List Ar)) (f : Nat -> Nat) (k d : Nat) (a : Ar) : Prop := ∃ s, s < k /\ f s = d /\ ∃ b ∈ R.getD s [], Y8 f d b = some a
def QL (f : Nat -> Nat) (B : List Bool) (k d : Nat) (a : Ar) : Prop := a = (0, (d : Int)) /\ ∃ s, s < k /\ f s = d /\ B.getD s false = true
theorem QA.succ {R : List (List Ar)} {f : Nat -> Nat} {k d : Nat} {a : Ar} : QA R f (k + 1) d a ↔ QA R f k d a \/ (d = f k /\ ∃ b ∈ R.getD k [], Y8 f (f k) b = some a) := by
 constructor
 rotate_left
 ·rintro (⟨s, h1, h2, h3⟩ | ⟨rfl, h3⟩)
  ·exact ⟨s, by omega, h2, h3⟩
  exact ⟨k, by omega, rfl, h3⟩
 rintro ⟨s, h1, h2, h3⟩
 by_cases e : s = k
 ·subst e; subst h2; exact .inr ⟨rfl, h3⟩
 exact .inl ⟨s, by omega, h2, h3⟩
theorem QL.succ {f : Nat -> Nat} {B : List Bool} {k d : Nat} {a : Ar} : QL f B (k + 1) d a ↔ QL f B k d a \/ (d = f k /\ Y9 (B.getD k false) (f k) = some a) := by
 unfold QL Y9
 constructor
 ·rintro ⟨h0, s, h1, h2, h3⟩
  by_cases e : s = k
  ·subst e; subst h2; exact .inr ⟨rfl, by rw [if_pos h3, h0]⟩
  exact .inl ⟨h0, s, by omega, h2, h3⟩
 rintro (⟨h0, s, h1, h2, h3⟩ | ⟨rfl, h3⟩)
 ·exact ⟨h0, s, by omega, h2, h3⟩
 split at h3
 rotate_left
 ·cases h3
 rename_i hb
 injection h3 with h3
 exact ⟨h3.symm, k, by omega, rfl, hb⟩
theorem Qb {m d : Nat} : (List.replicate m ([] : List Ar)).getD d [] = [] := by
 rw [gE2, List.getElem?_replicate]; split <;> rfl
theorem Og {f : Nat -> Nat} {m d : Nat} {R : List (List Ar)} {a : Ar} {n : Nat} (hf : ∀ v, v < n -> f v < m) : ∀ k, k <= n -> (a ∈ (C4 f m R k).getD d [] ↔ QA R f k d a) := by
 intro k
 induction k with
 | zero => intro _; rw [C4, Qb]; simp [QA]
 | succ k ih =>
  intro hk
  rw [C4, Of _ _ (by rw [Db]; exact hf k hk), ih (by omega), QA.succ]
theorem Oh {L : List Bool} {d : Nat} {o : List (List Ar)} {a : Ar} : ∀ k, k <= o.length -> (a ∈ (DJ L o k).getD d [] ↔ a ∈ o.getD d [] \/ (d < k /\ L.getD d false = true /\ a = (0, (d : Int)))) := by
 intro k
 induction k with
 | zero => intro _; simp [DJ]
 | succ k ih =>
  intro hk
  rw [DJ, IM (by rw [GB]; exact hk), ih (by omega)]
  unfold Y9
  constructor
  rotate_left
  ·rintro (h | ⟨h1, h2, h3⟩)
   ·exact .inl (.inl h)
   by_cases e : d = k
   ·subst e; exact .inr ⟨rfl, by rw [if_pos h2, h3]⟩
   exact .inl (.inr ⟨by omega, h2, h3⟩)
  rintro ((h | ⟨h1, h2, h3⟩) | ⟨rfl, h2⟩)
  ·exact .inl h
  ·exact .inr ⟨by omega, h2, h3⟩
  split at h2
  ·rename_i hb; injection h2 with h2; exact .inr ⟨by omega, hb, h2.symm⟩
  cases h2
theorem Fj (f : Nat -> Nat) (m : Nat) (B : List Bool) (k : Nat) : (Ya f m B k).length = m := by simp [Ya]
theorem JJ {f : Nat -> Nat} {m : Nat} {B : List Bool} {k d : Nat} (hd : d < m) : (Ya f m B k).getD d false = (List.range k).any fun s => decide (f s = d) && B.getD s false := by
 simp [Ya, gE2, hd]
theorem SI {f : Nat -> Nat} {m : Nat} {B : List Bool} {k : Nat} (hf : f k < m) : (Ya f m B k).set (f k) ((Ya f m B k).getD (f k) false || B.getD k false) = Ya f m B (k + 1) := by
 have hl := Fj f m B k
 refine List.ext_getElem (by simp [Ya]) fun i h1 h2 => ?_
 rw [Fj] at h2
 have e2 : (Ya f m B (k + 1))[i]'(by rw [Fj]; exact h2) = ((List.range (k + 1)).any fun s => decide (f s = i) && B.getD s false) := by simp [Ya]
 rw [e2, List.range_succ, List.any_append]
 by_cases e : f k = i
 ·subst e
  rw [List.getElem_set_self, JJ hf]
  simp
 rw [List.getElem_set_ne e]
 have e3 : (Ya f m B k)[i]'(by rw [Fj]; exact h2) = ((List.range k).any fun s => decide (f s = i) && B.getD s false) := by simp [Ya]
 rw [e3]
 simp [e]
theorem Ud {R : List (List Ar)} {C : List Int} {B : List Bool} (h : M7 C R.length = true) {d : Nat} {a : Ar} : a ∈ (qR R C B).getD d [] ↔ QA R (Y6 C) R.length d a \/ QL (Y6 C) B R.length d a := by
 obtain ⟨h1, h2, h3, _⟩ := IL h
 have hf : ∀ v, v < R.length -> Y6 C v < Y7 C := fun v hv => (h3 v hv).1
 unfold qR
 rw [Oh _ (by rw [Db]; exact Nat.le_refl _), Og hf _ (Nat.le_refl _)]
 refine or_congr Iff.rfl ?_
 unfold QL
 constructor
 ·rintro ⟨g1, g2, g3⟩
  rw [JJ g1, List.any_eq_true] at g2
  obtain ⟨s, hs, hb⟩ := g2
  simp only [Bool.and_eq_true, decide_eq_true_eq] at hb
  exact ⟨g3, s, List.mem_range.1 hs, hb.1, hb.2⟩
 rintro ⟨g3, s, hs, rfl, hb⟩
 refine ⟨hf s hs, ?_, g3⟩
 rw [JJ (hf s hs), List.any_eq_true]
 exact ⟨s, List.mem_range.2 hs, by simp only [Bool.and_eq_true, decide_eq_true_eq]; exact ⟨trivial, hb⟩⟩
theorem Yh (x : Option Ar) (c : Nat) (o : List (List Ar)) : AN (CN x c o) <= AN o + 1 := by
 cases x with
 | none => simp [CN]
 | some b =>
  unfold CN
  by_cases h : c < o.length
  ·simp only; rw [Pn o h]; exact Nat.le_refl _
  simp only; rw [List.set_eq_of_length_le (by omega)]; omega
theorem GC (f : Nat -> Nat) (c : Nat) (row : List Ar) : ∀ o, AN (Da f c o row) <= AN o + row.length := by
 induction row with
 | nil => intro o; exact Nat.le_refl _
 | cons a r ih =>
  intro o
  have h1 := ih (CN (Y8 f c a) c o)
  have h2 := Yh (Y8 f c a) c o
  show AN (Da f c (CN (Y8 f c a) c o) r) <= _
  simp only [List.length_cons]; omega
theorem GD (f : Nat -> Nat) (m : Nat) (R : List (List Ar)) : ∀ k, k <= R.length -> AN (C4 f m R k) <= AN (R.take k) := by
 intro k
 induction k with
 | zero => intro _; rw [C4, Po]; omega
 | succ k ih =>
  intro hk
  have h1 := ih (by omega)
  have h2 := BX (R := R) (k := k) hk
  have h3 := GC f (f k) (R.getD k []) (C4 f m R k)
  have h4 : R.getD k [] = R[k] := by rw [gE2, gE1 hk]; rfl
  rw [C4]
  rw [h4] at h3 ⊢
  omega
theorem IP (L : List Bool) (o : List (List Ar)) : ∀ k, AN (DJ L o k) <= AN o + k := by
 intro k
 induction k with
 | zero => exact Nat.le_refl _
 | succ k ih =>
  have := Yh (Y9 (L.getD k false) k) k (DJ L o k)
  rw [DJ]; omega
theorem QA.bd {R : List (List Ar)} {f : Nat -> Nat} {m k d : Nat} {a : Ar} (hlo : BK R = true) (hk : k <= R.length) (hf : ∀ v, v < R.length -> f v < m) (h : QA R f k d a) : 0 <= a.1 /\ a.1 <= 1025 /\ 0 <= a.2 /\ a.2 < (m : Int) := by
 obtain ⟨s, h1, h2, b, hb, h3⟩ := h
 have hs : s < R.length := by omega
 rw [gE2, gE1 hs] at hb
 have hbd := (gE4 hlo).2.2.2 _ (gE6 hs) b hb
 unfold Y8 at h3
 split at h3
 rotate_left
 ·cases h3
 injection h3 with h3
 subst h3
 have := hf b.2.toNat (by omega)
 simp only; omega
theorem Ue {R : List (List Ar)} {C : List Int} {B : List Bool} (hlo : BK R = true) (h : M7 C R.length = true) : (qR R C B).length = Y7 C /\ (∀ r ∈ qR R C B, ∀ a ∈ r, 0 <= a.1 /\ a.1 <= 1025 /\ 0 <= a.2 /\ a.2 < ((qR R C B).length : Int)) /\ AN (qR R C B) <= AN R + R.length := by
 obtain ⟨h1, h2, h3, _⟩ := IL h
 have hf : ∀ v, v < R.length -> Y6 C v < Y7 C := fun v hv => (h3 v hv).1
 have hl : (qR R C B).length = Y7 C := by unfold qR; rw [GB, Db]
 refine ⟨hl, fun r hr a ha => ?_, ?_⟩
 rotate_left
 ·have a1 := IP (Ya (Y6 C) (Y7 C) B R.length) (C4 (Y6 C) (Y7 C) R R.length) (Y7 C)
  have a2 := GD (Y6 C) (Y7 C) R R.length (Nat.le_refl _)
  rw [List.take_length] at a2
  unfold qR
  omega
 obtain ⟨d, hd, rfl⟩ := List.getElem_of_mem hr
 have hd2 : d < Y7 C := by omega
 have ha2 : a ∈ (qR R C B).getD d [] := by rw [gE2, gE1 hd]; exact ha
 rw [hl]
 rcases (Ud h).1 ha2 with q | ⟨q, _⟩
 ·exact q.bd hlo (Nat.le_refl _) hf
 subst q; simp only; omega
def MtK {α : Type} (A : List (List Ar)) (kA : Nat -> α) (B : List (List Ar)) (kB : Nat -> α) : Prop :=
 ∀ s t, s < A.length -> t < B.length -> kA s = kB t -> (Dv A s -> Dv B t) /\ ∀ a ∈ (H5 A).getD s [], ∃ b ∈ (H5 B).getD t [], b.1 = a.1 /\ kB b.2.toNat = kA a.2.toNat
theorem YY {R : List (List Ar)} (hv : BL R = true) (hn : R.length <= 100) {s : Nat} (hs : s < R.length) {a : Ar} (h : a ∈ (H5 R).getD s []) : 0 <= a.2 /\ a.2.toNat < R.length := by
 have hb := RC hv hn
 have hm : (H5 R).getD s [] ∈ H5 R := by
  rw [gE2, gE1 (by omega), Option.getD_some]
  exact gE6 _
 have := (hb.2 _ hm).2 a h
 omega
theorem YZ {α : Type} {R : List (List Ar)} {k : Nat -> α} (hv : BL R = true) (hn : R.length <= 100) (hk : MtK R k R k) {c : List Int} (ih : ∀ s t, s < R.length -> t < R.length -> k s = k t -> c.getD s 0 = c.getD t 0) {s t : Nat} (hs : s < R.length) (ht : t < R.length) (h : k s = k t) : Ir c ((H5 R).getD s []) ((H5 R).getD t []) = true := by
 unfold Ir
 refine List.all_eq_true.2 fun a ha => ?_
 obtain ⟨b, hb, e1, e2⟩ := (hk s t hs ht h).2 a ha
 unfold LE
 refine List.any_eq_true.2 ⟨b, hb, ?_⟩
 rw [e1, ih _ _ (YY hv hn ht hb).2 (YY hv hn hs ha).2 e2]
 simp
theorem MtK.le {α : Type} {R : List (List Ar)} {k : Nat -> α} (hv : BL R = true) (hn : R.length <= 100) (hk : MtK R k R k) {c : List Int} (hc : DlC R c) {s t : Nat} (hs : s < R.length) (ht : t < R.length) (h : k s = k t) : c.getD s 0 = c.getD t 0 := by
 obtain ⟨B, hB, i, hi, -⟩ := hc
 have hb := RC hv hn
 subst hi
 induction i generalizing s t with
 | zero =>
  show (X7 B R.length).getD s 0 = (X7 B R.length).getD t 0
  rw [Gn hs, Gn ht]
  have e : B.getD s false = B.getD t false := by
   rw [Bool.eq_iff_iff, hB.2 s hs, hB.2 t ht]
   exact ⟨(hk s t hs ht h).1, (hk t s ht hs h.symm).1⟩
  unfold X6
  rw [e]
 | succ i ih =>
  have ih2 := fun s t hs ht h => ih (s := s) (t := t) hs ht h
  have e := (Ca (Wy (H5 R) (WB (H5 R) (X7 B R.length) i)) (H5 R).length).eq s t (by omega) (by omega)
  refine e.2 ?_
  unfold Wy
  rw [ih hs ht h, MN.2 ⟨YZ hv hn hk ih2 hs ht h, YZ hv hn hk ih2 ht hs h.symm⟩]
theorem DlC.key {R : List (List Ar)} (hv : BL R = true) (hn : R.length <= 100) {c : List Int} (hc : DlC R c) : MtK R (fun s => c.getD s 0) R (fun s => c.getD s 0) := by
 obtain ⟨B, hB, i, hi, hf⟩ := hc
 have hb := RC hv hn
 intro s t hs ht h
 simp only at h ⊢
 have e := (Ca (Wy (H5 R) c) (H5 R).length).eq s t (by omega) (by omega)
 have e0 : (Ww (Wy (H5 R) c) (H5 R).length).1 = c := hf
 rw [e0] at e
 have e2 := congrArg Prod.snd (e.1 h)
 obtain ⟨c1, -⟩ := MN.1 e2
 refine ⟨fun hd => ?_, fun a ha => ?_⟩
 rotate_left
 ·obtain ⟨b, hb2, hq⟩ := List.any_eq_true.1 (List.all_eq_true.1 c1 a ha)
  simp only [Bool.and_eq_true, beq_iff_eq] at hq
  exact ⟨b, hb2, hq.1, hq.2⟩
 have hdv : ∀ j, (WB (H5 R) (X7 B R.length) j).getD s 0 = (WB (H5 R) (X7 B R.length) j).getD t 0 -> (X7 B R.length).getD s 0 = (X7 B R.length).getD t 0 := by
  intro j
  induction j with
  | zero => exact id
  | succ j ih => intro q; exact ih (congrArg Prod.fst (((Ca (Wy (H5 R) (WB (H5 R) (X7 B R.length) j)) (H5 R).length).eq s t (by omega) (by omega)).1 q))
 have q := hdv i (by rw [<- hi]; exact h)
 rw [Gn hs, Gn ht] at q
 refine (hB.2 t ht).1 ?_
 have h2 := (hB.2 s hs).2 hd
 unfold X6 at q
 rw [h2] at q
 generalize B.getD 0 false = x0 at q
 generalize B.getD t false = x1 at q ⊢
 revert q
 cases x0 <;> cases x1 <;> decide
/-! Side by side. -/
/-! The quotient. -/
structure QuX (R X : List (List Ar)) (f kX : Nat -> Nat) : Prop where
 inj : ∀ i j, i < X.length -> j < X.length -> kX i = kX j -> i = j
 sur : ∀ j, j < X.length -> ∃ s, s < R.length /\ f s = kX j
 fw : ∀ s j, s < R.length -> j < X.length -> f s = kX j -> ∀ b ∈ R.getD s [], (b.1 ≠ 0 \/ f b.2.toNat ≠ f s) -> ∃ i : Nat, i < X.length /\ (b.1, (i : Int)) ∈ X.getD j [] /\ kX i = f b.2.toNat
 bw : ∀ j (a : Ar), j < X.length -> a ∈ X.getD j [] -> ∃ i : Nat, i < X.length /\ a.2 = (i : Int) /\ ((∃ s, s < R.length /\ f s = kX j /\ ∃ b ∈ R.getD s [], b.1 = a.1 /\ f b.2.toNat = kX i /\ (a.1 ≠ 0 \/ kX i ≠ kX j)) \/ (a.1 = 0 /\ i = j /\ ∃ s, s < R.length /\ f s = kX j /\ Dv R s))
 lp : ∀ s j, s < R.length -> j < X.length -> f s = kX j -> Dv R s -> (0, (j : Int)) ∈ X.getD j []
section
variable {R X : List (List Ar)} {f kX : Nat -> Nat}
end
end Go.Proofs.YthnkailnoobdoaaGreatDoor
