/- Lemmas. -/
import Derived.Test.YthnkailnoobdoaaDoorG45
import Derived.Test.YthnkailnoobdoaaDoorMF
import Derived.Test.YthnkailnoobdoaaDoorOd1
namespace Go.Proofs.YthnkailnoobdoaaDoor
set_option linter.unusedVariables false
set_option linter.unusedSimpArgs false

def WG (f : Nat -> Nat) (c : Nat) (o : List (List Ar)) (a : Ar) : List (List Ar) := o.set c (Db (a.1, (f a.2.toNat : Int)) (o.getD c []))
def Tq (f : Nat -> Nat) (c : Nat) (o : List (List Ar)) (row : List Ar) : List (List Ar) := row.foldl (WG f c) o
theorem Ro (f : Nat -> Nat) (c : Nat) (o : List (List Ar)) (a : Ar) : (WG f c o a).length = o.length := by simp [WG]
def SameS (o p : List (List Ar)) : Prop := o.length = p.length /\ ∀ i a, a ∈ o.getD i [] ↔ a ∈ p.getD i []
theorem SameS.one {f : Nat -> Nat} {c : Nat} {o p : List (List Ar)} (h : SameS o p) (a : Ar) : SameS (WG f c o a) (VA f c p a) := by
 refine ⟨by rw [Ro, Qv]; exact h.1, fun i b => ?_⟩
 have h1 := h.1
 unfold WG VA
 simp only [gE2, List.getElem?_set]
 by_cases hi : c = i
 rotate_left
 ·rw [if_neg hi, if_neg hi]
  have h2 := h.2 i b
  simpa only [gE2] using h2
 subst hi
 by_cases hc : c < o.length
 rotate_left
 ·rw [if_pos rfl, if_neg hc, if_pos rfl, if_neg (by omega)]
 have h2 := h.2 c b
 simp only [gE2] at h2
 rw [if_pos rfl, if_pos hc, if_pos rfl, if_pos (by omega)]
 simp only [Option.getD_some, Fc, List.mem_append, List.mem_singleton, h2, or_comm]
theorem SameS.row {f : Nat -> Nat} {c : Nat} : ∀ (row : List Ar) {o p : List (List Ar)}, SameS o p -> SameS (Tq f c o row) (Tk f c p row)
 | [], _, _, h => h
 | a :: r, _, _, h => SameS.row r (h.one a)
open Go.RowKit
def NumSur (num old : List Int) : Prop := ∀ (j : Nat) (s : Int), old[j]? = some s -> 0 <= s /\ num[s.toNat]? = some (j : Int)
theorem NumSur.one {num old : List Int} (h : NumSur num old) {t : Int} (h0 : 0 <= t) (h1 : t < num.length) : NumSur (AF num old t).1 (AF num old t).2 := by
 have htl : t.toNat < num.length := by omega
 unfold AF
 split
 rotate_left
 ·exact h
 rename_i hneg
 intro j s hs
 simp only at hs ⊢
 rcases Nat.lt_or_ge j old.length with hj | hj
 ·rw [gEa hj] at hs
  obtain ⟨q1, q2⟩ := h j s hs
  refine ⟨q1, ?_⟩
  rw [List.getElem?_set, if_neg, q2]
  intro e
  rw [e, gE2, q2, Option.getD_some] at hneg
  omega
 rw [gEb hj] at hs
 have hj' : j = old.length := by
  have := (List.getElem?_eq_some_iff.1 hs).1
  simp at this
  omega
 subst hj'
 simp at hs
 subst hs
 exact ⟨h0, by rw [List.getElem?_set, if_pos rfl, if_pos htl]⟩
theorem Kj (r : List Ar) {num old : List Int} (hr : ∀ a ∈ r, 0 <= a.2 /\ a.2 < num.length) (h : NumSur num old) : NumSur (Ck r num old).1 (Ck r num old).2.1 := by
 induction r generalizing num old with
 | nil => exact h
 | cons a tl ih =>
  have ha := hr a (by simp)
  exact ih (fun b hb => by rw [EB]; exact hr b (by simp [hb])) (h.one ha.1 ha.2)
theorem L5 (num old : List Int) (t : Int) {j : Nat} {s : Int} (h : old[j]? = some s) : (AF num old t).2[j]? = some s := by
 unfold AF
 split
 rotate_left
 ·exact h
 simp only
 rw [gEa (List.getElem?_eq_some_iff.1 h).1, h]
theorem Hp (r : List Ar) {num old : List Int} {j : Nat} {s : Int} (h : old[j]? = some s) : (Ck r num old).2.1[j]? = some s := by
 induction r generalizing num old with
 | nil => exact h
 | cons a tl ih => exact ih (L5 num old a.2 h)
theorem Ig (r : List Ar) (num old : List Int) : old.length <= (Ck r num old).2.1.length := by
 rcases Nat.eq_zero_or_pos old.length with h | h
 ·omega
 have := Hp r (num := num) (old := old) (j := old.length - 1) (s := old[old.length - 1]) (gE1 (by omega))
 have := (List.getElem?_eq_some_iff.1 this).1
 omega
theorem NumSur.start {n : Nat} (hn : 0 < n) : NumSur ((List.replicate n (-1)).set 0 0) [0] := by
 intro j s hs
 cases j with
 | succ j => simp at hs
 | zero =>
  simp at hs; subst hs
  exact ⟨by omega, by simp [hn]⟩
theorem MY (V : List (List Ar)) (s : Nat) : AA (V.set s []) + (V.getD s []).length = AA V := by
 induction V generalizing s with
 | nil => simp [AA]
 | cons x r ih =>
  cases s with
  | zero => simp [AA]; omega
  | succ s =>
   have := ih s
   simp only [List.set_cons_succ, List.getD_cons_succ]
   simp only [AA, List.map_cons, List.sum_cons] at this ⊢
   omega
theorem Ih (l acc : List Ar) (h : SortA acc) : SortA (l.foldl (fun acc a => Db a acc) acc) := by
 induction l generalizing acc with
 | nil => exact h
 | cons a r ih => exact ih _ (FJ h)
structure RowsG (n : Nat) (out : List (List Ar)) : Prop where
 so : ∀ r ∈ out, SortA r
 bd : ∀ r ∈ out, ∀ a ∈ r, 0 <= a.1 /\ a.1 <= 1025 /\ 0 <= a.2 /\ a.2 < (n : Int)
theorem RowsG.le {n m : Nat} {out : List (List Ar)} (h : RowsG n out) (hm : n <= m) : RowsG m out := ⟨h.so, fun r hr a ha => by have := h.bd r hr a ha; omega⟩
theorem Ii {R : List (List Ar)} {B : Nat} (hb : ∀ r ∈ R, ∀ a ∈ r, 0 <= a.1 /\ a.1 <= 1025 /\ 0 <= a.2 /\ a.2 < (R.length : Int)) : ∀ (f i : Nat) (num old : List Int) (out V : List (List Ar)), NumOk R.length num old -> NumInj num old -> NumSur num old -> i = out.length -> i <= old.length -> R.length <= f + i ->
  RowsG old.length out -> V.length = R.length -> (∀ s, s < R.length -> (∀ j, j < i -> old[j]? ≠ some (s : Int)) -> V.getD s [] = R.getD s []) -> AA out + AA V <= B ->
  old.length <= (BE R f i num old out).1.length /\ (BE R f i num old out).1.length <= R.length /\ RowsG (BE R f i num old out).1.length (BE R f i num old out).1 /\ AA (BE R f i num old out).1 <= B := by
 intro f
 induction f with
 | zero =>
  intro i num old out V hN hI hS hi ho hf hG hVl hV ht
  have hle := hN.le
  simp only [BE]
  exact ⟨by omega, by omega, hG.le (by omega), by omega⟩
 | succ f ih =>
  intro i num old out V hN hI hS hi ho hf hG hVl hV ht
  have hle := hN.le
  unfold BE
  split
  ·rename_i hs
   have := List.getElem?_eq_none_iff.1 hs
   exact ⟨by simp only; omega, by simp only; omega, hG.le (by simp only; omega), by simp only; omega⟩
  rename_i s hs
  have hs0 := hN.st s (gE9 hs)
  have hsl : s.toNat < R.length := by omega
  have hil := (List.getElem?_eq_some_iff.1 hs).1
  have hg : R.getD s.toNat [] = R[s.toNat] := by rw [gE2, gE1 hsl]; rfl
  have hrm := gE6 hsl
  have hVs : V.getD s.toNat [] = R.getD s.toNat [] := hV s.toNat hsl fun j hj he => by
   have e : ((s.toNat : Nat) : Int) = s := by omega
   rw [e] at he
   have q1 := (hS j s he).2
   have q2 := (hS i s hs).2
   rw [q1] at q2
   injection q2 with q2
   omega
  have hts := MY V s.toNat
  rw [hVs, hg] at hts
  rw [hg]
  have hq : ∀ a ∈ Bj R[s.toNat], 0 <= a.2 /\ a.2 < (num.length : Int) := fun a ha => by
   have := hb _ hrm a ((B0 _ a).1 ha); rw [hN.len]; omega
  have hqe : ∀ a ∈ Bj R[s.toNat], 0 <= a.1 /\ a.1 <= 1025 := fun a ha => by
   have := hb _ hrm a ((B0 _ a).1 ha); omega
  have hl3 := FN R[s.toNat]
  generalize Bj R[s.toNat] = q at *
  have hN2 := NumOk.go q [] hN (by rw [<- hN.len]; exact hq)
  have hn2 := EA q num old []
  rw [hn2] at hN2 ⊢
  simp only at hN2 ⊢
  have hI2 := Fe q hq hI
  have hS2 := Kj q hq hS
  obtain ⟨hm1, hm2⟩ := GZ (old := old) q hq
  have hgr := Ig q num old
  have hold : ∀ (j : Nat) (x : Int), old[j]? = some x -> (Ck q num old).2.1[j]? = some x := fun j x h => Hp q h
  have hrow : SortA ((Ck q num old).2.2.foldl (fun acc a => Db a acc) []) := Ih _ _ List.Pairwise.nil
  have hrl := Eg (Ck q num old).2.2 []
  have hrb : ∀ a ∈ (Ck q num old).2.2.foldl (fun acc a => Db a acc) [], 0 <= a.1 /\ a.1 <= 1025 /\ 0 <= a.2 /\ a.2 < ((Ck q num old).2.1.length : Int) := fun a ha => by
   rw [Ef] at ha
   rcases ha with ha | ha
   ·simp at ha
   rw [hm1] at ha
   obtain ⟨b, hb1, rfl⟩ := List.mem_map.1 ha
   obtain ⟨x, hx, hp⟩ := hm2 b hb1
   have h1 := hqe b hb1
   have h2 := (List.getElem?_eq_some_iff.1 (hI2.inj _ _ hx hp)).1
   simp only [gE2, hx, Option.getD_some]
   omega
  rw [hm1, List.length_map] at hrl
  simp only [List.length_nil, Nat.zero_add] at hrl
  rw [<- hm1] at hrl
  generalize (Ck q num old).2.2.foldl (fun acc a => Db a acc) [] = nr at *
  generalize (Ck q num old).1 = num2 at *
  generalize (Ck q num old).2.1 = old2 at *
  obtain ⟨k1, k2, k3, k4⟩ := ih (i + 1) num2 old2 (out ++ [nr]) (V.set s.toNat []) hN2 hI2 hS2 (by simp; omega) (by omega) (by omega) ⟨fun r hr => by
   rcases List.mem_append.1 hr with h | h
   ·exact hG.so r h
   ·simp at h; subst h; exact hrow, fun r hr a ha => by
   rcases List.mem_append.1 hr with h | h
   ·have := hG.bd r h a ha; omega
   ·simp at h; subst h; exact hrb a ha⟩ (by simp [hVl]) (fun t htl hto => by
   have hne : s.toNat ≠ t := fun e => hto i (by omega) (by rw [hold i s hs]; congr 1; omega)
   rw [gE2, gE5 hne, <- gE2]
   exact hV t htl fun j hj he => hto j (by omega) (hold j _ he)) (by rw [HZ]; omega)
  exact ⟨by omega, k2, k3, k4⟩
theorem L6 {R : List (List Ar)} (h : Bd R = true) : AR (AG R).1 = true := by
 have hp : S9 R := gE4 h
 have h1 := hp.1
 obtain ⟨k1, k2, k3, k4⟩ := Ii (B := AA R) hp.2.2.2 R.length 0 _ _ [] R (NumOk.start h1) (NumInj.start h1) (NumSur.start h1) rfl (by simp) (by omega) ⟨by simp, by simp⟩ rfl (fun _ _ _ => rfl) (by simp [AA])
 have h2 := hp.2.1
 have h3 := hp.2.2.1
 simp only [List.length_singleton] at k1
 exact gEg ⟨⟨k1, Nat.le_trans k2 h2, Nat.le_trans k4 h3, k3.bd⟩, k3.so⟩
def WH (m c : Int) : Int := if m < c + 1 then c + 1 else m
def WI (m : Int) (l : List Int) : Int := l.foldl WH m
def Hr : List Int -> Int -> Bool
 | [], _ => true
 | c :: r, m => (!decide (c < 0) && !decide (c > m)) && Hr r (WH m c)
def Ij (C : List Int) (n : Nat) : Bool := Hr C 0 && decide (C.length = n)
theorem Hq (m : Int) (l : List Int) (c : Int) : WI m (l ++ [c]) = WH (WI m l) c := by unfold WI; rw [List.foldl_append]; rfl
theorem SG (l : List Int) : ∀ m : Int, m <= WI m l /\ ∀ c ∈ l, c + 1 <= WI m l := by
 induction l with
 | nil => intro m; exact ⟨Int.le_refl _, by simp⟩
 | cons a r ih =>
  intro m
  obtain ⟨h1, h2⟩ := ih (WH m a)
  have e : WI m (a :: r) = WI (WH m a) r := rfl
  have h3 : m <= WH m a /\ a + 1 <= WH m a := by unfold WH; split <;> omega
  rw [e]
  refine ⟨by omega, fun c hc => ?_⟩
  rcases List.mem_cons.1 hc with rfl | hc
  ·omega
  exact h2 c hc
theorem SH {n : Nat} (l : List Int) : ∀ m : Int, Hr l m = true -> 0 <= m -> WI m l <= m + l.length /\ (∀ c ∈ l, 0 <= c) := by
 induction l with
 | nil => intro m _ _; exact ⟨by simp [WI], by simp⟩
 | cons a r ih =>
  intro m h hm
  simp only [Hr, Bool.and_eq_true, Bool.not_eq_true', decide_eq_false_iff_not] at h
  obtain ⟨⟨h1, h2⟩, h3⟩ := h
  have h4 : 0 <= WH m a /\ WH m a <= m + 1 := by unfold WH; split <;> omega
  obtain ⟨q1, q2⟩ := ih (WH m a) h3 h4.1
  have e : WI m (a :: r) = WI (WH m a) r := rfl
  rw [e]
  refine ⟨by simp only [List.length_cons]; omega, fun c hc => ?_⟩
  rcases List.mem_cons.1 hc with rfl | hc
  ·omega
  exact q2 c hc
def Is (x : Int) (l : List Int) : Int := l.foldl (fun a b => if a < b then b else a) x
theorem MZ (x : Int) (l : List Int) (y : Int) : Is x (l ++ [y]) = if Is x l < y then y else Is x l := by unfold Is; rw [List.foldl_append]; rfl
theorem Rp (l : List Int) : ∀ x : Int, WI (x + 1) l = Is x l + 1 := by
 induction l with
 | nil => intro x; rfl
 | cons a r ih =>
  intro x
  have e : WH (x + 1) a = (if x < a then a else x) + 1 := by unfold WH; split <;> split <;> omega
  show WI (WH (x + 1) a) r = Is (if x < a then a else x) r + 1
  rw [e, ih]
theorem P4 {x : Int} (l : List Int) (h : 0 <= x) : WI 0 (x :: l) = Is x (x :: l) + 1 := by
 have e1 : WH 0 x = x + 1 := by unfold WH; rw [if_pos (by omega)]
 have e2 : Is x (x :: l) = Is x l := by show Is (if x < x then x else x) l = _; simp
 rw [e2, <- Rp, <- e1]; rfl
def WJ (C : List Int) (v : Nat) : Nat := (C.getD v 0).toNat
def WK (C : List Int) : Nat := (WI 0 C).toNat
theorem EX {C : List Int} {n : Nat} (h : Ij C n = true) : C.length = n /\ WK C <= n /\ (∀ v, v < n -> WJ C v < WK C /\ C[v]? = some ((WJ C v : Nat) : Int)) /\ WI 0 C = (WK C : Int) := by
 simp only [Ij, Bool.and_eq_true, decide_eq_true_eq] at h
 obtain ⟨h1, h2⟩ := h
 obtain ⟨q1, q2⟩ := SH (n := n) C 0 h1 (Int.le_refl _)
 obtain ⟨p1, p2⟩ := SG C 0
 refine ⟨h2, by unfold WK; omega, fun v hv => ?_, by unfold WK; omega⟩
 have hl : v < C.length := by omega
 have a1 := q2 _ (gE6 hl)
 have a2 := p2 _ (gE6 hl)
 unfold WJ WK
 rw [gE2, gE1 hl, Option.getD_some]
 refine ⟨by omega, by congr 1; omega⟩
def WL (f : Nat -> Nat) (c : Nat) (a : Ar) : Option Ar := if a.1 ≠ 0 \/ f a.2.toNat ≠ c then some (a.1, (f a.2.toNat : Int)) else none
def Ct (x : Option Ar) (c : Nat) (o : List (List Ar)) : List (List Ar) := match x with | some b => o.set c (o.getD c [] ++ [b]) | none => o
def CS (f : Nat -> Nat) (c : Nat) (o : List (List Ar)) (row : List Ar) : List (List Ar) := row.foldl (fun o a => Ct (WL f c a) c o) o
def BO (f : Nat -> Nat) (m : Nat) (R : List (List Ar)) : Nat -> List (List Ar)
 | 0 => List.replicate m []
 | k + 1 => CS f (f k) (BO f m R k) (R.getD k [])
def WM (b : Bool) (c : Nat) : Option Ar := if b then some (0, (c : Int)) else none
def WN (f : Nat -> Nat) (m : Nat) (B : List Bool) (k : Nat) : List Bool := (List.range m).map fun c => (List.range k).any fun s => decide (f s = c) && B.getD s false
def Dn (L : List Bool) (o : List (List Ar)) : Nat -> List (List Ar)
 | 0 => o
 | c + 1 => Ct (WM (L.getD c false) c) c (Dn L o c)
def qR (R : List (List Ar)) (C : List Int) (B : List Bool) : List (List Ar) := Dn (WN (WJ C) (WK C) B R.length) (BO (WJ C) (WK C) R R.length) (WK C)
theorem G8 (x : Option Ar) (c : Nat) (o : List (List Ar)) : (Ct x c o).length = o.length := by cases x <;> simp [Ct]
theorem G9 (f : Nat -> Nat) (c : Nat) (row : List Ar) : ∀ o, (CS f c o row).length = o.length := by
 induction row with
 | nil => intro o; rfl
 | cons a r ih => intro o; show (CS f c (Ct (WL f c a) c o) r).length = _; rw [ih, G8]
theorem CT (f : Nat -> Nat) (m : Nat) (R : List (List Ar)) (k : Nat) : (BO f m R k).length = m := by
 induction k with
 | zero => simp [BO]
 | succ k ih => rw [BO, G9, ih]
theorem Ga (L : List Bool) (o : List (List Ar)) (k : Nat) : (Dn L o k).length = o.length := by
 induction k with
 | zero => rfl
 | succ k ih => rw [Dn, G8, ih]
theorem GG (f : Nat -> Nat) (c : Nat) (o : List (List Ar)) (row : List Ar) (a : Ar) : CS f c o (row ++ [a]) = Ct (WL f c a) c (CS f c o row) := by unfold CS; rw [List.foldl_append]; rfl
theorem Ik {x : Option Ar} {c d : Nat} {o : List (List Ar)} {a : Ar} (h : c < o.length) : a ∈ (Ct x c o).getD d [] ↔ a ∈ o.getD d [] \/ (d = c /\ x = some a) := by
 cases x with
 | none => simp [Ct]
 | some b =>
  unfold Ct
  simp only
  rw [gE2]
  by_cases e : c = d
  rotate_left
  ·rw [gE5 e, <- gE2]
   simp [Ne.symm e]
  subst e
  rw [gEc h, Option.getD_some, List.mem_append]
  simp [eq_comm]
theorem N0 {f : Nat -> Nat} {c d : Nat} {a : Ar} : ∀ (row : List Ar) (o : List (List Ar)), c < o.length -> (a ∈ (CS f c o row).getD d [] ↔ a ∈ o.getD d [] \/ (d = c /\ ∃ b ∈ row, WL f c b = some a)) := by
 intro row
 induction row with
 | nil => intro o _; simp [CS]
 | cons b r ih =>
  intro o h
  show a ∈ (CS f c (Ct (WL f c b) c o) r).getD d [] ↔ _
  rw [ih _ (by rw [G8]; exact h), Ik h]
  simp only [List.mem_cons, exists_eq_or_imp]
  rw [or_assoc, <- and_or_left]
def QA (R : List (List Ar)) (f : Nat -> Nat) (k d : Nat) (a : Ar) : Prop := ∃ s, s < k /\ f s = d /\ ∃ b ∈ R.getD s [], WL f d b = some a
def QL (f : Nat -> Nat) (B : List Bool) (k d : Nat) (a : Ar) : Prop := a = (0, (d : Int)) /\ ∃ s, s < k /\ f s = d /\ B.getD s false = true
theorem QA.succ {R : List (List Ar)} {f : Nat -> Nat} {k d : Nat} {a : Ar} : QA R f (k + 1) d a ↔ QA R f k d a \/ (d = f k /\ ∃ b ∈ R.getD k [], WL f (f k) b = some a) := by
 constructor
 rotate_left
 ·rintro (⟨s, h1, h2, h3⟩ | ⟨rfl, h3⟩)
  ·exact ⟨s, by omega, h2, h3⟩
  exact ⟨k, by omega, rfl, h3⟩
 rintro ⟨s, h1, h2, h3⟩
 by_cases e : s = k
 ·subst e; subst h2; exact .inr ⟨rfl, h3⟩
 exact .inl ⟨s, by omega, h2, h3⟩
theorem QL.succ {f : Nat -> Nat} {B : List Bool} {k d : Nat} {a : Ar} : QL f B (k + 1) d a ↔ QL f B k d a \/ (d = f k /\ WM (B.getD k false) (f k) = some a) := by
 unfold QL WM
 constructor
 ·rintro ⟨h0, s, h1, h2, h3⟩
  by_cases e : s = k
  ·subst e; subst h2; exact .inr ⟨rfl, by rw [if_pos h3, h0]⟩
  exact .inl ⟨h0, s, by omega, h2, h3⟩
 rintro (⟨h0, s, h1, h2, h3⟩ | ⟨rfl, h3⟩)
 ·exact ⟨h0, s, by omega, h2, h3⟩
 split at h3
 rotate_left
 ·cases h3
 rename_i hb
 injection h3 with h3
 exact ⟨h3.symm, k, by omega, rfl, hb⟩
theorem P5 {m d : Nat} : (List.replicate m ([] : List Ar)).getD d [] = [] := by
 rw [gE2, List.getElem?_replicate]; split <;> rfl
theorem N1 {f : Nat -> Nat} {m d : Nat} {R : List (List Ar)} {a : Ar} {n : Nat} (hf : ∀ v, v < n -> f v < m) : ∀ k, k <= n -> (a ∈ (BO f m R k).getD d [] ↔ QA R f k d a) := by
 intro k
 induction k with
 | zero => intro _; rw [BO, P5]; simp [QA]
 | succ k ih =>
  intro hk
  rw [BO, N0 _ _ (by rw [CT]; exact hf k hk), ih (by omega), QA.succ]
theorem N2 {L : List Bool} {d : Nat} {o : List (List Ar)} {a : Ar} : ∀ k, k <= o.length -> (a ∈ (Dn L o k).getD d [] ↔ a ∈ o.getD d [] \/ (d < k /\ L.getD d false = true /\ a = (0, (d : Int)))) := by
 intro k
 induction k with
 | zero => intro _; simp [Dn]
 | succ k ih =>
  intro hk
  rw [Dn, Ik (by rw [Ga]; exact hk), ih (by omega)]
  unfold WM
  constructor
  rotate_left
  ·rintro (h | ⟨h1, h2, h3⟩)
   ·exact .inl (.inl h)
   by_cases e : d = k
   ·subst e; exact .inr ⟨rfl, by rw [if_pos h2, h3]⟩
   exact .inl (.inr ⟨by omega, h2, h3⟩)
  rintro ((h | ⟨h1, h2, h3⟩) | ⟨rfl, h2⟩)
  ·exact .inl h
  ·exact .inr ⟨by omega, h2, h3⟩
  split at h2
  ·rename_i hb; injection h2 with h2; exact .inr ⟨by omega, hb, h2.symm⟩
  cases h2
theorem EM (f : Nat -> Nat) (m : Nat) (B : List Bool) (k : Nat) : (WN f m B k).length = m := by simp [WN]
theorem Jd {f : Nat -> Nat} {m : Nat} {B : List Bool} {k d : Nat} (hd : d < m) : (WN f m B k).getD d false = (List.range k).any fun s => decide (f s = d) && B.getD s false := by
 simp [WN, gE2, hd]
theorem Rq {f : Nat -> Nat} {m : Nat} {B : List Bool} {k : Nat} (hf : f k < m) : (WN f m B k).set (f k) ((WN f m B k).getD (f k) false || B.getD k false) = WN f m B (k + 1) := by
 have hl := EM f m B k
 refine List.ext_getElem (by simp [WN]) fun i h1 h2 => ?_
 rw [EM] at h2
 have e2 : (WN f m B (k + 1))[i]'(by rw [EM]; exact h2) = ((List.range (k + 1)).any fun s => decide (f s = i) && B.getD s false) := by simp [WN]
 rw [e2, List.range_succ, List.any_append]
 by_cases e : f k = i
 ·subst e
  rw [List.getElem_set_self, Jd hf]
  simp
 rw [List.getElem_set_ne e]
 have e3 : (WN f m B k)[i]'(by rw [EM]; exact h2) = ((List.range k).any fun s => decide (f s = i) && B.getD s false) := by simp [WN]
 rw [e3]
 simp [e]
theorem Kk {R : List (List Ar)} {C : List Int} {B : List Bool} (h : Ij C R.length = true) {d : Nat} {a : Ar} : a ∈ (qR R C B).getD d [] ↔ QA R (WJ C) R.length d a \/ QL (WJ C) B R.length d a := by
 obtain ⟨h1, h2, h3, _⟩ := EX h
 have hf : ∀ v, v < R.length -> WJ C v < WK C := fun v hv => (h3 v hv).1
 unfold qR
 rw [N2 _ (by rw [CT]; exact Nat.le_refl _), N1 hf _ (Nat.le_refl _)]
 refine or_congr Iff.rfl ?_
 unfold QL
 constructor
 ·rintro ⟨g1, g2, g3⟩
  rw [Jd g1, List.any_eq_true] at g2
  obtain ⟨s, hs, hb⟩ := g2
  simp only [Bool.and_eq_true, decide_eq_true_eq] at hb
  exact ⟨g3, s, List.mem_range.1 hs, hb.1, hb.2⟩
 rintro ⟨g3, s, hs, rfl, hb⟩
 refine ⟨hf s hs, ?_, g3⟩
 rw [Jd (hf s hs), List.any_eq_true]
 exact ⟨s, List.mem_range.2 hs, by simp only [Bool.and_eq_true, decide_eq_true_eq]; exact ⟨trivial, hb⟩⟩
theorem Il (x : Option Ar) (c : Nat) (o : List (List Ar)) : AA (Ct x c o) <= AA o + 1 := by
 cases x with
 | none => simp [Ct]
 | some b =>
  unfold Ct
  by_cases h : c < o.length
  ·simp only; rw [Of o h]; exact Nat.le_refl _
  simp only; rw [List.set_eq_of_length_le (by omega)]; omega
theorem Gb (f : Nat -> Nat) (c : Nat) (row : List Ar) : ∀ o, AA (CS f c o row) <= AA o + row.length := by
 induction row with
 | nil => intro o; exact Nat.le_refl _
 | cons a r ih =>
  intro o
  have h1 := ih (Ct (WL f c a) c o)
  have h2 := Il (WL f c a) c o
  show AA (CS f c (Ct (WL f c a) c o) r) <= _
  simp only [List.length_cons]; omega
theorem Gc (f : Nat -> Nat) (m : Nat) (R : List (List Ar)) : ∀ k, k <= R.length -> AA (BO f m R k) <= AA (R.take k) := by
 intro k
 induction k with
 | zero => intro _; rw [BO, Og]; omega
 | succ k ih =>
  intro hk
  have h1 := ih (by omega)
  have h2 := Cb (R := R) (k := k) hk
  have h3 := Gb f (f k) (R.getD k []) (BO f m R k)
  have h4 : R.getD k [] = R[k] := by rw [gE2, gE1 hk]; rfl
  rw [BO]
  rw [h4] at h3 ⊢
  omega
theorem Im (L : List Bool) (o : List (List Ar)) : ∀ k, AA (Dn L o k) <= AA o + k := by
 intro k
 induction k with
 | zero => exact Nat.le_refl _
 | succ k ih =>
  have := Il (WM (L.getD k false) k) k (Dn L o k)
  rw [Dn]; omega
theorem QA.bd {R : List (List Ar)} {f : Nat -> Nat} {m k d : Nat} {a : Ar} (hlo : Bd R = true) (hk : k <= R.length) (hf : ∀ v, v < R.length -> f v < m) (h : QA R f k d a) : 0 <= a.1 /\ a.1 <= 1025 /\ 0 <= a.2 /\ a.2 < (m : Int) := by
 obtain ⟨s, h1, h2, b, hb, h3⟩ := h
 have hs : s < R.length := by omega
 rw [gE2, gE1 hs] at hb
 have hbd := (gE4 hlo).2.2.2 _ (gE6 hs) b hb
 unfold WL at h3
 split at h3
 rotate_left
 ·cases h3
 injection h3 with h3
 subst h3
 have := hf b.2.toNat (by omega)
 simp only; omega
theorem P6 {R : List (List Ar)} {C : List Int} {B : List Bool} (hlo : Bd R = true) (h : Ij C R.length = true) : (qR R C B).length = WK C /\ (∀ r ∈ qR R C B, ∀ a ∈ r, 0 <= a.1 /\ a.1 <= 1025 /\ 0 <= a.2 /\ a.2 < ((qR R C B).length : Int)) /\ AA (qR R C B) <= AA R + R.length := by
 obtain ⟨h1, h2, h3, _⟩ := EX h
 have hf : ∀ v, v < R.length -> WJ C v < WK C := fun v hv => (h3 v hv).1
 have hl : (qR R C B).length = WK C := by unfold qR; rw [Ga, CT]
 refine ⟨hl, fun r hr a ha => ?_, ?_⟩
 rotate_left
 ·have a1 := Im (WN (WJ C) (WK C) B R.length) (BO (WJ C) (WK C) R R.length) (WK C)
  have a2 := Gc (WJ C) (WK C) R R.length (Nat.le_refl _)
  rw [List.take_length] at a2
  unfold qR
  omega
 obtain ⟨d, hd, rfl⟩ := List.getElem_of_mem hr
 have hd2 : d < WK C := by omega
 have ha2 : a ∈ (qR R C B).getD d [] := by rw [gE2, gE1 hd]; exact ha
 rw [hl]
 rcases (Kk h).1 ha2 with q | ⟨q, _⟩
 ·exact q.bd hlo (Nat.le_refl _) hf
 subst q; simp only; omega
def RowN (R : List (List Ar)) (num : List Int) (s : Int) (r : List Ar) : Prop :=
 r = Bj ((Bj (R.getD s.toNat [])).map fun a => (a.1, num.getD a.2.toNat 0)) /\ ∀ a ∈ R.getD s.toNat [], ∃ x, num[a.2.toNat]? = some x /\ 0 <= x
theorem RowN.keep {R : List (List Ar)} {num num2 : List Int} {s : Int} {r : List Ar} (h : RowN R num s r) (hk : ∀ (t : Nat) (x : Int), num[t]? = some x -> 0 <= x -> num2[t]? = some x) : RowN R num2 s r := by
 obtain ⟨h1, h2⟩ := h
 refine ⟨?_, fun a ha => ?_⟩
 rotate_left
 ·obtain ⟨x, hx, hp⟩ := h2 a ha
  exact ⟨x, hk _ x hx hp, hp⟩
 rw [h1]
 congr 1
 refine List.map_congr_left fun a ha => ?_
 obtain ⟨x, hx, hp⟩ := h2 a ((B0 _ a).1 ha)
 rw [gE2, gE2, hx, hk _ x hx hp]
theorem N3 {R : List (List Ar)} (hb : ∀ r ∈ R, ∀ a ∈ r, 0 <= a.2 /\ a.2 < (R.length : Int)) : ∀ (f i : Nat) (num old : List Int) (out : List (List Ar)), NumOk R.length num old -> NumInj num old -> NumSur num old -> i = out.length -> i <= old.length -> R.length <= f + i ->
  (∀ (j : Nat) (s : Int) (r : List Ar), old[j]? = some s -> out[j]? = some r -> RowN R num s r) ->
  ∃ num', NumOk R.length num' (BE R f i num old out).2 /\ NumInj num' (BE R f i num old out).2 /\ NumSur num' (BE R f i num old out).2 /\ (BE R f i num old out).1.length = (BE R f i num old out).2.length /\ (∀ (j : Nat) (s : Int), old[j]? = some s -> (BE R f i num old out).2[j]? = some s) /\
   ∀ (j : Nat) (s : Int) (r : List Ar), (BE R f i num old out).2[j]? = some s -> (BE R f i num old out).1[j]? = some r -> RowN R num' s r := by
 intro f
 induction f with
 | zero =>
  intro i num old out hN hI hS hi ho hf hR
  have hle := hN.le
  exact ⟨num, hN, hI, hS, by simp only [BE]; omega, fun _ _ h => h, hR⟩
 | succ f ih =>
  intro i num old out hN hI hS hi ho hf hR
  have hle := hN.le
  unfold BE
  split
  ·rename_i hs
   have := List.getElem?_eq_none_iff.1 hs
   exact ⟨num, hN, hI, hS, by simp only; omega, fun _ _ h => h, hR⟩
  rename_i s hs
  have hs0 := hN.st s (gE9 hs)
  have hsl : s.toNat < R.length := by omega
  have hil := (List.getElem?_eq_some_iff.1 hs).1
  have hg : R.getD s.toNat [] = R[s.toNat] := by rw [gE2, gE1 hsl]; rfl
  have hrm := gE6 hsl
  have hq : ∀ a ∈ Bj (R.getD s.toNat []), 0 <= a.2 /\ a.2 < (num.length : Int) := fun a ha => by
   rw [hg] at ha
   have := hb _ hrm a ((B0 _ a).1 ha); rw [hN.len]; omega
  have hN2 := NumOk.go (Bj (R.getD s.toNat [])) [] hN (by rw [<- hN.len]; exact hq)
  have hn2 := EA (Bj (R.getD s.toNat [])) num old []
  rw [hn2] at hN2 ⊢
  simp only at hN2 ⊢
  have hI2 := Fe _ hq hI
  have hS2 := Kj _ hq hS
  obtain ⟨hm1, hm2⟩ := GZ (old := old) _ hq
  have hgr := Ig (Bj (R.getD s.toNat [])) num old
  have hkp : ∀ (t : Nat) (x : Int), num[t]? = some x -> 0 <= x -> (Ck (Bj (R.getD s.toNat [])) num old).1[t]? = some x := fun t x h1 h2 => I0 _ (fun a ha => (hq a ha).1) h1 h2
  have hold : ∀ (j : Nat) (x : Int), old[j]? = some x -> (Ck (Bj (R.getD s.toNat [])) num old).2.1[j]? = some x := fun j x h => Hp _ h
  have hnew : RowN R (Ck (Bj (R.getD s.toNat [])) num old).1 s ((Ck (Bj (R.getD s.toNat [])) num old).2.2.foldl (fun acc a => Db a acc) []) := by
   refine ⟨?_, fun a ha => hm2 a ((B0 _ a).2 ha)⟩
   rw [hm1]; rfl
  obtain ⟨num', k1, k2, k3, k4, k5, k6⟩ := ih (i + 1) _ _ (out ++ [(Ck (Bj (R.getD s.toNat [])) num old).2.2.foldl (fun acc a => Db a acc) []]) hN2 hI2 hS2 (by simp; omega) (by omega) (by omega) (fun j t r hj hr => by
   rcases Nat.lt_or_ge j out.length with hlt | hge
   ·rw [gEa hlt] at hr
    have hj2 : old[j]? = some t := by
     have h3 := hold j old[j] (gE1 (by omega))
     rw [hj] at h3
     rw [gE1 (by omega), <- h3]
    exact (hR j t r hj2 hr).keep hkp
   ·have hje : j = i := by
     have := (List.getElem?_eq_some_iff.1 hr).1
     simp at this; omega
    subst hje
    rw [gEb hge, hi, Nat.sub_self] at hr
    simp at hr
    rw [hold j s hs] at hj
    injection hj with hj
    subst hj; subst hr
    exact hnew)
  exact ⟨num', k1, k2, k3, k4, fun j x h => k5 j x (hold j x h), k6⟩
theorem L7 {R : List (List Ar)} (h1 : 1 <= R.length) (hb : ∀ r ∈ R, ∀ a ∈ r, 0 <= a.2 /\ a.2 < (R.length : Int)) : ∃ num, NumOk R.length num (AG R).2 /\ NumInj num (AG R).2 /\ NumSur num (AG R).2 /\ (AG R).1.length = (AG R).2.length /\ (AG R).2[0]? = some 0 /\ ∀ (j : Nat) (s : Int) (r : List Ar), (AG R).2[j]? = some s -> (AG R).1[j]? = some r -> RowN R num s r := by
 obtain ⟨num, k1, k2, k3, k4, k5, k6⟩ := N3 hb R.length 0 _ _ [] (NumOk.start h1) (NumInj.start h1) (NumSur.start h1) rfl (by simp) (by omega) (fun j s r _ h => by simp at h)
 exact ⟨num, k1, k2, k3, k4, k5 0 0 rfl, k6⟩
def MtK {α : Type} (A : List (List Ar)) (kA : Nat -> α) (B : List (List Ar)) (kB : Nat -> α) : Prop :=
 ∀ s t, s < A.length -> t < B.length -> kA s = kB t -> (Dv A s -> Dv B t) /\ ∀ a ∈ (CU A).getD s [], ∃ b ∈ (CU B).getD t [], b.1 = a.1 /\ kB b.2.toNat = kA a.2.toNat
theorem Kl {R : List (List Ar)} (hv : AR R = true) (hn : R.length <= 100) {s : Nat} (hs : s < R.length) {a : Ar} (h : a ∈ (CU R).getD s []) : 0 <= a.2 /\ a.2.toNat < R.length := by
 have hb := IW hv hn
 have hm : (CU R).getD s [] ∈ CU R := by
  rw [gE2, gE1 (by omega), Option.getD_some]
  exact gE6 _
 have := (hb.2 _ hm).2 a h
 omega
theorem PP {α : Type} {R : List (List Ar)} {k : Nat -> α} (hv : AR R = true) (hn : R.length <= 100) (hk : MtK R k R k) {c : List Int} (ih : ∀ s t, s < R.length -> t < R.length -> k s = k t -> c.getD s 0 = c.getD t 0) {s t : Nat} (hs : s < R.length) (ht : t < R.length) (h : k s = k t) : Py c ((CU R).getD s []) ((CU R).getD t []) = true := by
 unfold Py
 refine List.all_eq_true.2 fun a ha => ?_
 obtain ⟨b, hb, e1, e2⟩ := (hk s t hs ht h).2 a ha
 unfold T3
 refine List.any_eq_true.2 ⟨b, hb, ?_⟩
 rw [e1, ih _ _ (Kl hv hn ht hb).2 (Kl hv hn hs ha).2 e2]
 simp
theorem MtK.le {α : Type} {R : List (List Ar)} {k : Nat -> α} (hv : AR R = true) (hn : R.length <= 100) (hk : MtK R k R k) {c : List Int} (hc : DlC R c) {s t : Nat} (hs : s < R.length) (ht : t < R.length) (h : k s = k t) : c.getD s 0 = c.getD t 0 := by
 obtain ⟨B, hB, i, hi, -⟩ := hc
 have hb := IW hv hn
 subst hi
 induction i generalizing s t with
 | zero =>
  show (VP B R.length).getD s 0 = (VP B R.length).getD t 0
  rw [Cp hs, Cp ht]
  have e : B.getD s false = B.getD t false := by
   rw [Bool.eq_iff_iff, hB.2 s hs, hB.2 t ht]
   exact ⟨(hk s t hs ht h).1, (hk t s ht hs h.symm).1⟩
  unfold VO
  rw [e]
 | succ i ih =>
  have ih2 := fun s t hs ht h => ih (s := s) (t := t) hs ht h
  have e := (BX (Vh (CU R) (Vj (CU R) (VP B R.length) i)) (CU R).length).eq s t (by omega) (by omega)
  refine e.2 ?_
  unfold Vh
  rw [ih hs ht h, H2.2 ⟨PP hv hn hk ih2 hs ht h, PP hv hn hk ih2 ht hs h.symm⟩]
theorem DlC.key {R : List (List Ar)} (hv : AR R = true) (hn : R.length <= 100) {c : List Int} (hc : DlC R c) : MtK R (fun s => c.getD s 0) R (fun s => c.getD s 0) := by
 obtain ⟨B, hB, i, hi, hf⟩ := hc
 have hb := IW hv hn
 intro s t hs ht h
 simp only at h ⊢
 have e := (BX (Vh (CU R) c) (CU R).length).eq s t (by omega) (by omega)
 have e0 : (Vf (Vh (CU R) c) (CU R).length).1 = c := hf
 rw [e0] at e
 have e2 := congrArg Prod.snd (e.1 h)
 obtain ⟨c1, -⟩ := H2.1 e2
 refine ⟨fun hd => ?_, fun a ha => ?_⟩
 rotate_left
 ·obtain ⟨b, hb2, hq⟩ := List.any_eq_true.1 (List.all_eq_true.1 c1 a ha)
  simp only [Bool.and_eq_true, beq_iff_eq] at hq
  exact ⟨b, hb2, hq.1, hq.2⟩
 have hdv : ∀ j, (Vj (CU R) (VP B R.length) j).getD s 0 = (Vj (CU R) (VP B R.length) j).getD t 0 -> (VP B R.length).getD s 0 = (VP B R.length).getD t 0 := by
  intro j
  induction j with
  | zero => exact id
  | succ j ih => intro q; exact ih (congrArg Prod.fst (((BX (Vh (CU R) (Vj (CU R) (VP B R.length) j)) (CU R).length).eq s t (by omega) (by omega)).1 q))
 have q := hdv i (by rw [<- hi]; exact h)
 rw [Cp hs, Cp ht] at q
 refine (hB.2 t ht).1 ?_
 have h2 := (hB.2 s hs).2 hd
 unfold VO at q
 rw [h2] at q
 generalize B.getD 0 false = x0 at q
 generalize B.getD t false = x1 at q ⊢
 revert q
 cases x0 <;> cases x1 <;> decide
/-! Side by side. -/
def Vw {α : Type} (Z : List (List Ar)) (k : Nat -> α) (s : Nat) (X : List (List Ar)) (kX : Nat -> α) (s' : Nat) : Prop :=
 s' < X.length /\ k s = kX s' /\ (Dv Z s ↔ Dv X s') /\ (∀ a ∈ (CU Z).getD s [], ∃ b ∈ (CU X).getD s' [], b.1 = a.1 /\ kX b.2.toNat = k a.2.toNat) /\ ∀ b ∈ (CU X).getD s' [], ∃ a ∈ (CU Z).getD s [], a.1 = b.1 /\ k a.2.toNat = kX b.2.toNat
theorem Vw.mt {α : Type} {Z X Y : List (List Ar)} {k kX kY : Nat -> α} {s t s' t' : Nat} (h1 : Vw Z k s X kX s') (h2 : Vw Z k t Y kY t') (hm : MtK X kX Y kY) (h : k s = k t) : (Dv Z s -> Dv Z t) /\ ∀ a ∈ (CU Z).getD s [], ∃ b ∈ (CU Z).getD t [], b.1 = a.1 /\ k b.2.toNat = k a.2.toNat := by
 obtain ⟨a1, a2, a3, a4, a5⟩ := h1
 obtain ⟨b1, b2, b3, b4, b5⟩ := h2
 obtain ⟨m1, m2⟩ := hm s' t' a1 b1 (by rw [<- a2, <- b2, h])
 refine ⟨fun d => b3.2 (m1 (a3.1 d)), fun a ha => ?_⟩
 obtain ⟨x, hx, e1, e2⟩ := a4 a ha
 obtain ⟨y, hy, e3, e4⟩ := m2 x hx
 obtain ⟨z, hz, e5, e6⟩ := b5 y hy
 exact ⟨z, hz, by rw [e5, e3, e1], by rw [e6, e4, e2]⟩
theorem PQ {A R : List (List Ar)} (hz : AR (BI A R) = true) (hA : AR A = true) {s : Nat} (hs : s < A.length) {a : Ar} : a ∈ (CU (BI A R)).getD s [] ↔ a ∈ (CU A).getD s [] := by
 have hlA : Bd A = true := gEg (gE4 hA).1
 have hE := Bv true hlA
 rw [Ci hz (by rw [Az]; omega), Ci hA hs]
 refine or_congr (and_congr_right fun _ => exists_congr fun u => and_congr_right fun _ => EI hE hs) (and_congr_right fun _ => exists_congr fun t => ?_)
 rw [EI hE hs]
 refine and_congr_right fun hr => ?_
 rw [Mn (hr.lt hs hE)]
theorem PR {A R : List (List Ar)} (hz : AR (BI A R) = true) (hR : AR R = true) {s : Nat} (hs : s < R.length) {a : Ar} : a ∈ (CU (BI A R)).getD (A.length + s) [] ↔ ∃ b ∈ (CU R).getD s [], a = (b.1, b.2 + (A.length : Int)) := by
 have hlo : Bd R = true := gEg (gE4 hR).1
 rw [Ci hz (by rw [Az]; omega)]
 constructor
 rotate_left
 ·rintro ⟨b, hb, rfl⟩
  rcases (Ci hR hs).1 hb with ⟨h0, u, hu, hr⟩ | ⟨h0, t, hr, ha⟩
  ·exact .inl ⟨h0, A.length + u, by simp only; omega, (Da hlo).2 ⟨u, rfl, hr⟩⟩
  exact .inr ⟨h0, A.length + t, (Da hlo).2 ⟨t, rfl, hr⟩, by rw [I9]; exact List.mem_map.2 ⟨b, ha, rfl⟩⟩
 rintro (⟨h0, u, hu, hr0⟩ | ⟨h0, t, hr0, ha⟩)
 rotate_left
 ·obtain ⟨v, rfl, hr⟩ := (Da hlo).1 hr0
  rw [I9] at ha
  obtain ⟨b, hb, rfl⟩ := List.mem_map.1 ha
  exact ⟨b, (Ci hR hs).2 (.inr ⟨h0, v, hr, hb⟩), rfl⟩
 obtain ⟨v, rfl, hr⟩ := (Da hlo).1 hr0
 exact ⟨(0, (v : Int)), (Ci hR hs).2 (.inl ⟨rfl, v, rfl, hr⟩), by obtain ⟨e, t⟩ := a; simp only at h0 hu ⊢; subst h0; subst hu; congr 1; omega⟩
def WO {α : Type} (n : Nat) (kA kR : Nat -> α) (s : Nat) : α := if s < n then kA s else kR (s - n)
theorem MtK.both {α : Type} {A R : List (List Ar)} {kA kR : Nat -> α} (hA : AR A = true) (hR : AR R = true) (hn : A.length + R.length <= 100) (hz : AR (BI A R) = true) (h1 : MtK A kA A kA) (h2 : MtK A kA R kR) (h3 : MtK R kR A kA) (h4 : MtK R kR R kR) : MtK (BI A R) (WO A.length kA kR) (BI A R) (WO A.length kA kR) := by
 have hlA : Bd A = true := gEg (gE4 hA).1
 have hlo : Bd R = true := gEg (gE4 hR).1
 have hE := Bv true hlA
 have v1 : ∀ s, s < A.length -> Vw (BI A R) (WO A.length kA kR) s A kA s := fun s hs => by
  have hk : ∀ a ∈ (CU A).getD s [], WO A.length kA kR a.2.toNat = kA a.2.toNat := fun a ha => if_pos (Kl hA (by omega) hs ha).2
  refine ⟨hs, if_pos hs, QC hE hs, fun a ha => ?_, fun b hb => ?_⟩
  rotate_left
  ·exact ⟨b, (PQ hz hA hs).2 hb, rfl, hk b hb⟩
  have ha := (PQ hz hA hs).1 ha
  exact ⟨a, ha, rfl, (hk a ha).symm⟩
 have v2 : ∀ s, s < R.length -> Vw (BI A R) (WO A.length kA kR) (A.length + s) R kR s := fun s hs => by
  have hk : ∀ a ∈ (CU R).getD s [], WO A.length kA kR (a.2 + (A.length : Int)).toNat = kR a.2.toNat := fun a ha => by
   have := Kl hR (by omega) hs ha
   unfold WO
   rw [if_neg (by omega)]
   congr 1; omega
  refine ⟨hs, by unfold WO; rw [if_neg (by omega)]; congr 1; omega, QD hlo, fun a ha => ?_, fun b hb => ?_⟩
  rotate_left
  ·exact ⟨_, (PR hz hR hs).2 ⟨b, hb, rfl⟩, rfl, hk b hb⟩
  obtain ⟨b, hb, rfl⟩ := (PR hz hR hs).1 ha
  exact ⟨b, hb, rfl, (hk b hb).symm⟩
 have hv : ∀ s, s < (BI A R).length -> s < A.length \/ ∃ s', s' < R.length /\ s = A.length + s' := fun s hs => by
  rw [Az] at hs
  by_cases e : s < A.length
  ·exact .inl e
  exact .inr ⟨s - A.length, by omega, by omega⟩
 intro s t hs ht h
 rcases hv s hs with hs2 | ⟨s, hs2, rfl⟩ <;> rcases hv t ht with ht2 | ⟨t, ht2, rfl⟩
 ·exact (v1 s hs2).mt (v1 t ht2) h1 h
 ·exact (v1 s hs2).mt (v2 t ht2) h2 h
 ·exact (v2 s hs2).mt (v1 t ht2) h3 h
 exact (v2 s hs2).mt (v2 t ht2) h4 h
/-! The quotient. -/
structure QuX (R X : List (List Ar)) (f kX : Nat -> Nat) : Prop where
 inj : ∀ i j, i < X.length -> j < X.length -> kX i = kX j -> i = j
 sur : ∀ j, j < X.length -> ∃ s, s < R.length /\ f s = kX j
 fw : ∀ s j, s < R.length -> j < X.length -> f s = kX j -> ∀ b ∈ R.getD s [], (b.1 ≠ 0 \/ f b.2.toNat ≠ f s) -> ∃ i : Nat, i < X.length /\ (b.1, (i : Int)) ∈ X.getD j [] /\ kX i = f b.2.toNat
 bw : ∀ j (a : Ar), j < X.length -> a ∈ X.getD j [] -> ∃ i : Nat, i < X.length /\ a.2 = (i : Int) /\ ((∃ s, s < R.length /\ f s = kX j /\ ∃ b ∈ R.getD s [], b.1 = a.1 /\ f b.2.toNat = kX i /\ (a.1 ≠ 0 \/ kX i ≠ kX j)) \/ (a.1 = 0 /\ i = j /\ ∃ s, s < R.length /\ f s = kX j /\ Dv R s))
 lp : ∀ s j, s < R.length -> j < X.length -> f s = kX j -> Dv R s -> (0, (j : Int)) ∈ X.getD j []
section
variable {R X : List (List Ar)} {f kX : Nat -> Nat}
theorem Rr (hv : AR R = true) {s : Nat} {b : Ar} (hb : b ∈ R.getD s []) : 0 <= b.2 /\ b.2.toNat < R.length := by
 have hlo := (gE4 hv).1
 have hs : s < R.length := by
  by_cases e : s < R.length
  ·exact e
  rw [gE2, List.getElem?_eq_none (by omega)] at hb
  simp at hb
 rw [gE2, gE1 hs, Option.getD_some] at hb
 have h := hlo.2.2.2 _ (gE6 hs) b hb
 omega
theorem QuX.path (h : QuX R X f kX) (hR : AR R = true) (hX : AR X = true) {s u j : Nat} (hs : s < R.length) (hj : j < X.length) (e : f s = kX j) (hr : Rc (Vo true R) s u) : ∃ i, i < X.length /\ Rc (Vo true X) j i /\ kX i = f u := by
 have hE := Bv true (gEg (gE4 hR).1 : Bd R = true)
 induction hr with
 | refl => exact ⟨j, hj, .refl _, e.symm⟩
 | @tail u w hu hw ih =>
  obtain ⟨i, hi, hp, ei⟩ := ih
  have hw2 := (Cq hR).1 hw
  by_cases hc : f w = f u
  ·exact ⟨i, hi, hp, by rw [ei, hc]⟩
  obtain ⟨i2, h1, h2, h3⟩ := h.fw u i (hu.lt hs hE) hi ei.symm _ hw2 (.inr (by simpa using hc))
  exact ⟨i2, h1, hp.tail ((Cq hX).2 h2), by rw [h3]; simp⟩
theorem Rt (hR : AR R = true) {P : Nat -> Prop} (hP : ∀ u, u < R.length -> P u -> ∃ w v, w ∈ Vo true R u /\ Rc (Vo true R) w v /\ v < R.length /\ P v) : ∀ (n u : Nat), u < R.length -> P u -> W0 R u <= n -> Dv R u := by
 intro n
 induction n with
 | zero =>
  intro u hu _ hr
  exfalso
  have hp : 0 < (List.range R.length).countP fun x => @decide (Rc (Vo true R) u x) (Classical.propDecidable _) := List.countP_pos_iff.2 ⟨u, List.mem_range.2 hu, @decide_eq_true _ (Classical.propDecidable _) (Rc.refl u)⟩
  unfold W0 at hr
  omega
 | succ n ih =>
  intro u hu hp hr
  obtain ⟨w, v, hw, hwv, hvl, hv⟩ := hP u hu hp
  by_cases hb : Rc (Vo true R) v u
  ·exact ⟨u, .refl _, w, hw, hwv.trans hb⟩
  have huv : Rc (Vo true R) u v := (Rc.one hw).trans hwv
  have hlt : W0 R v < W0 R u := FW (fun x _ hx => @decide_eq_true _ (Classical.propDecidable _) (huv.trans (@of_decide_eq_true _ (Classical.propDecidable _) hx))) u (List.mem_range.2 hu) (@decide_eq_true _ (Classical.propDecidable _) (Rc.refl u)) (@decide_eq_false _ (Classical.propDecidable _) hb)
  obtain ⟨g, hg, hd⟩ := ih v hvl hv (by omega)
  exact ⟨g, huv.trans hg, hd⟩
theorem P7 {E : Nat -> List Nat} {u v : Nat} (h : Rc E u v) (hne : u ≠ v) : ∃ w, w ∈ E u /\ Rc E w v := by
 induction h with
 | refl => exact absurd rfl hne
 | @tail a b hab hb ih =>
  by_cases e : u = a
  ·subst e; exact ⟨b, hb, .refl _⟩
  obtain ⟨w, h1, h2⟩ := ih e
  exact ⟨w, h1, h2.tail hb⟩
end
end Go.Proofs.YthnkailnoobdoaaDoor
