/- Lemmas. -/
import Derived.Test.YthnkailnoobdoaaDoorG49
import Derived.Test.YthnkailnoobdoaaDoorG36
import Derived.Test.YthnkailnoobdoaaDoorTl3
import Derived.Test.YthnkailnoobdoaaDoorG72
namespace Go.Proofs.YthnkailnoobdoaaDoor
set_option linter.unusedVariables false
set_option linter.unusedSimpArgs false
open Go.RowKit
set_option maxRecDepth 100000
attribute [local go_sem] lga C.pl C.one

theorem N6 (r : List Ar) : ∀ (num old : List Int) (nxt : List Ar), (D4 r num old nxt).2.2.length <= nxt.length + r.length := by
 induction r with
 | nil => intro num old nxt; simp [D4]
 | cons a tl ih =>
  intro num old nxt
  have h1 := ih (AF num old a.2).1 (AF num old a.2).2 (Db (a.1, (AF num old a.2).1.getD a.2.toNat 0) nxt)
  have h2 := Fd (a.1, (AF num old a.2).1.getD a.2.toNat 0) nxt
  simp only [D4, List.length_cons]
  omega
theorem Pa {R : List (List Ar)} {B : Nat} (hb : ∀ r ∈ R, ∀ a ∈ r, 0 <= a.2 /\ a.2 < (R.length : Int)) (hB : ∀ r ∈ R, r.length <= B) : ∀ (f i : Nat) (num old : List Int) (out : List (List Ar)), NumOk R.length num old -> i = out.length -> i <= old.length -> (∀ x ∈ out, x.length <= B) -> (BE R f i num old out).1.length <= R.length /\ ∀ x ∈ (BE R f i num old out).1, x.length <= B := by
 intro f
 induction f with
 | zero =>
  intro i num old out hN hi ho hx
  have := hN.le
  exact ⟨by simp only [BE]; omega, hx⟩
 | succ f ih =>
  intro i num old out hN hi ho hx
  have hle := hN.le
  unfold BE
  split
  ·exact ⟨by simp only; omega, hx⟩
  rename_i s hs
  have hs0 := hN.st s (gE9 hs)
  have hsl : s.toNat < R.length := by omega
  have hg : R.getD s.toNat [] = R[s.toNat] := by rw [gE2, gE1 hsl]; rfl
  rw [hg]
  have hil := (List.getElem?_eq_some_iff.1 hs).1
  have hrm := gE6 hsl
  generalize R[s.toNat] = r at *
  have hq : ∀ a ∈ Bj r, 0 <= a.2 /\ a.2 < (R.length : Int) := fun a ha => hb r hrm a ((B0 r a).1 ha)
  have hN2 := NumOk.go (Bj r) [] hN hq
  have hl2 := N6 (Bj r) num old []
  have hl3 := FN r
  have hl4 := hB r hrm
  refine ih _ _ _ _ hN2 (by simp; omega) ?_ fun x hx2 => ?_
  rotate_left
  ·rcases List.mem_append.1 hx2 with h | h
   ·exact hx x h
   simp at h; subst h
   simp only [List.length_nil, Nat.zero_add] at hl2
   omega
  have : ∀ (q : List Ar) (num old : List Int) (nxt : List Ar), old.length <= (D4 q num old nxt).2.1.length := by
   intro q
   induction q with
   | nil => intro num old nxt; exact Nat.le_refl _
   | cons a tl ih2 =>
    intro num old nxt
    simp only [D4]
    refine Nat.le_trans ?_ (ih2 _ _ _)
    unfold AF
    split <;> simp
  have := this (Bj r) num old []
  omega
theorem N7 {R : List (List Ar)} {B : Nat} (h1 : 1 <= R.length) (hb : ∀ r ∈ R, ∀ a ∈ r, 0 <= a.2 /\ a.2 < (R.length : Int)) (hB : ∀ r ∈ R, r.length <= B) : (AG R).1.length <= R.length /\ ∀ x ∈ (AG R).1, x.length <= B :=
 Pa hb hB _ _ _ _ _ (NumOk.start h1) rfl (by simp) (by simp)
theorem Io (l : List Int) (c : Int) : ∀ m : Int, Hr (l ++ [c]) m = (Hr l m && (!decide (c < 0) && !decide (c > WI m l))) := by
 induction l with
 | nil => intro m; simp [Hr, WI]
 | cons a r ih =>
  intro m
  have e : WI m (a :: r) = WI (WH m a) r := rfl
  simp only [List.cons_append, Hr, ih, e, Bool.and_assoc]
theorem SL {α : Type} [DecidableEq α] (f : Nat -> α) (k : Nat) : Hr (Vf f k).1 0 = true /\ WI 0 (Vf f k).1 = ((Vf f k).2 : Int) := by
 induction k with
 | zero => exact ⟨rfl, rfl⟩
 | succ k ih =>
  have hr := (BX f k).rng
  rcases Dx f k with ⟨t, h1, h2, h3, h4⟩ | ⟨h3, h4⟩
  rotate_left
  ·rw [h4]
   generalize Vf f k = p at *
   simp only [Io, Hq, ih.1, ih.2, Bool.true_and, Bool.and_eq_true, Bool.not_eq_true', decide_eq_false_iff_not]
   refine ⟨by omega, ?_⟩
   unfold WH
   rw [if_pos (by omega)]
   omega
  rw [h4]
  have := hr t h1
  generalize Vf f k = p at *
  simp only [Io, Hq, ih.1, ih.2, Bool.true_and, Bool.and_eq_true, Bool.not_eq_true', decide_eq_false_iff_not]
  refine ⟨by omega, ?_⟩
  unfold WH
  rw [if_neg (by omega)]
theorem Nrm.num {n : Nat} {c : List Int} (h : Nrm n c) : Ij c n = true := by
 have h1 := (SL (fun s => c.getD s 0) n).1
 have hl := h.len
 unfold Nrm at h
 rw [h] at h1
 simp [Ij, h1, hl]
theorem Pb (l : List Int) : ∀ m : Int, Hr l m = true -> ∀ d : Int, m <= d -> d < WI m l -> d ∈ l := by
 induction l with
 | nil => intro m _ d h1 h2; simp [WI] at h2; omega
 | cons a r ih =>
  intro m h d h1 h2
  simp only [Hr, Bool.and_eq_true, Bool.not_eq_true', decide_eq_false_iff_not] at h
  obtain ⟨⟨q1, q2⟩, q3⟩ := h
  have e : WI m (a :: r) = WI (WH m a) r := rfl
  rw [e] at h2
  by_cases hd : d = a
  ·rw [hd]; simp
  refine gEf _ (ih _ q3 d ?_ h2)
  unfold WH
  split <;> omega
theorem Rw {C : List Int} {n : Nat} (h : Ij C n = true) {d : Nat} (hd : d < WK C) : ∃ s, s < n /\ WJ C s = d := by
 obtain ⟨h1, _, h3, h4⟩ := EX h
 simp only [Ij, Bool.and_eq_true, decide_eq_true_eq] at h
 have hm := Pb C 0 h.1 (d : Int) (by omega) (by omega)
 obtain ⟨s, hs, e⟩ := List.getElem_of_mem hm
 refine ⟨s, by omega, ?_⟩
 unfold WJ
 rw [gE2, gE1 hs, Option.getD_some, e, Int.toNat_natCast]
theorem Pc {C : List Int} {n : Nat} (h : Ij C n = true) (hn : 1 <= n) : WJ C 0 = 0 := by
 simp only [Ij, Bool.and_eq_true, decide_eq_true_eq] at h
 cases C with
 | nil => simp at h; omega
 | cons a r =>
  have h1 := h.1
  simp only [Hr, Bool.and_eq_true, Bool.not_eq_true', decide_eq_false_iff_not] at h1
  show a.toNat = 0
  omega
def Je (Q : List (List Ar)) (j : Nat) : Nat := ((AG Q).2.getD j 0).toNat
theorem N8 {Q : List (List Ar)} (h1 : 1 <= Q.length) (hb : ∀ r ∈ Q, ∀ a ∈ r, 0 <= a.2 /\ a.2 < (Q.length : Int)) :
  0 < (AG Q).1.length /\ Je Q 0 = 0 /\ (∀ j, j < (AG Q).1.length -> Je Q j < Q.length) /\ (∀ i j, i < (AG Q).1.length -> j < (AG Q).1.length -> Je Q i = Je Q j -> i = j) /\
  (∀ j (a : Ar), j < (AG Q).1.length -> a ∈ Q.getD (Je Q j) [] -> ∃ i : Nat, i < (AG Q).1.length /\ (a.1, (i : Int)) ∈ (AG Q).1.getD j [] /\ Je Q i = a.2.toNat) /\
  (∀ j (a : Ar), j < (AG Q).1.length -> a ∈ (AG Q).1.getD j [] -> ∃ i : Nat, i < (AG Q).1.length /\ a.2 = (i : Int) /\ (a.1, (Je Q i : Int)) ∈ Q.getD (Je Q j) []) := by
 obtain ⟨num, k1, k2, k3, k4, k5, k6⟩ := L7 h1 hb
 unfold Je
 generalize AG Q = p at *
 obtain ⟨X, old⟩ := p
 simp only at *
 have hX0 : 0 < X.length := by rw [k4]; exact (List.getElem?_eq_some_iff.1 k5).1
 have ho : ∀ j, j < X.length -> ∃ s : Nat, old[j]? = some (s : Int) /\ s < Q.length /\ (old.getD j 0).toNat = s /\ num[s]? = some (j : Int) := fun j hj => by
  have hjl : j < old.length := by omega
  have e := gE1 hjl
  have h2 := k1.st _ (gE6 hjl)
  have h3 := k3 j _ e
  refine ⟨(old[j]).toNat, by rw [e]; congr 1; omega, by omega, by rw [gE2, e]; rfl, h3.2⟩
 have hx : ∀ (x : Int) (t : Nat), num[t]? = some x -> 0 <= x -> x.toNat < X.length /\ (old.getD x.toNat 0).toNat = t := fun x t h h0 => by
  have h2 := k2.inj t x h h0
  have h3 := (List.getElem?_eq_some_iff.1 h2).1
  refine ⟨by omega, ?_⟩
  rw [gE2, h2]
  rfl
 refine ⟨hX0, by rw [gE2, k5]; rfl, fun j hj => ?_, fun i j hi hj e => ?_, fun j a hj ha => ?_, fun j a hj ha => ?_⟩
 ·obtain ⟨s, h1, h2, h3, h4⟩ := ho j hj
  rw [h3]; exact h2
 ·obtain ⟨s, q1, q2, q3, q4⟩ := ho i hi
  obtain ⟨t, p1, p2, p3, p4⟩ := ho j hj
  rw [q3, p3] at e
  subst e
  rw [q4] at p4
  have := Option.some.inj p4
  omega
 ·obtain ⟨s, q1, q2, q3, q4⟩ := ho j hj
  have hg := gE1 hj
  obtain ⟨r1, r2⟩ := k6 j _ _ q1 hg
  rw [q3] at ha
  simp only [Int.toNat_natCast] at r1 r2
  obtain ⟨x, hnx, hx0⟩ := r2 a ha
  obtain ⟨p1, p2⟩ := hx x _ hnx hx0
  refine ⟨x.toNat, p1, ?_, p2⟩
  rw [gE2, hg, Option.getD_some, r1, B0]
  refine List.mem_map.2 ⟨a, (B0 _ _).2 ha, ?_⟩
  rw [gE2, hnx, Option.getD_some]
  congr 1; omega
 obtain ⟨s, q1, q2, q3, q4⟩ := ho j hj
 have hg := gE1 hj
 obtain ⟨r1, r2⟩ := k6 j _ _ q1 hg
 simp only [Int.toNat_natCast] at r1 r2
 rw [gE2, hg, Option.getD_some, r1, B0] at ha
 obtain ⟨b, hb2, rfl⟩ := List.mem_map.1 ha
 have hb3 := (B0 _ _).1 hb2
 obtain ⟨x, hnx, hx0⟩ := r2 b hb3
 obtain ⟨p1, p2⟩ := hx x _ hnx hx0
 have hbq : 0 <= b.2 := by
  have hm : Q.getD s [] ∈ Q := by
   rw [gE2, gE1 q2, Option.getD_some]
   exact gE6 _
  exact (hb _ hm b hb3).1
 refine ⟨x.toNat, p1, ?_, ?_⟩
 ·rw [gE2, hnx, Option.getD_some]; omega
 rw [q3, p2, Int.toNat_of_nonneg hbq]; exact hb3
theorem U0 {R : List (List Ar)} {C : List Int} {B : List Bool} (hv : AR R = true) (hC : Ij C R.length = true) (hB : DvL R B) : QuX R (AG (qR R C B)).1 (WJ C) (Je (qR R C B)) := by
 have hlo : Bd R = true := gEg (gE4 hv).1
 obtain ⟨b1, b2, b3⟩ := P6 (B := B) hlo hC
 have hn1 : 1 <= R.length := (gE4 hlo).1
 have hm1 : 1 <= WK C := by have := ((EX hC).2.2.1 0 hn1).1; omega
 obtain ⟨_, _, c3, c4, c5, c6⟩ := N8 (Q := qR R C B) (by omega) (fun r hr a ha => by have := b2 r hr a ha; exact ⟨this.2.2.1, this.2.2.2⟩)
 refine ⟨c4, fun j hj => ?_, fun s j hs hj e b hb hne => ?_, fun j a hj ha => ?_, fun s j hs hj e hd => ?_⟩
 rotate_left 3
 ·have hq : (0, (Je (qR R C B) j : Int)) ∈ (qR R C B).getD (Je (qR R C B) j) [] := (Kk hC).2 (.inr ⟨rfl, s, hs, e, (hB.2 s hs).2 hd⟩)
  obtain ⟨i, hi, q1, q2⟩ := c5 j _ hj hq
  have : i = j := c4 i j hi hj (by rw [q2]; simp)
  rw [this] at q1
  exact q1
 ·exact Rw hC (by have := c3 j hj; omega)
 ·have hq : (b.1, (WJ C b.2.toNat : Int)) ∈ (qR R C B).getD (Je (qR R C B) j) [] := (Kk hC).2 (.inl ⟨s, hs, e, b, hb, by unfold WL; rw [if_pos (by rw [<- e]; exact hne)]⟩)
  obtain ⟨i, hi, q1, q2⟩ := c5 j _ hj hq
  exact ⟨i, hi, q1, by rw [q2]; simp⟩
 obtain ⟨i, hi, e, hq⟩ := c6 j a hj ha
 refine ⟨i, hi, e, ?_⟩
 rcases (Kk hC).1 hq with ⟨s, hs, es, b, hb, eb⟩ | ⟨eq, s, hs, es, hBs⟩
 rotate_left
 ·right
  simp only [Prod.mk.injEq] at eq
  exact ⟨eq.1, c4 i j hi hj (by omega), s, hs, es, (hB.2 s hs).1 hBs⟩
 left
 unfold WL at eb
 split at eb
 rotate_left
 ·simp at eb
 rename_i hor
 simp only [Option.some.injEq, Prod.mk.injEq] at eb
 have e2 : WJ C b.2.toNat = Je (qR R C B) i := by omega
 exact ⟨s, hs, es, b, hb, eb.1, e2, by rw [<- eb.1, <- e2]; exact hor⟩
theorem Ts {α : Type} [DecidableEq α] {f : Nat -> α} {n : Nat} (h : ∀ s t, s < n -> t < n -> f s = f t -> s = t) : ∀ k, k <= n -> (Vf f k).1 = (List.range k).map Int.ofNat /\ (Vf f k).2 = k := by
 intro k
 induction k with
 | zero => intro _; exact ⟨rfl, rfl⟩
 | succ k ih =>
  intro hk
  obtain ⟨e1, e2⟩ := ih (by omega)
  rcases Dx f k with ⟨t, h1, h2, _⟩ | ⟨_, h4⟩
  ·have := h t k (by omega) (by omega) h2; omega
  rw [h4, e1, e2, List.range_succ, List.map_append]
  exact ⟨rfl, rfl⟩
theorem GI {R : List (List Ar)} (h : Bd R = true) : AA (AG R).1 <= AA R := by
 have hp : S9 R := gE4 h
 have h1 := hp.1
 have hq := Ii (B := AA R) hp.2.2.2 R.length 0 _ _ [] R (NumOk.start h1) (NumInj.start h1) (NumSur.start h1) rfl (by simp) (by omega) ⟨by simp, by simp⟩ rfl (fun _ _ _ => rfl) (by simp [AA])
 exact hq.2.2.2
theorem Pd {R : List (List Ar)} {c : List Int} {B : List Bool} (hv : AR R = true) (hn : R.length <= 50) (ht : AA R <= 500) (hc : WkC R c) (hN : Nrm R.length c) (hB : DvL R B) : ∃ X, X = (AG (qR R c B)).1 /\ AR X = true /\ X.length <= R.length /\ AA X <= AA R + R.length /\ (∀ x, WkC X x -> Nrm X.length x -> x = (List.range X.length).map Int.ofNat) /\ (∀ d, WkC (BI R X) d -> d.getD 0 0 = d.getD R.length 0) /\ (∀ d, WkC (BI X R) d -> d.getD 0 0 = d.getD X.length 0) := by
 have hlo : Bd R = true := gEg (gE4 hv).1
 have hC := hN.num
 obtain ⟨b1, b2, b3⟩ := P6 (B := B) hlo hC
 have hn1 : 1 <= R.length := (gE4 hlo).1
 have hno := EX hC
 have hm1 : 1 <= WK c := by have := (hno.2.2.1 0 hn1).1; omega
 have hlq : Bd (qR R c B) = true := gEg ⟨by omega, by show (qR R c B).length <= 16384; omega, by show AA (qR R c B) <= 262144; omega, b2⟩
 have hq := U0 hv hC hB
 have hX := L6 hlq
 have htX := GI hlq
 have hlX := (N7 (R := qR R c B) (B := AA (qR R c B)) (by omega) (fun r hr a ha => by have := b2 r hr a ha; exact ⟨this.2.2.1, this.2.2.2⟩) (fun r hr => by
  obtain ⟨j, hj, rfl⟩ := List.getElem_of_mem hr
  have h := DB (qR R c B) j
  rw [gE2, gE1 hj, Option.getD_some] at h
  exact h)).1
 obtain ⟨a1, a2, _⟩ := N8 (Q := qR R c B) (by omega) (fun r hr a ha => by have := b2 r hr a ha; exact ⟨this.2.2.1, this.2.2.2⟩)
 have hf0 := Pc hC hn1
 generalize Je (qR R c B) = kX at *
 generalize (AG (qR R c B)).1 = X at *
 have hcl : ∀ s, s < R.length -> c.getD s 0 = (WJ c s : Int) := fun s hs => by rw [gE2, (hno.2.2.1 s hs).2]; rfl
 have hk0 := WkC.key hv (by omega) hc
 have hk : MtW R (WJ c) R (WJ c) := fun s t hs ht e => by
  obtain ⟨q1, q2⟩ := hk0 s t hs ht (by simp only; rw [hcl s hs, hcl t ht, e])
  refine ⟨q1, fun a ha => ?_⟩
  obtain ⟨b, hb, e1, e2⟩ := q2 a ha
  refine ⟨b, hb, e1, ?_⟩
  have e3 : c.getD b.2.toNat 0 = c.getD a.2.toNat 0 := e2
  unfold WJ
  rw [e3]
 have hm1 := hq.mt1W hv hX
 have hm2 := hq.mt2W hv hX hk
 have hlE : X.length <= R.length := by omega
 refine ⟨X, rfl, hX, hlE, by omega, fun x hx hxN => ?_, fun d hd => ?_, fun d hd => ?_⟩
 rotate_left 2
 ·have hz := En (.inr hX) hv (by show X.length + R.length <= 16384; omega) (by show AA X + AA R <= 262144; omega)
  have hb := MtW.both hX hv (by omega) hz hq.mt3W hm2 hm1 hk
  refine hb.le hz (by rw [Az]; omega) hd (by rw [Az]; omega) (by rw [Az]; omega) ?_
  unfold WO
  rw [if_pos a1, if_neg (by omega), Nat.sub_self, a2, hf0]
 ·have hinj : ∀ s t, s < X.length -> t < X.length -> x.getD s 0 = x.getD t 0 -> s = t := fun s t hs ht e =>
   hq.minW hv hX (by omega) hk hc (fun s t hs ht e => by unfold WJ; rw [e]) (by omega) hx hs ht e
  have h := (Ts hinj X.length (Nat.le_refl _)).1
  unfold Nrm at hxN
  rw [<- hxN]
  exact h
 have hz := En (.inr hv) hX (by show R.length + X.length <= 16384; omega) (by show AA R + AA X <= 262144; omega)
 have hb := MtW.both hv hX (by omega) hz hk hm1 hm2 hq.mt3W
 refine hb.le hz (by rw [Az]; omega) hd (by rw [Az]; omega) (by rw [Az]; omega) ?_
 unfold WO
 rw [if_pos (show 0 < R.length by omega), if_neg (by omega), Nat.sub_self, a2, hf0]
end Go.Proofs.YthnkailnoobdoaaDoor
