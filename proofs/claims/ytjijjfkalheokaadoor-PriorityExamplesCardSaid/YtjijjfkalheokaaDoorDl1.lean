/- Lemmas. -/
import Derived.Test.YtjijjfkalheokaaDoorG45
import Derived.Test.YtjijjfkalheokaaDoorG70
namespace Go.Proofs.YtjijjfkalheokaaDoor
set_option linter.unusedVariables false
set_option linter.unusedSimpArgs false

section
variable {α β : Type} [DecidableEq α] [DecidableEq β]
def UW (f : Nat -> α) : Nat -> List Int × Nat
 | 0 => ([], 0)
 | k + 1 => match (List.range k).find? (fun t => decide (f t = f k)) with
  | some t => ((UW f k).1 ++ [(UW f k).1.getD t 0], (UW f k).2)
  | none => ((UW f k).1 ++ [((UW f k).2 : Int)], (UW f k).2 + 1)
theorem DN {f : Nat -> α} {k t : Nat} (h : (List.range k).find? (fun t => decide (f t = f k)) = some t) : UW f (k + 1) = ((UW f k).1 ++ [(UW f k).1.getD t 0], (UW f k).2) := by rw [UW, h]
theorem DO {f : Nat -> α} {k : Nat} (h : (List.range k).find? (fun t => decide (f t = f k)) = none) : UW f (k + 1) = ((UW f k).1 ++ [((UW f k).2 : Int)], (UW f k).2 + 1) := by rw [UW, h]
theorem Hz {f : Nat -> α} {k t : Nat} (ht : t < k) (h : f t = f k) (hn : ∀ u, u < t -> f u ≠ f k) : (List.range k).find? (fun t => decide (f t = f k)) = some t := by
 rw [List.find?_range_eq_some]
 exact ⟨by simpa using h, by simpa using ht, fun j hj => by simpa using hn j hj⟩
theorem HA {f : Nat -> α} {k : Nat} (hn : ∀ u, u < k -> f u ≠ f k) : (List.range k).find? (fun t => decide (f t = f k)) = none := by
 rw [List.find?_range_eq_none]
 exact fun j hj => by simpa using hn j hj
theorem EE (f : Nat -> α) (k : Nat) : (∃ t, t < k /\ f t = f k /\ (∀ u, u < t -> f u ≠ f k) /\ UW f (k + 1) = ((UW f k).1 ++ [(UW f k).1.getD t 0], (UW f k).2)) \/ ((∀ u, u < k -> f u ≠ f k) /\ UW f (k + 1) = ((UW f k).1 ++ [((UW f k).2 : Int)], (UW f k).2 + 1)) := by
 cases h : (List.range k).find? (fun t => decide (f t = f k)) with
 | some t =>
  have h2 := List.find?_range_eq_some.1 h
  exact .inl ⟨t, by simpa using h2.2.1, by simpa using h2.1, fun u hu => by simpa using h2.2.2 u hu, DN h⟩
 | none =>
  have h2 := List.find?_range_eq_none.1 h
  exact .inr ⟨fun u hu => by simpa using h2 u hu, DO h⟩
structure NmOk (f : Nat -> α) (k : Nat) (p : List Int × Nat) : Prop where
 len : p.1.length = k
 eq : ∀ s t, s < k -> t < k -> (p.1.getD s 0 = p.1.getD t 0 ↔ f s = f t)
 rng : ∀ s, s < k -> 0 <= p.1.getD s 0 /\ p.1.getD s 0 < (p.2 : Int)
 cnt : p.2 <= k
theorem Cg {l : List Int} {x : Int} {s : Nat} (h : s < l.length) : (l ++ [x]).getD s 0 = l.getD s 0 := by
 rw [gE2, gEa h, <- gE2]
theorem CQ {l : List Int} {x : Int} {s : Nat} (h : s = l.length) : (l ++ [x]).getD s 0 = x := by
 subst h
 rw [gE2, gEb (Nat.le_refl _), Nat.sub_self]; rfl
theorem Ch (f : Nat -> α) (k : Nat) : NmOk f k (UW f k) := by
 induction k with
 | zero => exact ⟨rfl, fun s t h => by omega, fun s h => by omega, Nat.le_refl _⟩
 | succ k ih =>
  have hl := ih.len
  rcases EE f k with ⟨t, h1, h2, h3, h4⟩ | ⟨h3, h4⟩
  ·rw [h4]
   generalize UW f k = p at *
   have g1 : ∀ s, s < k -> (p.1 ++ [p.1.getD t 0]).getD s 0 = p.1.getD s 0 := fun s hs => Cg (by omega)
   have g2 : (p.1 ++ [p.1.getD t 0]).getD k 0 = p.1.getD t 0 := CQ hl.symm
   refine ⟨by simp [hl], fun s u hs hu => ?_, fun s hs => ?_, by have := ih.cnt; simp only; omega⟩
   rotate_left
   ·simp only
    rcases Nat.lt_or_ge s k with a | a
    ·rw [g1 s a]; exact ih.rng s a
    have : s = k := by omega
    subst this; rw [g2]; exact ih.rng t h1
   simp only
   rcases Nat.lt_or_ge s k with a | a <;> rcases Nat.lt_or_ge u k with b | b
   ·rw [g1 s a, g1 u b]; exact ih.eq s u a b
   ·have : u = k := by omega
    subst this
    rw [g1 s a, g2, ih.eq s t a h1, h2]
   ·have : s = k := by omega
    subst this
    rw [g1 u b, g2, ih.eq t u h1 b, h2]
   have e1 : s = k := by omega
   have e2 : u = k := by omega
   subst e1; subst e2; simp
  rw [h4]
  generalize UW f k = p at *
  have g1 : ∀ s, s < k -> (p.1 ++ [(p.2 : Int)]).getD s 0 = p.1.getD s 0 := fun s hs => Cg (by omega)
  have g2 : (p.1 ++ [(p.2 : Int)]).getD k 0 = p.2 := CQ hl.symm
  refine ⟨by simp [hl], fun s u hs hu => ?_, fun s hs => ?_, by have := ih.cnt; simp only; omega⟩
  rotate_left
  ·simp only
   rcases Nat.lt_or_ge s k with a | a
   ·rw [g1 s a]; have := ih.rng s a; omega
   have : s = k := by omega
   subst this; rw [g2]; omega
  simp only
  rcases Nat.lt_or_ge s k with a | a <;> rcases Nat.lt_or_ge u k with b | b
  rotate_left 3
  ·have e1 : s = k := by omega
   have e2 : u = k := by omega
   subst e1; subst e2; simp
  ·rw [g1 s a, g1 u b]; exact ih.eq s u a b
  ·have : u = k := by omega
   subst this
   rw [g1 s a, g2]
   have := ih.rng s a
   exact ⟨fun e => by omega, fun e => absurd e (h3 s a)⟩
  have : s = k := by omega
  subst this
  rw [g1 u b, g2]
  have := ih.rng u b
  exact ⟨fun e => by omega, fun e => absurd e.symm (h3 u b)⟩
theorem LT {f : Nat -> α} {g : Nat -> β} : ∀ k, (∀ s t, s < k -> t < k -> (f s = f t ↔ g s = g t)) -> UW f k = UW g k := by
 intro k
 induction k with
 | zero => intro _; rfl
 | succ k ih =>
  intro h
  have ih2 := ih fun s t hs ht => h s t (by omega) (by omega)
  rcases EE f k with ⟨t, h1, h2, h3, h4⟩ | ⟨h3, h4⟩
  ·rw [h4, DN (f := g) (Hz h1 ((h t k (by omega) (by omega)).1 h2) fun u hu e => h3 u hu ((h u k (by omega) (by omega)).2 e)), ih2]
  rw [h4, DO (f := g) (HA fun u hu e => h3 u hu ((h u k (by omega) (by omega)).2 e)), ih2]
theorem Jr (f : Nat -> α) (n : Nat) : UW (fun s => (UW f n).1.getD s 0) n = UW f n := LT n fun s t hs ht => (Ch f n).eq s t hs ht
def NN (f : Nat -> α) (k : Nat) : Bool := (List.range k).all fun t => !decide (f t = f k)
theorem D4 {f : Nat -> α} {k : Nat} : NN f k = true ↔ ∀ t, t < k -> f t ≠ f k := by simp [NN]
theorem Js (f : Nat -> α) (k : Nat) : (UW f k).2 = (List.range k).countP (NN f) := by
 induction k with
 | zero => rfl
 | succ k ih =>
  rw [List.range_succ, List.countP_append, <- ih]
  rcases EE f k with ⟨t, h1, h2, h3, h4⟩ | ⟨h3, h4⟩
  rotate_left
  ·have : NN f k = true := D4.2 h3
   rw [h4]; simp [this]
  have : NN f k = false := by
   rw [<- Bool.not_eq_true, D4]
   exact fun h => h t h1 h2
  rw [h4]; simp [this]
theorem DP {γ : Type} {p q : γ -> Bool} : ∀ {l : List γ}, (∀ x ∈ l, p x = true -> q x = true) -> l.countP p = l.countP q -> ∀ x ∈ l, q x = true -> p x = true
 | [], _, _, x, hx, _ => by simp at hx
 | a :: r, h, e, x, hx, hq => by
  have hle := List.countP_mono_left (p := p) (q := q) (l := r) fun y hy => h y (gEf _ hy)
  rw [List.countP_cons, List.countP_cons] at e
  have ha := h a (by simp)
  rcases List.mem_cons.1 hx with rfl | hx
  ·cases hp : p x with
   | true => rfl
   | false => rw [hp, hq] at e; simp at e; omega
  ·refine DP (fun y hy => h y (gEf _ hy)) ?_ x hx hq
   cases hp : p a with
   | true => rw [hp, ha hp] at e; simp at e; exact e
   | false =>
    rw [hp] at e
    cases hqa : q a with
    | true => rw [hqa] at e; simp at e; omega
    | false => rw [hqa] at e; simpa using e
theorem Jt {f : Nat -> α} (s : Nat) : ∃ t, t <= s /\ f t = f s /\ NN f t = true := by
 induction s using Nat.strongRecOn with
 | _ s ih =>
  cases h : NN f s with
  | true => exact ⟨s, Nat.le_refl _, rfl, h⟩
  | false =>
   have : ¬ ∀ t, t < s -> f t ≠ f s := fun q => by rw [D4.2 q] at h; cases h
   obtain ⟨t, ht, e⟩ : ∃ t, t < s /\ f t = f s := Classical.byContradiction fun q => this fun t ht e => q ⟨t, ht, e⟩
   obtain ⟨u, h1, h2, h3⟩ := ih t ht
   exact ⟨u, by omega, h2.trans e, h3⟩
theorem LU {f : Nat -> α} {g : Nat -> β} {n : Nat} (h : ∀ s t, s < n -> t < n -> g s = g t -> f s = f t) : (UW f n).2 <= (UW g n).2 /\ ((UW f n).2 = (UW g n).2 -> UW f n = UW g n) := by
 have hsub : ∀ k ∈ List.range n, NN f k = true -> NN g k = true := fun k hk hf => by
  rw [List.mem_range] at hk
  rw [D4] at hf ⊢
  exact fun t ht e => hf t ht (h t k (by omega) hk e)
 rw [Js, Js]
 refine ⟨List.countP_mono_left hsub, fun e => LT n fun s t hs ht => ⟨fun hf => ?_, h s t hs ht⟩⟩
 have hback := DP hsub e
 obtain ⟨s1, a1, a2, a3⟩ := Jt (f := g) s
 obtain ⟨t1, b1, b2, b3⟩ := Jt (f := g) t
 have c1 := D4.1 (hback s1 (List.mem_range.2 (by omega)) a3)
 have c2 := D4.1 (hback t1 (List.mem_range.2 (by omega)) b3)
 have d1 : f s1 = f s := h s1 s (by omega) hs a2
 have d2 : f t1 = f t := h t1 t (by omega) ht b2
 have e3 : f s1 = f t1 := by rw [d1, d2, hf]
 have e4 : s1 = t1 := by
  rcases Nat.lt_trichotomy s1 t1 with q | q | q
  ·exact absurd e3 (c2 s1 q)
  ·exact q
  exact absurd e3.symm (c1 t1 q)
 rw [<- a2, <- b2, e4]
end
def UX (S : List (List Ar)) (c : List Int) (s : Nat) : List Ar := CI ((S.getD s []).map fun a => (a.1, c.getD a.2.toNat 0))
theorem CS {S : List (List Ar)} {c : List Int} {s : Nat} {x : Ar} : x ∈ UX S c s ↔ ∃ a ∈ S.getD s [], x = (a.1, c.getD a.2.toNat 0) := by
 unfold UX
 rw [C8, List.mem_map]
 exact ⟨fun ⟨a, h1, h2⟩ => ⟨a, h1, h2.symm⟩, fun ⟨a, h1, h2⟩ => ⟨a, h1, h2.symm⟩⟩
def S8 (c : List Int) (row : List Ar) (e x : Int) : Bool := row.any fun a => a.1 == e && c.getD a.2.toNat 0 == x
def OS (c : List Int) (a b : List Ar) : Bool := a.all fun x => S8 c b x.1 (c.getD x.2.toNat 0)
theorem LV {S : List (List Ar)} {c : List Int} {s t : Nat} : UX S c s = UX S c t ↔ OS c (S.getD s []) (S.getD t []) = true /\ OS c (S.getD t []) (S.getD s []) = true := by
 have key : ∀ s t, OS c (S.getD s []) (S.getD t []) = true ↔ ∀ x ∈ UX S c s, x ∈ UX S c t := by
  intro s t
  simp only [OS, S8, List.all_eq_true, List.any_eq_true, Bool.and_eq_true, beq_iff_eq]
  constructor
  ·intro h x hx
   obtain ⟨a, ha, rfl⟩ := CS.1 hx
   obtain ⟨b, hb, h1, h2⟩ := h a ha
   exact CS.2 ⟨b, hb, by rw [h1, h2]⟩
  intro h a ha
  obtain ⟨b, hb, e⟩ := CS.1 (h _ (CS.2 ⟨a, ha, rfl⟩))
  injection e with e1 e2
  exact ⟨b, hb, e1.symm, e2.symm⟩
 rw [key, key]
 constructor
 ·intro h; rw [h]; exact ⟨fun _ h => h, fun _ h => h⟩
 rintro ⟨h1, h2⟩
 exact BN (AD _) (AD _) fun x => ⟨h1 x, h2 x⟩
def UY (S : List (List Ar)) (c : List Int) (s : Nat) : Int × List Ar := (c.getD s 0, UX S c s)
def UZ (S : List (List Ar)) (c : List Int) : List Int := (UW (UY S c) S.length).1
def V0 (S : List (List Ar)) (c : List Int) : Nat -> List Int
 | 0 => c
 | k + 1 => UZ S (V0 S c k)
def FxS (S : List (List Ar)) (c d : List Int) : Prop := ∃ k, d = V0 S c k /\ UZ S d = d
theorem FxS.stay {S : List (List Ar)} {c : List Int} {k j : Nat} (h : UZ S (V0 S c k) = V0 S c k) (hj : k <= j) : V0 S c j = V0 S c k := by
 induction j with
 | zero =>
  have : k = 0 := by omega
  subst this; rfl
 | succ j ih =>
  by_cases e : k = j + 1
  ·subst e; rfl
  rw [V0, ih (by omega), h]
theorem FxS.uniq {S : List (List Ar)} {c d e : List Int} (h1 : FxS S c d) (h2 : FxS S c e) : d = e := by
 obtain ⟨k, rfl, hk⟩ := h1
 obtain ⟨j, rfl, hj⟩ := h2
 rcases Nat.le_total k j with h | h
 ·exact (FxS.stay hk h).symm
 exact FxS.stay hj h
def Nrm (n : Nat) (c : List Int) : Prop := (UW (fun s => c.getD s 0) n).1 = c
def Ew (n : Nat) (c : List Int) : Nat := (UW (fun s => c.getD s 0) n).2
theorem OT {α : Type} [DecidableEq α] (f : Nat -> α) (n : Nat) : Nrm n (UW f n).1 := by unfold Nrm; rw [Jr]
theorem LW {α : Type} [DecidableEq α] (f : Nat -> α) (n : Nat) : Ew n (UW f n).1 = (UW f n).2 := by unfold Ew; rw [Jr]
theorem Nrm.len {n : Nat} {c : List Int} (h : Nrm n c) : c.length = n := by rw [<- h]; exact (Ch _ n).len
theorem Nrm.rng {n : Nat} {c : List Int} (h : Nrm n c) : ∀ x ∈ c, 0 <= x /\ x < (n : Int) := fun x hx => by
 obtain ⟨i, hi, rfl⟩ := List.getElem_of_mem hx
 have hl := h.len
 have h1 := (Ch (fun s => c.getD s 0) n).rng i (by omega)
 have h2 := (Ch (fun s => c.getD s 0) n).cnt
 unfold Nrm at h
 rw [h, gE2, gE1 hi, Option.getD_some] at h1
 omega
theorem Ro (S : List (List Ar)) (c : List Int) : Nrm S.length (UZ S c) := OT _ _
theorem Sr {S : List (List Ar)} {c : List Int} (h : Nrm S.length c) (hne : UZ S c ≠ c) : Ew S.length c < Ew S.length (UZ S c) := by
 have hr := LU (f := fun s => c.getD s 0) (g := UY S c) (n := S.length) fun s t _ _ e => by
  have := congrArg Prod.fst e
  exact this
 have e1 : Ew S.length (UZ S c) = (UW (UY S c) S.length).2 := LW _ _
 rw [e1]
 unfold Ew
 rcases Nat.lt_or_eq_of_le hr.1 with q | q
 ·exact q
 exfalso
 apply hne
 have := hr.2 q
 unfold UZ
 rw [<- this]
 exact h
theorem OU (n : Nat) (c : List Int) : Ew n c <= n := (Ch _ n).cnt
open Go.RowKit
def V1 (acc : List Int) (r : List Ar) : List Int := r.foldl (fun acc a => La a.1 acc) acc
def V3 (R : List (List Ar)) (k : Nat) : List Int := (R.take k).foldl V1 [0]
theorem NO {R : List (List Ar)} {k : Nat} (h : k < R.length) : V3 R (k + 1) = V1 (V3 R k) R[k] := by
 unfold V3
 rw [gE8 h, List.foldl_append]; rfl
theorem Gu {x : Int} : ∀ (r : List Ar) (acc : List Int), x ∈ V1 acc r ↔ x ∈ acc \/ ∃ a ∈ r, a.1 = x
 | [], acc => by simp [V1]
 | a :: r, acc => by
  show x ∈ V1 (La a.1 acc) r ↔ _
  rw [Gu r, DJ]
  simp only [List.mem_cons, exists_eq_or_imp]
  constructor
  ·rintro ((rfl | h) | h)
   ·exact .inr (.inl rfl)
   ·exact .inl h
   ·exact .inr (.inr h)
  ·rintro (h | h | h)
   ·exact .inl (.inr h)
   ·exact .inl (.inl h.symm)
   ·exact .inr h
theorem LX : ∀ (r : List Ar) (acc : List Int), Ur acc -> Ur (V1 acc r)
 | [], _, h => h
 | _ :: r, _, h => LX r _ (IY h)
theorem Ju {R : List (List Ar)} (hb : ∀ r ∈ R, ∀ a ∈ r, 0 <= a.1 /\ a.1 <= 1025) (k : Nat) : k <= R.length -> Ur (V3 R k) /\ (∀ x ∈ V3 R k, 0 <= x /\ x < 1026) /\ (0 : Int) ∈ V3 R k /\ ∀ r ∈ R.take k, ∀ a ∈ r, a.1 ∈ V3 R k := by
 induction k with
 | zero => intro _; exact ⟨by simp [V3, Ur], by simp [V3], by simp [V3], by simp⟩
 | succ k ih =>
  intro hk
  obtain ⟨h1, h2, h3, h4⟩ := ih (by omega)
  have hkl : k < R.length := hk
  rw [NO hkl]
  refine ⟨LX _ _ h1, fun x hx => ?_, (Gu _ _).2 (.inl h3), fun r hr a ha => ?_⟩
  ·rcases (Gu _ _).1 hx with h | ⟨a, ha, rfl⟩
   ·exact h2 x h
   have := hb _ (gE6 hkl) a ha; omega
  rw [Gu]
  rw [gE8 hkl] at hr
  rcases List.mem_append.1 hr with h | h
  ·exact .inl (h4 r h a ha)
  simp at h; subst h; exact .inr ⟨a, ha, rfl⟩
noncomputable def V4 (R : List (List Ar)) (s : Nat) : List Nat := Gt R.length (fun u => @decide (Rc (Uy true R) s u) (Classical.propDecidable _))
theorem Fd {R : List (List Ar)} {s u : Nat} : u ∈ V4 R s ↔ u < R.length /\ Rc (Uy true R) s u := by
 unfold V4
 rw [Cf]
 simp
noncomputable def V5 (R : List (List Ar)) (s : Nat) (e : Int) : List Int := if e = 0 then (V4 R s).map Int.ofNat else (Gt R.length (fun u => decide (u ∈ tg R (V4 R s) e))).map Int.ofNat
theorem Il {R : List (List Ar)} (hlo : Br R = true) {s : Nat} (hs : s < R.length) {e x : Int} : x ∈ V5 R s e ↔ (e = 0 /\ ∃ u : Nat, x = (u : Int) /\ Rc (Uy true R) s u) \/ (e ≠ 0 /\ ∃ t, Rc (Uy true R) s t /\ ∃ a ∈ R.getD t [], a.1 = e /\ a.2 = x) := by
 have hE := Ce true hlo
 unfold V5
 by_cases e0 : e = 0
 ·rw [if_pos e0, List.mem_map]
  constructor
  ·rintro ⟨u, hu, rfl⟩
   exact .inl ⟨e0, u, rfl, (Fd.1 hu).2⟩
  rintro (⟨_, u, rfl, hu⟩ | ⟨h, _⟩)
  ·exact ⟨u, Fd.2 ⟨hu.lt hs hE, hu⟩, rfl⟩
  exact absurd e0 h
 rw [if_neg e0, List.mem_map]
 constructor
 ·rintro ⟨u, hu, rfl⟩
  rw [Cf, decide_eq_true_iff, OQ] at hu
  obtain ⟨_, t, ht, h2⟩ := hu
  obtain ⟨a, ha, h3, h4⟩ := LQ.1 h2
  have htl := (Fd.1 ht).1
  have hb : 0 <= a.2 := by
   rw [gE2, gE1 htl, Option.getD_some] at ha
   exact ((gE4 hlo).2.2.2 _ (gE6 htl) a ha).2.2.1
  exact .inr ⟨e0, t, (Fd.1 ht).2, a, ha, h3, by simp only [Int.ofNat_eq_natCast]; omega⟩
 rintro (⟨h, _⟩ | ⟨_, t, ht, a, ha, h3, rfl⟩)
 ·exact absurd h e0
 have htl := ht.lt hs hE
 have hb := ha
 rw [gE2, gE1 htl, Option.getD_some] at hb
 have hb2 := (gE4 hlo).2.2.2 _ (gE6 htl) a hb
 refine ⟨a.2.toNat, ?_, by simp only [Int.ofNat_eq_natCast]; omega⟩
 rw [Cf, decide_eq_true_iff, OQ]
 exact ⟨by omega, t, Fd.2 ⟨htl, ht⟩, LQ.2 ⟨a, ha, h3, rfl⟩⟩
theorem OV {R : List (List Ar)} (hlo : Br R = true) {s : Nat} {e : Int} (hs : s < R.length) : (V5 R s e).length <= R.length /\ ∀ x ∈ V5 R s e, 0 <= x /\ x < (R.length : Int) := by
 have hl : ∀ p : Nat -> Bool, (Gt R.length p).length <= R.length := fun p => by
  unfold Gt
  exact Nat.le_trans (List.length_filter_le _ _) (by simp)
 refine ⟨?_, fun x hx => ?_⟩
 ·unfold V5
  split <;> rw [List.length_map] <;> exact hl _
 unfold V5 at hx
 split at hx
 ·obtain ⟨u, hu, rfl⟩ := List.mem_map.1 hx
  have := (Cf.1 hu).1
  simp only [Int.ofNat_eq_natCast]; omega
 obtain ⟨u, hu, rfl⟩ := List.mem_map.1 hx
 have := (Cf.1 hu).1
 simp only [Int.ofNat_eq_natCast]; omega
noncomputable def V6 (R : List (List Ar)) (s : Nat) (e : Int) : List Ar := (V5 R s e).map fun u => (e, u)
noncomputable def V7 (R : List (List Ar)) (Ev : List Int) (s k : Nat) : List Ar := (Ev.take k).flatMap (V6 R s)
noncomputable def V8 (R : List (List Ar)) (Ev : List Int) (s : Nat) : List Ar := V7 R Ev s Ev.length
noncomputable def V9 (R : List (List Ar)) (Ev : List Int) (k : Nat) : List (List Ar) := (List.range k).map (V8 R Ev)
theorem PV (R : List (List Ar)) (Ev : List Int) (k : Nat) : (V9 R Ev k).length = k := by simp [V9]
theorem NP {R : List (List Ar)} {Ev : List Int} {s k : Nat} (h : k < Ev.length) : V7 R Ev s (k + 1) = V7 R Ev s k ++ V6 R s Ev[k] := by
 unfold V7
 rw [gE8 h, List.flatMap_append]
 simp
theorem PW {R : List (List Ar)} (hlo : Br R = true) {Ev : List Int} {s : Nat} (hs : s < R.length) : ∀ k, k <= Ev.length -> (V7 R Ev s k).length <= k * R.length := by
 intro k
 induction k with
 | zero => intro _; simp [V7]
 | succ k ih =>
  intro hk
  have h1 := ih (by omega)
  have h2 := (OV hlo (e := Ev[k]) hs).1
  rw [NP hk, List.length_append, V6, List.length_map, Nat.succ_mul]
  omega
noncomputable def Gv (R : List (List Ar)) : List (List Ar) := V9 R (V3 R R.length) R.length
theorem Gw {R : List (List Ar)} (hv : Bg R = true) {s : Nat} (hs : s < R.length) {a : Ar} : a ∈ (Gv R).getD s [] ↔ (a.1 = 0 /\ ∃ u : Nat, a.2 = (u : Int) /\ Rc (Uy true R) s u) \/ (a.1 ≠ 0 /\ ∃ t, Rc (Uy true R) s t /\ a ∈ R.getD t []) := by
 have hlo : Br R = true := gEg (gE4 hv).1
 have hg : (Gv R).getD s [] = V8 R (V3 R R.length) s := by simp [Gv, V9, gE2, hs]
 have hev := Ju (R := R) (fun r hr a ha => by have := (gE4 hlo).2.2.2 r hr a ha; omega) R.length (Nat.le_refl _)
 rw [List.take_length] at hev
 rw [hg]
 unfold V8 V7
 rw [List.take_length, List.mem_flatMap]
 constructor
 ·rintro ⟨e, he, h⟩
  obtain ⟨x, hx, rfl⟩ := List.mem_map.1 h
  rcases (Il hlo hs).1 hx with ⟨h1, u, rfl, h2⟩ | ⟨h1, t, h2, b, hb, h3, h4⟩
  ·exact .inl ⟨h1, u, rfl, h2⟩
  refine .inr ⟨h1, t, h2, ?_⟩
  have : b = (e, x) := by rcases b with ⟨p, q⟩; simp only at h3 h4; rw [h3, h4]
  rw [<- this]; exact hb
 rintro (⟨h1, u, h2, h3⟩ | ⟨h1, t, h2, h3⟩)
 ·refine ⟨0, hev.2.2.1, List.mem_map.2 ⟨(u : Int), (Il hlo hs).2 (.inl ⟨rfl, u, rfl, h3⟩), ?_⟩⟩
  rcases a with ⟨p, q⟩; simp only at h1 h2 ⊢; rw [h1, h2]
 have htl := h2.lt hs (Ce true hlo)
 have h4 := h3
 rw [gE2, gE1 htl, Option.getD_some] at h4
 exact ⟨a.1, hev.2.2.2 _ (gE6 htl) a h4, List.mem_map.2 ⟨a.2, (Il hlo hs).2 (.inr ⟨h1, t, h2, a, h3, rfl, rfl⟩), rfl⟩⟩
theorem LY {R : List (List Ar)} (hv : Bg R = true) (hn : R.length <= 100) : (Gv R).length = R.length /\ ∀ r ∈ Gv R, r.length <= 1000000 /\ ∀ a ∈ r, 0 <= a.2 /\ a.2 < (R.length : Int) := by
 have hlo : Br R = true := gEg (gE4 hv).1
 have hl : (Gv R).length = R.length := PV _ _ _
 have hev := Ju (R := R) (fun r hr a ha => by have := (gE4 hlo).2.2.2 r hr a ha; omega) R.length (Nat.le_refl _)
 have hevl : (V3 R R.length).length <= 1026 := OR hev.1 (by simpa using hev.2.1)
 refine ⟨hl, fun r hr => ?_⟩
 obtain ⟨s, hs, rfl⟩ := List.mem_map.1 hr
 rw [List.mem_range] at hs
 have h1 := PW hlo (Ev := V3 R R.length) hs _ (Nat.le_refl _)
 have h2 : (V3 R R.length).length * R.length <= 1026 * 100 := Nat.mul_le_mul hevl hn
 refine ⟨by unfold V8; omega, fun a ha => ?_⟩
 unfold V8 V7 at ha
 obtain ⟨e, _, h⟩ := List.mem_flatMap.1 ha
 obtain ⟨x, hx, rfl⟩ := List.mem_map.1 h
 exact (OV hlo hs).2 x hx
def Va (B : List Bool) (s : Nat) : Int := if B.getD s false = B.getD 0 false then 0 else 1
def Vb (B : List Bool) (n : Nat) : List Int := (List.range n).map (Va B)
theorem Du {B : List Bool} {n s : Nat} (h : s < n) : (Vb B n).getD s 0 = Va B s := by simp [Vb, gE2, h]
theorem Rp {B : List Bool} : ∀ n, 1 <= n -> (UW (fun s => B.getD s false) n).1 = Vb B n /\ ((UW (fun s => B.getD s false) n).2 = 1 /\ (∀ s, s < n -> B.getD s false = B.getD 0 false) \/ (UW (fun s => B.getD s false) n).2 = 2 /\ ∃ s, s < n /\ B.getD s false ≠ B.getD 0 false) := by
 intro n
 induction n with
 | zero => intro h; omega
 | succ n ih =>
  intro _
  by_cases h0 : n = 0
  ·subst h0
   refine ⟨?_, .inl ⟨rfl, fun s hs => by rw [show s = 0 by omega]⟩⟩
   show ([] ++ [((0 : Nat) : Int)]) = _
   simp [Vb, Va]
  obtain ⟨h1, h2⟩ := ih (by omega)
  have hd : Vb B (n + 1) = Vb B n ++ [Va B n] := by simp [Vb, List.range_succ]
  rcases EE (fun s => B.getD s false) n with ⟨t, a1, a2, a3, a4⟩ | ⟨a3, a4⟩
  ·rw [a4, hd, h1, Du a1]
   have e1 : Va B t = Va B n := by unfold Va; rw [a2]
   refine ⟨by rw [e1], ?_⟩
   rcases h2 with ⟨b1, b2⟩ | ⟨b1, s, b2, b3⟩
   rotate_left
   ·exact .inr ⟨b1, s, by omega, b3⟩
   refine .inl ⟨b1, fun s hs => ?_⟩
   by_cases e : s = n
   ·subst e; rw [<- a2]; exact b2 t a1
   exact b2 s (by omega)
  have hne := a3 0 (by omega)
  have hone : (UW (fun s => B.getD s false) n).2 = 1 := by
   rcases h2 with ⟨b1, _⟩ | ⟨_, s, b2, b3⟩
   ·exact b1
   exfalso
   have c1 := a3 s b2
   revert hne c1 b3
   generalize B.getD s false = x
   generalize B.getD 0 false = y
   generalize B.getD n false = z
   cases x <;> cases y <;> cases z <;> simp
  rw [a4, hd, h1, hone]
  refine ⟨by unfold Va; rw [if_neg (Ne.symm hne)]; rfl, .inr ⟨rfl, n, by omega, Ne.symm hne⟩⟩
theorem PX (B : List Bool) {n : Nat} (h : 1 <= n) : Nrm n (Vb B n) := by
 rw [<- (Rp n h).1]
 exact OT _ _
def Vc (R : List (List Ar)) (c : List Int) : Prop := ∃ B, DvL R B /\ FxS (Gv R) (Vb B R.length) c
abbrev Ed := Nat × Nat
def Vd (f : Nat -> Nat) (s : Nat) (a : Ar) : Option Ed := if a.1 = 0 /\ f s ≠ f a.2.toNat then some (f s, f a.2.toNat) else none
def Ve (f : Nat -> Nat) (s : Nat) (row : List Ar) : List Ed := row.filterMap (Vd f s)
def Vf (f : Nat -> Nat) (R : List (List Ar)) (k : Nat) : List Ed := (List.range k).flatMap fun s => Ve f s (R.getD s [])
theorem NQ (f : Nat -> Nat) (s : Nat) (row : List Ar) (a : Ar) : Ve f s (row ++ [a]) = Ve f s row ++ (Vd f s a).toList := by
 unfold Ve
 rw [List.filterMap_append]
 cases h : Vd f s a <;> simp [h]
theorem Jv (f : Nat -> Nat) (R : List (List Ar)) (k : Nat) : Vf f R (k + 1) = Vf f R k ++ Ve f k (R.getD k []) := by simp [Vf, List.range_succ]
theorem Ec {f : Nat -> Nat} {R : List (List Ar)} {k : Nat} {e : Ed} : e ∈ Vf f R k ↔ ∃ s, s < k /\ ∃ a ∈ R.getD s [], a.1 = 0 /\ f s ≠ f a.2.toNat /\ e = (f s, f a.2.toNat) := by
 unfold Vf Ve
 simp only [List.mem_flatMap, List.mem_range, List.mem_filterMap]
 constructor
 rotate_left
 ·rintro ⟨s, hs, a, ha, h1, h2, rfl⟩
  exact ⟨s, hs, a, ha, by unfold Vd; rw [if_pos ⟨h1, h2⟩]⟩
 rintro ⟨s, hs, a, ha, h⟩
 unfold Vd at h
 split at h
 rotate_left
 ·cases h
 rename_i hc
 injection h with h
 exact ⟨s, hs, a, ha, hc.1, hc.2, h.symm⟩
theorem LZ (f : Nat -> Nat) (R : List (List Ar)) : ∀ k, k <= R.length -> (Vf f R k).length <= BP (R.take k) := by
 intro k
 induction k with
 | zero => intro _; simp [Vf, BP]
 | succ k ih =>
  intro hk
  have h1 := ih (by omega)
  have h2 := Cr (R := R) (k := k) hk
  have h3 : R.getD k [] = R[k] := by rw [gE2, gE1 hk]; rfl
  have h4 := List.length_filterMap_le (Vd f k) R[k]
  rw [Jv, List.length_append, h3]
  unfold Ve
  omega
def Vg (E : List Ed) (c : Nat) : Nat := E.countP fun e => e.1 == c
def Vh (n : Nat) (E : List Ed) : List Int := (List.range n).map fun c => (Vg E c : Int)
def Vi (E : List Ed) (t : Nat) : List Nat := (E.filter fun e => e.2 == t).map (·.1)
def Dx (n : Nat) (E : List Ed) : List (List Int) := (List.range n).map fun t => (Vi E t).map Int.ofNat
theorem Fe (n : Nat) (E : List Ed) : (Vh n E).length = n := by simp [Vh]
theorem Gx {n : Nat} {E : List Ed} {c : Nat} (h : c < n) : (Vh n E)[c]? = some (Vg E c : Int) := by simp [Vh, h]
theorem EF (n : Nat) (E : List Ed) : (Dx n E).length = n := by simp [Dx]
theorem Jw {n : Nat} {E : List Ed} {t : Nat} (h : t < n) : (Dx n E)[t]? = some ((Vi E t).map Int.ofNat) := by simp [Dx, h]
theorem NR (E : List Ed) (c t d : Nat) : Vg (E ++ [(c, t)]) d = Vg E d + if c = d then 1 else 0 := by
 unfold Vg
 rw [List.countP_append]
 by_cases h : c = d <;> simp [h]
theorem NS {n : Nat} {E : List Ed} {c t : Nat} (h : c < n) : (Vh n E).set c ((Vg E c : Int) + 1) = Vh n (E ++ [(c, t)]) := by
 refine List.ext_getElem (by simp [Vh]) fun i h1 h2 => ?_
 rw [Fe] at h2
 have e2 : (Vh n (E ++ [(c, t)]))[i]'(by rw [Fe]; exact h2) = (Vg (E ++ [(c, t)]) i : Int) := by simp [Vh]
 rw [e2, NR, List.getElem_set]
 by_cases e : c = i
 ·subst e; simp
 rw [if_neg e, if_neg e]; simp [Vh]
theorem NT (E : List Ed) (c t d : Nat) : Vi (E ++ [(c, t)]) d = Vi E d ++ if t = d then [c] else [] := by
 unfold Vi
 rw [List.filter_append, List.map_append]
 by_cases h : t = d <;> simp [h]
theorem M1 {n : Nat} {E : List Ed} {c t : Nat} (h : t < n) : (Dx n E).set t ((Vi E t).map Int.ofNat ++ [(c : Int)]) = Dx n (E ++ [(c, t)]) := by
 refine List.ext_getElem (by simp [Dx]) fun i h1 h2 => ?_
 rw [EF] at h2
 have e2 : (Dx n (E ++ [(c, t)]))[i]'(by rw [EF]; exact h2) = (Vi (E ++ [(c, t)]) i).map Int.ofNat := by simp [Dx]
 rw [e2, NT, List.getElem_set]
 by_cases e : t = i
 ·subst e; simp
 rw [if_neg e, if_neg e]; simp [Dx]
theorem M2 (E : List Ed) (t : Nat) : (Vi E t).length <= E.length := by
 unfold Vi; rw [List.length_map]; exact List.length_filter_le _ _
theorem OW (E : List Ed) (c : Nat) : Vg E c <= E.length := List.countP_le_length
def Vj (E : List Ed) (P : List Nat) (c : Nat) : Nat := E.countP fun e => e.1 == c && decide (e.2 ∈ P)
theorem OX (E : List Ed) (P : List Nat) (c : Nat) : Vj E P c <= Vg E c := List.countP_mono_left fun e _ h => by simp only [Bool.and_eq_true] at h; exact h.1
theorem Jx {E : List Ed} {P : List Nat} {q : Nat} (h : q ∉ P) (c : Nat) : Vj E (P ++ [q]) c = Vj E P c + (Vi E q).countP (· == c) := by
 unfold Vj Vi
 rw [List.countP_map, List.countP_filter]
 induction E with
 | nil => rfl
 | cons e r ih =>
  simp only [List.countP_cons, ih]
  by_cases h1 : e.1 = c
  rotate_left
  ·simp [h1]
  by_cases h2 : e.2 = q
  rotate_left
  ·by_cases h3 : e.2 ∈ P <;> simp [h1, h2, h3]; omega
  have h3 : e.2 ∉ P := by rw [h2]; exact h
  simp [h1, h2, h]; omega
theorem PY (E : List Ed) (c : Nat) : Vj E [] c = 0 := by simp [Vj]
theorem DQ {γ : Type} {p q : γ -> Bool} : ∀ {l : List γ}, (∀ x ∈ l, p x = true -> q x = true) -> l.countP p = l.countP q -> ∀ x ∈ l, q x = true -> p x = true
 | [], _, _, x, hx, _ => by simp at hx
 | a :: r, h, e, x, hx, hq => by
  have hle := List.countP_mono_left (p := p) (q := q) (l := r) fun y hy => h y (gEf _ hy)
  rw [List.countP_cons, List.countP_cons] at e
  have ha := h a (by simp)
  rcases List.mem_cons.1 hx with rfl | hx
  ·cases hp : p x with
   | true => rfl
   | false => rw [hp, hq] at e; simp at e; omega
  ·refine DQ (fun y hy => h y (gEf _ hy)) ?_ x hx hq
   cases hp : p a with
   | true => rw [hp, ha hp] at e; simp at e; exact e
   | false =>
    rw [hp] at e
    cases hqa : q a with
    | true => rw [hqa] at e; simp at e; omega
    | false => rw [hqa] at e; simpa using e
theorem NU {E : List Ed} {P : List Nat} {c : Nat} (h : Vj E P c = Vg E c) : ∀ e ∈ E, e.1 = c -> e.2 ∈ P := by
 intro e he h1
 have := DQ (p := fun e : Ed => e.1 == c && decide (e.2 ∈ P)) (q := fun e : Ed => e.1 == c) (l := E) (fun x _ hx => by simp only [Bool.and_eq_true] at hx; exact hx.1) h e he (by simpa using h1)
 simp only [Bool.and_eq_true, decide_eq_true_eq] at this
 exact this.2
structure Kh (E : List Ed) (n : Nat) (f : Nat -> Nat) (i m : Nat) (Q : List Nat) (W : List Int) : Prop where
 len : W.length = n
 wt : ∀ c, c < n -> W[c]? = some (((Vg E c : Nat) : Int) - (Vj E (Q.take i) c : Nat) - (((Vi E (Q.getD i 0)).take m).countP (· == c) : Nat))
 nd : Q.Nodup
 rep : ∀ c ∈ Q, c < n /\ f c = c
 zero : ∀ c, c < n -> f c = c -> (c ∈ Q ↔ W[c]? = some 0)
 topo : ∀ (j c : Nat), Q[j]? = some c -> ∀ e ∈ E, e.1 = c -> ∃ j', j' < j /\ Q[j']? = some e.2
section
variable {E : List Ed} {n : Nat} {f : Nat -> Nat} {i m : Nat} {Q : List Nat} {W : List Int}
theorem Kh.qlen (h : Kh E n f i m Q W) : Q.length <= n := by
 have := h.nd.length_le_of_subset (l₂ := List.range n) fun q hq => List.mem_range.2 (h.rep q hq).1
 simpa using this
theorem Kh.step (h : Kh E n f i m Q W) (hi : i < Q.length) (hE : ∀ e ∈ E, e.1 < n /\ f e.1 = e.1) {c : Nat} (hc : (Vi E (Q.getD i 0))[m]? = some c) :
  c < n /\ f c = c /\ ∃ w : Int, W[c]? = some w /\ 1 <= w /\ w <= Vg E c /\ (w ≠ 1 -> Kh E n f i (m + 1) Q (W.set c (w - 1))) /\ (w = 1 -> Kh E n f i (m + 1) (Q ++ [c]) (W.set c (w - 1))) := by
 have hqi : Q[i]? = some (Q.getD i 0) := by rw [gE2, gE1 hi]; rfl
 have hwt := h.wt
 generalize hq : Q.getD i 0 = q at *
 have hmem : c ∈ Vi E q := gE9 hc
 have hce : ∃ e ∈ E, e.2 = q /\ e.1 = c := by
  obtain ⟨e, he, h1⟩ := List.mem_map.1 hmem
  have := List.mem_filter.1 he
  exact ⟨e, this.1, by simpa using this.2, h1⟩
 obtain ⟨e0, he0, he1, he2⟩ := hce
 have hcn := hE e0 he0
 rw [he2] at hcn
 obtain ⟨hc1, hc2⟩ := hcn
 have hml := (List.getElem?_eq_some_iff.1 hc).1
 have hcv := (List.getElem?_eq_some_iff.1 hc).2
 have hqn : q ∉ Q.take i := fun hin => by
  obtain ⟨j, hj, hj2⟩ := List.mem_take_iff_getElem.1 hin
  have hji : j < i := by have := List.length_take_le i Q; omega
  have e1 : Q[j] = Q[i] := by rw [hj2, (List.getElem?_eq_some_iff.1 hqi).2]
  exact List.pairwise_iff_getElem.1 h.nd j i (by omega) hi hji e1
 have htk : Q.take (i + 1) = Q.take i ++ [q] := by rw [gE8 hi, (List.getElem?_eq_some_iff.1 hqi).2]
 have hsn := Jx (E := E) hqn
 have hle := fun d => OX E (Q.take (i + 1)) d
 rw [htk] at hle
 have htm : (Vi E q).take (m + 1) = (Vi E q).take m ++ [c] := by rw [gE8 hml, hcv]
 have hcnt : ∀ d, ((Vi E q).take (m + 1)).countP (· == d) = ((Vi E q).take m).countP (· == d) + if c = d then 1 else 0 := fun d => by
  rw [htm, List.countP_append]
  by_cases e : c = d <;> simp [e]
 have hsub : ∀ d k, ((Vi E q).take k).countP (· == d) <= (Vi E q).countP (· == d) := fun d k => (List.take_sublist k _).countP_le
 have hw := hwt c hc1
 have hb1 := hcnt c
 rw [if_pos rfl] at hb1
 have hb2 := hsub c (m + 1)
 have hb3 := hle c
 rw [hsn] at hb3
 refine ⟨hc1, hc2, _, hw, by omega, by omega, fun hw1 => ?_, fun hw1 => ?_⟩
 ·refine ⟨by simp [h.len], fun d hd => ?_, h.nd, h.rep, fun d hd hd2 => ?_, h.topo⟩
  ·rw [hq, List.getElem?_set, hcnt d]
   by_cases e : c = d
   rotate_left
   ·rw [if_neg e, if_neg e, hwt d hd, Nat.add_zero]
   subst e
   rw [if_pos rfl, if_pos (by rw [h.len]; exact hc1), if_pos rfl]
   congr 1; omega
  rw [List.getElem?_set]
  by_cases e : c = d
  rotate_left
  ·rw [if_neg e]; exact h.zero d hd hd2
  subst e
  rw [if_pos rfl, if_pos (by rw [h.len]; exact hc1), h.zero c hd hd2, hw]
  constructor
  ·intro h0; injection h0 with h0; omega
  intro h0; injection h0 with h0; omega
 have hcq : c ∉ Q := fun hin => by
  have := (h.zero c hc1 hc2).1 hin
  rw [hw] at this
  injection this with this
  omega
 have htk2 : (Q ++ [c]).take i = Q.take i := List.take_append_of_le_length (by omega)
 have hgq : (Q ++ [c]).getD i 0 = q := by rw [gE2, gEa hi, hqi]; rfl
 refine ⟨by simp [h.len], fun d hd => ?_, ?_, fun d hd => ?_, fun d hd hd2 => ?_, fun j d hj e he h1 => ?_⟩
 ·rw [htk2, hgq, List.getElem?_set, hcnt d]
  by_cases e : c = d
  rotate_left
  ·rw [if_neg e, if_neg e, hwt d hd, Nat.add_zero]
  subst e
  rw [if_pos rfl, if_pos (by rw [h.len]; exact hc1), if_pos rfl]
  congr 1; omega
 ·rw [List.nodup_append]
  exact ⟨h.nd, by simp, fun a ha b hb => by simp at hb; subst hb; intro e; subst e; exact hcq ha⟩
 ·rcases List.mem_append.1 hd with h1 | h1
  ·exact h.rep d h1
  simp at h1; subst h1; exact ⟨hc1, hc2⟩
 ·rw [List.getElem?_set, List.mem_append, List.mem_singleton]
  by_cases e : c = d
  rotate_left
  ·rw [if_neg e, <- h.zero d hd hd2]
   exact ⟨fun h1 => h1.elim id fun h2 => absurd h2.symm e, .inl⟩
  subst e
  rw [if_pos rfl, if_pos (by rw [h.len]; exact hc1)]
  exact ⟨fun _ => by congr 1; omega, fun _ => .inr rfl⟩
 rcases Nat.lt_or_ge j Q.length with hl | hl
 ·rw [gEa hl] at hj
  obtain ⟨j', a1, a2⟩ := h.topo j d hj e he h1
  exact ⟨j', a1, by rw [gEa (List.getElem?_eq_some_iff.1 a2).1]; exact a2⟩
 rw [gEb hl] at hj
 have hj0 : j = Q.length := by
  have := (List.getElem?_eq_some_iff.1 hj).1
  simp at this; omega
 subst hj0
 simp at hj
 subst hj
 have hfull : Vj E (Q.take i ++ [q]) c = Vg E c := by rw [hsn]; omega
 have hin := NU hfull e he h1
 rw [<- htk] at hin
 obtain ⟨j', hj', hj2⟩ := List.mem_take_iff_getElem.1 hin
 exact ⟨j', by omega, by rw [gEa (by omega), gE1 (by omega), hj2]⟩
theorem Kh.next (h : Kh E n f i m Q W) (hi : i < Q.length) (hm : (Vi E (Q.getD i 0)).length <= m) : Kh E n f (i + 1) 0 Q W := by
 have hqi : Q[i]? = some (Q.getD i 0) := by rw [gE2, gE1 hi]; rfl
 refine ⟨h.len, fun c hc => ?_, h.nd, h.rep, h.zero, h.topo⟩
 have hqn : Q.getD i 0 ∉ Q.take i := fun hin => by
  obtain ⟨j, hj, hj2⟩ := List.mem_take_iff_getElem.1 hin
  have hji : j < i := by have := List.length_take_le i Q; omega
  have e1 : Q[j] = Q[i] := by rw [hj2, (List.getElem?_eq_some_iff.1 hqi).2]
  exact List.pairwise_iff_getElem.1 h.nd j i (by omega) hi hji e1
 have htk : Q.take (i + 1) = Q.take i ++ [Q.getD i 0] := by rw [gE8 hi, (List.getElem?_eq_some_iff.1 hqi).2]
 rw [h.wt c hc, htk, Jx hqn, gE7 hm]
 congr 1
 simp only [List.take_zero, List.countP_nil]
 omega
end
def Gy (E : List Ed) (n : Nat) (f : Nat -> Nat) (Q : List Nat) : Prop := Q.Nodup /\ (∀ c, c ∈ Q ↔ c < n /\ f c = c) /\ ∀ (j c : Nat), Q[j]? = some c -> ∀ e ∈ E, e.1 = c -> ∃ j', j' < j /\ Q[j']? = some e.2
theorem Kh.done {E : List Ed} {n : Nat} {f : Nat -> Nat} {Q : List Nat} {W : List Int} (h : Kh E n f Q.length 0 Q W) (rk : Nat -> Nat) (hE : ∀ e ∈ E, e.2 < n /\ f e.2 = e.2 /\ rk e.2 < rk e.1) : Gy E n f Q := by
 refine ⟨h.nd, fun c => ⟨h.rep c, ?_⟩, h.topo⟩
 have key : ∀ k c, rk c <= k -> c < n -> f c = c -> c ∈ Q := by
  intro k
  induction k with
  | zero =>
   intro c hk hc hf
   rw [h.zero c hc hf, h.wt c hc, List.take_length]
   have h0 : Vg E c = 0 := by
    unfold Vg
    rw [List.countP_eq_zero]
    intro e he h1
    have := (hE e he).2.2
    have h2 : e.1 = c := by simpa using h1
    rw [h2] at this; omega
   have h1 := OX E Q c
   rw [List.take_zero, List.countP_nil]
   congr 1; omega
  | succ k ih =>
   intro c hk hc hf
   rw [h.zero c hc hf, h.wt c hc, List.take_length]
   have hall : ∀ e ∈ E, e.1 = c -> e.2 ∈ Q := fun e he h1 => by
    obtain ⟨a1, a2, a3⟩ := hE e he
    rw [h1] at a3
    exact ih e.2 (by omega) a1 a2
   have h1 : Vj E Q c = Vg E c := by
    unfold Vj Vg
    refine List.countP_congr fun e he => ?_
    simp only [Bool.and_eq_true, decide_eq_true_eq, beq_iff_eq]
    exact ⟨fun h => h.1, fun h => ⟨h, hall e he h⟩⟩
   rw [h1, List.take_zero, List.countP_nil]
   congr 1; omega
 exact fun ⟨h1, h2⟩ => key _ c (Nat.le_refl _) h1 h2
def Vk (n : Nat) (r : List Ar) : List Ar := r.map fun a => (a.1, a.2 + (n : Int))
def Vl (n : Nat) (R : List (List Ar)) : List (List Ar) := R.map (Vk n)
def Dy (A R : List (List Ar)) : List (List Ar) := A ++ Vl A.length R
theorem Ca (n : Nat) (r : List Ar) : (Vk n r).length = r.length := by simp [Vk]
theorem Gz (n : Nat) (R : List (List Ar)) : (Vl n R).length = R.length := by simp [Vl]
theorem C1 (A R : List (List Ar)) : (Dy A R).length = A.length + R.length := by simp [Dy, Gz]
theorem NV (R : List (List Ar)) : Dy [] R = R := by
 have : Vk 0 = id := by funext r; simp [Vk]
 simp [Dy, Vl, this]
theorem Rq {A R : List (List Ar)} {s : Nat} (h : s < A.length) : (Dy A R).getD s [] = A.getD s [] := by
 rw [gE2, gE2, Dy, gEa h]
theorem Rr (A R : List (List Ar)) (s : Nat) : (Dy A R).getD (A.length + s) [] = Vk A.length (R.getD s []) := by
 rw [gE2, gE2, Dy, gEb (by omega), Nat.add_sub_cancel_left, Vl, List.getElem?_map]
 cases R[s]? <;> simp [Vk]
theorem Rt (n : Nat) (r : List Ar) : Bm true (Vk n r) = Vk n (Bm true r) := by
 simp [Bm, Vk, List.takeWhile_map, Function.comp_def]
theorem Jy {A R : List (List Ar)} {s : Nat} (h : s < A.length) : Uy true (Dy A R) s = Uy true A s := by unfold Uy; rw [Rq h]
theorem Jz {A R : List (List Ar)} (hlo : Br R = true) (s : Nat) : Uy true (Dy A R) (A.length + s) = (Uy true R s).map (A.length + ·) := by
 unfold Uy
 rw [Rr, Rt]
 unfold Vk
 rw [List.map_map, List.map_map]
 refine List.map_congr_left fun a ha => ?_
 have := (Hu hlo (k := s) a ha).1
 simp only [Function.comp_apply]
 omega
theorem HB {A R : List (List Ar)} (hA : ∀ x, x < A.length -> ∀ y ∈ Uy true A x, y < A.length) {s u : Nat} (hs : s < A.length) : Rc (Uy true (Dy A R)) s u ↔ Rc (Uy true A) s u := by
 constructor
 rotate_left
 ·intro h
  induction h with
  | refl => exact .refl _
  | tail h1 h2 ih =>
   refine ih.tail ?_
   rwa [Jy (h1.lt hs hA)]
 intro h
 induction h with
 | refl => exact .refl _
 | tail h1 h2 ih =>
  refine ih.tail ?_
  rwa [Jy (ih.lt hs hA)] at h2
theorem HD {A R : List (List Ar)} (hlo : Br R = true) {s u : Nat} : Rc (Uy true (Dy A R)) (A.length + s) u ↔ ∃ v, u = A.length + v /\ Rc (Uy true R) s v := by
 constructor
 rotate_left
 ·rintro ⟨v, rfl, h⟩
  induction h with
  | refl => exact .refl _
  | tail h1 h2 ih =>
   refine ih.tail ?_
   rw [Jz hlo]
   exact List.mem_map.2 ⟨_, h2, rfl⟩
 intro h
 generalize hx : A.length + s = x at h
 induction h with
 | refl => exact ⟨s, hx.symm, .refl _⟩
 | tail h1 h2 ih =>
  obtain ⟨v, e, h3⟩ := ih
  rw [e, Jz hlo] at h2
  obtain ⟨w, hw, rfl⟩ := List.mem_map.1 h2
  exact ⟨w, rfl, h3.tail hw⟩
theorem Ss {A R : List (List Ar)} (hA : ∀ x, x < A.length -> ∀ y ∈ Uy true A x, y < A.length) {s : Nat} (hs : s < A.length) : Dv (Dy A R) s ↔ Dv A s := by
 constructor
 rotate_left
 ·rintro ⟨g, h1, w, h2, h3⟩
  have hg := h1.lt hs hA
  exact ⟨g, (HB hA hs).2 h1, w, by rwa [Jy hg], (HB hA (hA _ hg _ h2)).2 h3⟩
 rintro ⟨g, h1, w, h2, h3⟩
 rw [HB hA hs] at h1
 have hg := h1.lt hs hA
 rw [Jy hg] at h2
 exact ⟨g, h1, w, h2, (HB hA (hA _ hg _ h2)).1 h3⟩
theorem St {A R : List (List Ar)} (hlo : Br R = true) {s : Nat} : Dv (Dy A R) (A.length + s) ↔ Dv R s := by
 constructor
 rotate_left
 ·rintro ⟨g, h1, w, h2, h3⟩
  refine ⟨A.length + g, (HD hlo).2 ⟨g, rfl, h1⟩, A.length + w, ?_, (HD hlo).2 ⟨g, rfl, h3⟩⟩
  rw [Jz hlo]
  exact List.mem_map.2 ⟨w, h2, rfl⟩
 rintro ⟨g, h1, w, h2, h3⟩
 obtain ⟨g, rfl, p1⟩ := (HD hlo).1 h1
 rw [Jz hlo] at h2
 obtain ⟨w, p2, rfl⟩ := List.mem_map.1 h2
 obtain ⟨g2, e, p3⟩ := (HD hlo).1 h3
 have : g2 = g := by omega
 subst this
 exact ⟨_, p1, w, p2, p3⟩
def CpOk (R : List (List Ar)) (D : List Int) : Prop := D.length = R.length /\ ∀ v, v < R.length -> Least (Uy true R) v (Ux D (-1) v)
theorem M3 {D : List Int} {s : Nat} {x : Int} (h : D[s]? = some x) : Ux D (-1) s = x := by unfold Ux; rw [h]; rfl
theorem CpOk.both {A R : List (List Ar)} {C D : List Int} (hA : ∀ x, x < A.length -> ∀ y ∈ Uy true A x, y < A.length) (hlo : Br R = true) (h1 : CpOk A C) (h2 : CpOk R D) : CpOk (Dy A R) (C ++ D.map (· + (A.length : Int))) := by
 refine ⟨by rw [C1, List.length_append, List.length_map, h1.1, h2.1], fun v hv => ?_⟩
 rw [C1] at hv
 rcases Nat.lt_or_ge v A.length with h | h
 ·have e : Ux (C ++ D.map (· + (A.length : Int))) (-1) v = Ux C (-1) v := by
   unfold Ux; rw [gEa (by rw [h1.1]; exact h)]
  rw [e]
  obtain ⟨m, a1, a2, a3, a4⟩ := h1.2 v h
  have hm := a2.lt h hA
  refine ⟨m, a1, (HB hA h).2 a2, (HB hA hm).2 a3, fun u b1 b2 => ?_⟩
  have b1 := (HB hA h).1 b1
  exact a4 u b1 ((HB hA (b1.lt h hA)).1 b2)
 obtain ⟨s, rfl⟩ : ∃ s, v = A.length + s := ⟨v - A.length, by omega⟩
 have hs : s < R.length := by omega
 obtain ⟨m, a1, a2, a3, a4⟩ := h2.2 s hs
 have hsD : s < D.length := by rw [h2.1]; exact hs
 have e : Ux (C ++ D.map (· + (A.length : Int))) (-1) (A.length + s) = Ux D (-1) s + (A.length : Int) := by
  unfold Ux
  rw [gEb (by rw [h1.1]; omega), h1.1, Nat.add_sub_cancel_left, List.getElem?_map, gE1 hsD]; rfl
 rw [e, a1]
 refine ⟨A.length + m, by omega, (HD hlo).2 ⟨m, rfl, a2⟩, (HD hlo).2 ⟨s, rfl, a3⟩, fun u b1 b2 => ?_⟩
 obtain ⟨u, rfl, p1⟩ := (HD hlo).1 b1
 obtain ⟨s2, e2, p2⟩ := (HD hlo).1 b2
 have : s2 = s := by omega
 subst this
 have := a4 u p1 p2
 omega
theorem DvL.both {A R : List (List Ar)} {B C : List Bool} (hA : ∀ x, x < A.length -> ∀ y ∈ Uy true A x, y < A.length) (hlo : Br R = true) (h1 : DvL A B) (h2 : DvL R C) : DvL (Dy A R) (B ++ C) := by
 refine ⟨by rw [C1, List.length_append, h1.1, h2.1], fun v hv => ?_⟩
 rw [C1] at hv
 rcases Nat.lt_or_ge v A.length with h | h
 ·rw [gE2, gEa (by rw [h1.1]; exact h), <- gE2, h1.2 v h, Ss hA h]
 obtain ⟨s, rfl⟩ : ∃ s, v = A.length + s := ⟨v - A.length, by omega⟩
 rw [gE2, gEb (by rw [h1.1]; omega), h1.1, Nat.add_sub_cancel_left, <- gE2, h2.2 s (by omega), St hlo]
theorem Ff {X : List (List Ar)} (hv : Bg X = true) {n m : Nat} : m ∈ Uy true X n ↔ (0, (m : Int)) ∈ X.getD n [] := by
 rw [<- Rj true hv]
 unfold So Ri
 simp only [List.mem_map, List.mem_filter, Bool.not_true, Bool.false_or, beq_iff_eq]
 constructor
 rotate_left
 ·intro h
  exact ⟨_, ⟨h, rfl⟩, by simp⟩
 rintro ⟨a, ⟨h1, h2⟩, rfl⟩
 have h3 : 0 <= a.2 := by
  rcases Nat.lt_or_ge n X.length with h | h
  rotate_left
  ·rw [gE2, List.getElem?_eq_none h] at h1; simp at h1
  rw [gE2, gE1 h, Option.getD_some] at h1
  have := (gE4 hv).1.2.2.2 _ (gE6 h) a h1
  omega
 have e : ((0 : Int), ((a.2.toNat : Nat) : Int)) = a := by
  rcases a with ⟨x, y⟩
  simp only at h2 h3 ⊢
  rw [h2]; congr 1; omega
 rw [e]; exact h1
def Vm (D : List Int) (v : Nat) : Nat := (D.getD v 0).toNat
theorem Bi {X : List (List Ar)} {D : List Int} (hv : Bg X = true) (h : CpOk X D) {v : Nat} (hs : v < X.length) : D[v]? = some (Vm D v : Int) /\ Vm D v < X.length /\ Rc (Uy true X) v (Vm D v) /\ Rc (Uy true X) (Vm D v) v /\ Vm D (Vm D v) = Vm D v := by
 have hlo : Br X = true := gEg (gE4 hv).1
 have hE := Ce true hlo
 obtain ⟨m, a1, a2, a3, a4⟩ := h.2 v hs
 have hg : D[v]? = some (m : Int) := by
  have : v < D.length := by rw [h.1]; exact hs
  unfold Ux at a1
  rw [gE1 this] at a1 ⊢
  rw [<- a1]; rfl
 have e : Vm D v = m := by unfold Vm; rw [gE2, hg]; rfl
 have hm := a2.lt hs hE
 obtain ⟨m2, b1, b2, b3, b4⟩ := h.2 m hm
 have e2 : Vm D m = m := by
  have hg2 : D[m]? = some (m2 : Int) := by
   have : m < D.length := by rw [h.1]; exact hm
   unfold Ux at b1
   rw [gE1 this] at b1 ⊢
   rw [<- b1]; rfl
  have c1 := a4 m2 (a2.trans b2) (b3.trans a3)
  have c2 := b4 m (.refl _) (.refl _)
  unfold Vm; rw [gE2, hg2]
  show ((m2 : Int)).toNat = m
  omega
 rw [e]
 exact ⟨hg, hm, a2, a3, e2⟩
theorem Ru {X : List (List Ar)} {D : List Int} (hv : Bg X = true) (h : CpOk X D) {v w : Nat} (hs : v < X.length) (h1 : Rc (Uy true X) v w) (h2 : Rc (Uy true X) w v) : Vm D v = Vm D w := by
 have hlo : Br X = true := gEg (gE4 hv).1
 have hw := h1.lt hs (Ce true hlo)
 obtain ⟨m, a1, a2, a3, a4⟩ := h.2 v hs
 obtain ⟨k, b1, b2, b3, b4⟩ := h.2 w hw
 have c1 := a4 k (h1.trans b2) (b3.trans h2)
 have c2 := b4 m (h2.trans a2) (a3.trans h1)
 have d1 : Ux D (-1) v = Ux D (-1) w := by rw [a1, b1]; omega
 have e1 := (Bi hv h hs).1
 have e2 := (Bi hv h hw).1
 rw [M3 e1, M3 e2] at d1
 omega
noncomputable def Vn (X : List (List Ar)) (v : Nat) : Nat := (List.range X.length).countP fun u => @decide (Rc (Uy true X) v u) (Classical.propDecidable _)
theorem HE {γ : Type} {p q : γ -> Bool} : ∀ {l : List γ}, (∀ x ∈ l, p x = true -> q x = true) -> ∀ x ∈ l, q x = true -> p x = false -> l.countP p < l.countP q
 | a :: l, h, x, hx, h1, h2 => by
  have hm : l.countP p <= l.countP q := List.countP_mono_left fun y hy => h y (gEf _ hy)
  have ha := h a List.mem_cons_self
  rw [List.countP_cons, List.countP_cons]
  rcases List.mem_cons.1 hx with rfl | hx
  ·rw [h1, h2]; simp; omega
  ·have ih := HE (fun y hy => h y (gEf _ hy)) x hx h1 h2
   cases hp : p a with
   | false => simp; split <;> omega
   | true => rw [ha hp]; simp; omega
theorem NW {X : List (List Ar)} {D : List Int} (hv : Bg X = true) (h : CpOk X D) : ∀ e ∈ Vf (Vm D) X X.length, (e.1 < X.length /\ Vm D e.1 = e.1) /\ e.2 < X.length /\ Vm D e.2 = e.2 /\ Vn X e.2 < Vn X e.1 := by
 intro e he
 have hlo : Br X = true := gEg (gE4 hv).1
 have hE := Ce true hlo
 obtain ⟨s, hs, a, ha, h0, hne, rfl⟩ := Ec.1 he
 have hg : X.getD s [] = X[s] := by rw [gE2, gE1 hs]; rfl
 rw [hg] at ha
 have hb := (gE4 hlo).2.2.2 _ (gE6 hs) a ha
 have ht : a.2.toNat < X.length := by omega
 have hadj : a.2.toNat ∈ Uy true X s := by
  rw [Ff hv, hg]
  have : ((0 : Int), ((a.2.toNat : Nat) : Int)) = a := by
   rcases a with ⟨x, y⟩
   simp only at h0 hb ⊢
   rw [h0]; congr 1; omega
  rw [this]; exact ha
 obtain ⟨_, p2, p3, p4, p5⟩ := Bi hv h hs
 obtain ⟨_, q2, q3, q4, q5⟩ := Bi hv h ht
 refine ⟨⟨p2, p5⟩, q2, q5, ?_⟩
 have hst : Rc (Uy true X) (Vm D s) (Vm D a.2.toNat) := (p4.trans (.one hadj)).trans q3
 unfold Vn
 refine HE (fun u _ hu => ?_) (Vm D s) (List.mem_range.2 p2) (@decide_eq_true _ (Classical.propDecidable _) (.refl _)) ?_
 ·simp only [decide_eq_true_eq] at hu ⊢
  exact hst.trans hu
 refine @decide_eq_false _ (Classical.propDecidable _) fun hc => hne ?_
 refine Ru hv h hs (.one hadj) ?_
 exact (q3.trans hc).trans p4
theorem M4 {A R : List (List Ar)} (hA : A = [] \/ Bg A = true) (hR : Bg R = true) (h1 : A.length + R.length <= QQ) (h2 : BP A + BP R <= QR) : Bg (Dy A R) = true := by
 have h := gE4 hR
 have hA2 : ∀ r ∈ A, (∀ a ∈ r, 0 <= a.1 /\ a.1 <= 1025 /\ 0 <= a.2 /\ a.2 < (A.length : Int)) /\ SortA r := by
  rcases hA with rfl | hA
  ·intro r hr; simp at hr
  have h3 := gE4 hA
  exact fun r hr => ⟨h3.1.2.2.2 r hr, h3.2 r hr⟩
 refine gEg ⟨⟨by rw [C1]; have := h.1.1; omega, by rw [C1]; exact h1, ?_, fun r hr a ha => ?_⟩, fun r hr => ?_⟩
 ·have : BP (Dy A R) = BP A + BP R := by
   unfold BP Dy Vl
   rw [List.map_append, List.sum_append, List.map_map]
   have : (List.length ∘ Vk A.length) = List.length := by funext r; exact Ca _ r
   rw [this]
  omega
 ·rw [C1]
  rcases List.mem_append.1 hr with h3 | h3
  ·have := (hA2 r h3).1 a ha; omega
  obtain ⟨q, hq, rfl⟩ := List.mem_map.1 h3
  obtain ⟨b, hb, rfl⟩ := List.mem_map.1 ha
  have := h.1.2.2.2 q hq b hb
  simp only
  omega
 rcases List.mem_append.1 hr with h3 | h3
 ·exact (hA2 r h3).2
 obtain ⟨q, hq, rfl⟩ := List.mem_map.1 h3
 have h4 := h.2 q hq
 unfold SortA Vk at *
 rw [List.pairwise_map]
 refine h4.imp fun {a b} hab => ?_
 rw [BA] at hab ⊢
 simp only
 omega
noncomputable def Vo (R : List (List Ar)) (s : Nat) (e : Int) : List Int := rL R.length ((List.range R.length).map fun u => @decide (WA R s e u) (Classical.propDecidable _))
theorem Rv (R : List (List Ar)) (s : Nat) (e : Int) : T8 R s e (Vo R s e) := by
 refine ⟨(List.range R.length).map fun u => @decide (WA R s e u) (Classical.propDecidable _), by simp, rfl, fun u hu => ?_⟩
 unfold Dr
 rw [gE2, List.getElem?_map, List.getElem?_range hu]
 exact @decide_eq_true_iff _ (Classical.propDecidable _)
theorem OY {R : List (List Ar)} (_hlo : Br R = true) {s : Nat} {e : Int} (_hs : s < R.length) : (Vo R s e).length <= R.length /\ ∀ x ∈ Vo R s e, 0 <= x /\ x < (R.length : Int) := ⟨Rm _ _, fun x hx => Sq x hx⟩
noncomputable def Vp (R : List (List Ar)) (s : Nat) (e : Int) : List Ar := (Vo R s e).map fun u => (e, u)
noncomputable def Vq (R : List (List Ar)) (Ev : List Int) (s k : Nat) : List Ar := (Ev.take k).flatMap (Vp R s)
noncomputable def Vr (R : List (List Ar)) (Ev : List Int) (s : Nat) : List Ar := Vq R Ev s Ev.length
noncomputable def Vs (R : List (List Ar)) (Ev : List Int) (k : Nat) : List (List Ar) := (List.range k).map (Vr R Ev)
theorem PZ (R : List (List Ar)) (Ev : List Int) (k : Nat) : (Vs R Ev k).length = k := by simp [Vs]
theorem NX {R : List (List Ar)} {Ev : List Int} {s k : Nat} (h : k < Ev.length) : Vq R Ev s (k + 1) = Vq R Ev s k ++ Vp R s Ev[k] := by
 unfold Vq
 rw [gE8 h, List.flatMap_append]
 simp
theorem Q0 {R : List (List Ar)} (hlo : Br R = true) {Ev : List Int} {s : Nat} (hs : s < R.length) : ∀ k, k <= Ev.length -> (Vq R Ev s k).length <= k * R.length := by
 intro k
 induction k with
 | zero => intro _; simp [Vq]
 | succ k ih =>
  intro hk
  have h1 := ih (by omega)
  have h2 := (OY hlo (e := Ev[k]) hs).1
  rw [NX hk, List.length_append, Vp, List.length_map, Nat.succ_mul]
  omega
noncomputable def BE (R : List (List Ar)) : List (List Ar) := Vs R (V3 R R.length) R.length
theorem GA {R : List (List Ar)} (hv : Bg R = true) (hn : R.length <= 100) : (BE R).length = R.length /\ ∀ r ∈ BE R, r.length <= 1000000 /\ ∀ a ∈ r, 0 <= a.2 /\ a.2 < (R.length : Int) := by
 have hlo : Br R = true := gEg (gE4 hv).1
 have hl : (BE R).length = R.length := PZ _ _ _
 have hev := Ju (R := R) (fun r hr a ha => by have := (gE4 hlo).2.2.2 r hr a ha; omega) R.length (Nat.le_refl _)
 have hevl : (V3 R R.length).length <= 1026 := OR hev.1 (by simpa using hev.2.1)
 refine ⟨hl, fun r hr => ?_⟩
 obtain ⟨s, hs, rfl⟩ := List.mem_map.1 hr
 rw [List.mem_range] at hs
 have h1 := Q0 hlo (Ev := V3 R R.length) hs _ (Nat.le_refl _)
 have h2 : (V3 R R.length).length * R.length <= 1026 * 100 := Nat.mul_le_mul hevl hn
 refine ⟨by unfold Vr; omega, fun a ha => ?_⟩
 unfold Vr Vq at ha
 obtain ⟨e, _, h⟩ := List.mem_flatMap.1 ha
 obtain ⟨x, hx, rfl⟩ := List.mem_map.1 h
 exact (OY hlo hs).2 x hx
def Vu (cl : List Int) (a : Ar) : Option Ar := if a.1 ≠ 0 then some (a.1, cl.getD a.2.toNat 0) else none
def Vv (cl : List Int) (row : List Ar) : List Ar := row.filterMap (Vu cl)
def Vw (cl : List Int) (X : List (List Ar)) (s : Nat) : List Ar := (0, cl.getD s 0) :: Vv cl (X.getD s [])
def Vx (f : Nat -> Nat) (cl : List Int) (X : List (List Ar)) (k c : Nat) : List Ar := ((List.range k).filter fun s => f s == c).flatMap (Vw cl X)
def Vy (f : Nat -> Nat) (cl : List Int) (X : List (List Ar)) (k : Nat) : List (List Ar) := (List.range X.length).map (Vx f cl X k)
theorem Q1 (cl : List Int) (row : List Ar) : (Vv cl row).length <= row.length := List.length_filterMap_le _ _
theorem M5 (f : Nat -> Nat) (cl : List Int) (X : List (List Ar)) (k : Nat) : (Vy f cl X k).length = X.length := by simp [Vy]
theorem Q2 {f : Nat -> Nat} {cl : List Int} {X : List (List Ar)} {k c : Nat} (h : c < X.length) : (Vy f cl X k)[c]? = some (Vx f cl X k c) := by simp [Vy, h]
theorem NY (f : Nat -> Nat) (cl : List Int) (X : List (List Ar)) (k c : Nat) : Vx f cl X (k + 1) c = Vx f cl X k c ++ if f k = c then Vw cl X k else [] := by
 unfold Vx
 rw [List.range_succ, List.filter_append, List.flatMap_append]
 congr 1
 by_cases h : f k = c
 ·simp [h]
 simp [h]
theorem M6 (f : Nat -> Nat) (cl : List Int) (X : List (List Ar)) (c : Nat) : ∀ k, k <= X.length -> (Vx f cl X k c).length <= k + BP (X.take k) := by
 intro k
 induction k with
 | zero => intro _; simp [Vx]
 | succ k ih =>
  intro hk
  have h1 := ih (by omega)
  have h2 := Cr (R := X) (k := k) hk
  have h3 := Q1 cl X[k]
  have h4 : X.getD k [] = X[k] := by rw [gE2, gE1 hk]; rfl
  rw [NY, List.length_append]
  split
  ·unfold Vw; rw [h4, List.length_cons]; omega
  simp; omega
def Vz (E : List Ed) (c : Nat) : List Int := (E.filter fun e => e.1 == c).map fun e => (e.2 : Int)
def VA (n : Nat) (E : List Ed) : List (List Int) := (List.range n).map (Vz E)
theorem Q3 {n : Nat} {E : List Ed} {c : Nat} (h : c < n) : (VA n E)[c]? = some (Vz E c) := by simp [VA, h]
theorem M7 {E : List Ed} {c : Nat} {x : Int} : x ∈ Vz E c ↔ ∃ t : Nat, x = (t : Int) /\ (c, t) ∈ E := by
 unfold Vz
 simp only [List.mem_map, List.mem_filter, beq_iff_eq]
 constructor
 rotate_left
 ·rintro ⟨t, rfl, h⟩
  exact ⟨(c, t), ⟨h, rfl⟩, rfl⟩
 rintro ⟨e, ⟨h1, h2⟩, rfl⟩
 exact ⟨e.2, rfl, by rw [<- h2]; exact h1⟩
def VB (O : List (List Ar)) (nx : List Int) : List Ar := nx.flatMap fun t => O.getD t.toNat []
def VC (N : List (List Int)) (O : List (List Ar)) (c : Nat) : List (List Ar) := O.set c (CI (O.getD c [] ++ VB O (N.getD c [])))
theorem Q4 (N : List (List Int)) (O : List (List Ar)) (c : Nat) : (VC N O c).length = O.length := by simp [VC]
theorem Cu {α : Type} [DecidableEq α] : ∀ {l m : List α}, l.Nodup -> (∀ x ∈ l, x ∈ m) -> l.length <= m.length
 | [], _, _, _ => Nat.zero_le _
 | a :: l, m, h, hs => by
  have h2 := List.nodup_cons.1 h
  have ha := hs a List.mem_cons_self
  have ih := Cu (m := m.erase a) h2.2 fun x hx => (List.mem_erase_of_ne (fun e => h2.1 (by rw [<- e]; exact hx))).2 (hs x (gEf _ hx))
  have h3 := List.length_erase_of_mem ha
  have h4 := List.length_pos_of_mem ha
  simp only [List.length_cons]
  omega
theorem Im {l : List Ar} (h : SortA l) : l.Nodup := h.imp fun {a b} hab => by
 rintro rfl
 rw [E3] at hab; cases hab
def VD (cl : List Int) (X : List (List Ar)) : List Ar := (List.range X.length).flatMap (Vw cl X)
theorem Q5 (cl : List Int) (X : List (List Ar)) : (VD cl X).length <= X.length + BP X := by
 have h : VD cl X = Vx (fun _ => 0) cl X X.length 0 := by
  unfold VD Vx
  rw [List.filter_eq_self.2 (fun _ _ => by simp)]
 rw [h]
 have := M6 (fun _ => 0) cl X 0 X.length (Nat.le_refl _)
 rwa [List.take_length] at this
structure P3 (f : Nat -> Nat) (cl : List Int) (X : List (List Ar)) (Q : List Nat) (i : Nat) (O : List (List Ar)) : Prop where
 len : O.length = X.length
 sz : ∀ c, (O.getD c []).length <= X.length + BP X
 sub : ∀ c, ∀ x ∈ O.getD c [], x ∈ VD cl X
 raw : ∀ c, c < X.length -> c ∉ Q.take i -> O.getD c [] = Vx f cl X X.length c
 don : ∀ c, c ∈ Q.take i -> SortA (O.getD c []) /\ ∀ x, x ∈ O.getD c [] ↔ ∃ s, s < X.length /\ Rc (Uy true X) c s /\ x ∈ Vw cl X s
theorem GB (f : Nat -> Nat) (cl : List Int) (X : List (List Ar)) (k : Nat) {c : Nat} (h : c < X.length) : (Vy f cl X k).getD c [] = Vx f cl X k c := by rw [gE2, Q2 h]; rfl
theorem P3.start (f : Nat -> Nat) (cl : List Int) (X : List (List Ar)) (Q : List Nat) : P3 f cl X Q 0 (Vy f cl X X.length) := by
 have out : ∀ c, ¬ c < X.length -> (Vy f cl X X.length).getD c [] = [] := fun c h => by rw [gE2, List.getElem?_eq_none (by rw [M5]; omega)]; rfl
 refine ⟨M5 _ _ _ _, fun c => ?_, fun c x hx => ?_, fun c hc _ => GB _ _ _ _ hc, fun c hc => by simp at hc⟩
 ·by_cases h : c < X.length
  rotate_left
  ·rw [out c h]; simp
  rw [GB _ _ _ _ h]
  have := M6 f cl X c X.length (Nat.le_refl _)
  rwa [List.take_length] at this
 by_cases h : c < X.length
 rotate_left
 ·rw [out c h] at hx; simp at hx
 rw [GB _ _ _ _ h] at hx
 obtain ⟨s, h1, h2⟩ := List.mem_flatMap.1 hx
 exact List.mem_flatMap.2 ⟨s, (List.mem_filter.1 h1).1, h2⟩
theorem Io {X : List (List Ar)} {D : List Int} (hv : Bg X = true) (h : CpOk X D) {v s : Nat} (hvl : v < X.length) (hr : Rc (Uy true X) v s) : Vm D v = Vm D s \/ ∃ t, (Vm D v, t) ∈ Vf (Vm D) X X.length /\ Rc (Uy true X) t s := by
 have hlo : Br X = true := gEg (gE4 hv).1
 have hE := Ce true hlo
 induction hr with
 | refl => exact .inl rfl
 | @tail u w h1 h2 ih =>
  rcases ih with e | ⟨t, e1, e2⟩
  rotate_left
  ·exact .inr ⟨t, e1, e2.tail h2⟩
  by_cases ew : Vm D u = Vm D w
  ·exact .inl (e.trans ew)
  have hu := h1.lt hvl hE
  have hw := hE _ hu _ h2
  refine .inr ⟨Vm D w, ?_, (Bi hv h hw).2.2.2.1⟩
  rw [Ec]
  rw [Ff hv] at h2
  exact ⟨u, hu, (0, (w : Int)), h2, rfl, by simpa using ew, by rw [e]; simp⟩
theorem Rw {X : List (List Ar)} {D : List Int} (hv : Bg X = true) (h : CpOk X D) {c t : Nat} (he : (c, t) ∈ Vf (Vm D) X X.length) : Rc (Uy true X) c t := by
 have hlo : Br X = true := gEg (gE4 hv).1
 obtain ⟨s, hs, a, ha, h0, hne, e⟩ := Ec.1 he
 cases e
 have hg : X.getD s [] = X[s] := by rw [gE2, gE1 hs]; rfl
 have hb := (gE4 hlo).2.2.2 _ (gE6 hs) a (by rw [<- hg]; exact ha)
 have ht : a.2.toNat < X.length := by omega
 have hadj : a.2.toNat ∈ Uy true X s := by
  rw [Ff hv]
  have : ((0 : Int), ((a.2.toNat : Nat) : Int)) = a := by
   rcases a with ⟨x, y⟩
   simp only at h0 hb ⊢
   rw [h0]; congr 1; omega
  rw [this]; exact ha
 exact ((Bi hv h hs).2.2.2.1.trans (.one hadj)).trans (Bi hv h ht).2.2.1
theorem P3.step {X : List (List Ar)} {D cl : List Int} {Q : List Nat} {O : List (List Ar)} {i : Nat} (hv : Bg X = true) (h : CpOk X D) (hQ : Gy (Vf (Vm D) X X.length) X.length (Vm D) Q) (hP : P3 (Vm D) cl X Q i O) {c : Nat} (hi : Q[i]? = some c) : P3 (Vm D) cl X Q (i + 1) (VC (VA X.length (Vf (Vm D) X X.length)) O c) := by
 have hlo : Br X = true := gEg (gE4 hv).1
 have hE := Ce true hlo
 obtain ⟨hnd, hmem, htop⟩ := hQ
 have hil : i < Q.length := (List.getElem?_eq_some_iff.1 hi).1
 have hcQ : c ∈ Q := gE9 hi
 obtain ⟨hc, hfc⟩ := (hmem c).1 hcQ
 have hcn : c ∉ Q.take i := fun hin => by
  obtain ⟨j, hj, e⟩ := List.mem_take_iff_getElem.1 hin
  have h1 := (List.getElem?_eq_some_iff.1 hi).2
  have h2 : Q[j]'(by omega) = Q[i] := e.trans h1.symm
  have := (List.getElem_inj hnd).1 h2
  omega
 have hsucc : Q.take (i + 1) = Q.take i ++ [c] := by
  rw [gE8 hil, (List.getElem?_eq_some_iff.1 hi).2]
 have hN : (VA X.length (Vf (Vm D) X X.length)).getD c [] = Vz (Vf (Vm D) X X.length) c := by rw [gE2, Q3 hc]; rfl
 have hself : (VC (VA X.length (Vf (Vm D) X X.length)) O c).getD c [] = CI (O.getD c [] ++ VB O (Vz (Vf (Vm D) X X.length) c)) := by
  unfold VC
  rw [hN, gE2, gEc (by rw [hP.len]; exact hc)]; rfl
 have hoth : ∀ d, d ≠ c -> (VC (VA X.length (Vf (Vm D) X X.length)) O c).getD d [] = O.getD d [] := fun d hd => by
  unfold VC
  rw [gE2, gE5 (Ne.symm hd), <- gE2]
 have hin : ∀ x, x ∈ O.getD c [] ++ VB O (Vz (Vf (Vm D) X X.length) c) -> x ∈ VD cl X := fun x hx => by
  rcases List.mem_append.1 hx with hx | hx
  ·exact hP.sub _ _ hx
  obtain ⟨t, _, ht⟩ := List.mem_flatMap.1 hx
  exact hP.sub _ _ ht
 have hmemc : ∀ x, x ∈ O.getD c [] ++ VB O (Vz (Vf (Vm D) X X.length) c) ↔ ∃ s, s < X.length /\ Rc (Uy true X) c s /\ x ∈ Vw cl X s := by
  intro x
  rw [List.mem_append, hP.raw c hc hcn]
  constructor
  rotate_left
  ·rintro ⟨s, hs, h1, h2⟩
   rcases Io hv h hc h1 with e | ⟨t, he, h3⟩
   ·refine .inl (List.mem_flatMap.2 ⟨s, List.mem_filter.2 ⟨by simpa using hs, ?_⟩, h2⟩)
    rw [hfc] at e; simp [e]
   rw [hfc] at he
   refine .inr (List.mem_flatMap.2 ⟨(t : Int), M7.2 ⟨t, rfl, he⟩, ?_⟩)
   simp only [Int.toNat_natCast]
   obtain ⟨j, hj, hjt⟩ := htop i c hi _ he rfl
   have ht : t ∈ Q.take i := by
    rw [List.mem_take_iff_getElem]
    have h5 := List.getElem?_eq_some_iff.1 hjt
    exact ⟨j, by have := h5.1; omega, h5.2⟩
   exact ((hP.don t ht).2 x).2 ⟨s, hs, h3, h2⟩
  rintro (hx | hx)
  ·obtain ⟨s, h1, h2⟩ := List.mem_flatMap.1 hx
   have h3 := List.mem_filter.1 h1
   have hs : s < X.length := by simpa using h3.1
   have hfs : Vm D s = c := by simpa using h3.2
   refine ⟨s, hs, ?_, h2⟩
   rw [<- hfs]; exact (Bi hv h hs).2.2.2.1
  obtain ⟨t, h1, h2⟩ := List.mem_flatMap.1 hx
  obtain ⟨t, rfl, he⟩ := M7.1 h1
  (try simp only [Int.toNat_natCast] at h2)
  obtain ⟨j, hj, hjt⟩ := htop i c hi _ he rfl
  have ht : t ∈ Q.take i := by
   rw [List.mem_take_iff_getElem]
   have h5 := List.getElem?_eq_some_iff.1 hjt
   exact ⟨j, by have := h5.1; omega, h5.2⟩
  obtain ⟨s, hs, h3, h4⟩ := ((hP.don t ht).2 x).1 h2
  exact ⟨s, hs, (Rw hv h he).trans h3, h4⟩
 refine ⟨by rw [Q4, hP.len], fun d => ?_, fun d x hx => ?_, fun d hd hdn => ?_, fun d hd => ?_⟩
 ·by_cases e : d = c
  rotate_left
  ·rw [hoth d e]; exact hP.sz d
  subst e
  rw [hself]
  refine Nat.le_trans (Cu (m := VD cl X) (Im (AD _)) fun x hx => hin x ((C8 _ _).1 hx)) (Q5 cl X)
 ·by_cases e : d = c
  rotate_left
  ·rw [hoth d e] at hx; exact hP.sub d x hx
  subst e
  rw [hself, C8] at hx
  exact hin x hx
 ·rw [hsucc] at hdn
  have e : d ≠ c := fun e => hdn (by rw [e]; simp)
  rw [hoth d e]
  exact hP.raw d hd fun h => hdn (List.mem_append_left _ h)
 rw [hsucc] at hd
 rcases List.mem_append.1 hd with h1 | h1
 ·have e : d ≠ c := fun e => hcn (by rw [<- e]; exact h1)
  rw [hoth d e]
  exact hP.don d h1
 have e : d = c := by simpa using h1
 subst e
 rw [hself]
 exact ⟨AD _, fun x => by rw [C8]; exact hmemc x⟩
theorem P3.done {X : List (List Ar)} {D cl : List Int} {Q : List Nat} {O : List (List Ar)} (hv : Bg X = true) (h : CpOk X D) (hQ : Gy (Vf (Vm D) X X.length) X.length (Vm D) Q) (hP : P3 (Vm D) cl X Q Q.length O) {s : Nat} (hs : s < X.length) : O.getD (Vm D s) [] = UX (Gv X) cl s := by
 obtain ⟨_, p2, p3, p4, p5⟩ := Bi hv h hs
 have hin : Vm D s ∈ Q.take Q.length := by rw [List.take_length]; exact (hQ.2.1 _).2 ⟨p2, p5⟩
 obtain ⟨h1, h2⟩ := hP.don _ hin
 refine BN h1 (AD _) fun x => ?_
 have hE := Ce true (gEg (gE4 hv).1 : Br X = true)
 rw [h2]
 refine Iff.trans ?_ (CS (S := Gv X) (c := cl) (s := s) (x := x)).symm
 constructor
 rotate_left
 ·rintro ⟨a, ha, rfl⟩
  rcases (Gw hv hs).1 ha with ⟨h0, u, e, h3⟩ | ⟨h0, t, h3, h4⟩
  ·have hu := h3.lt hs hE
   refine ⟨u, hu, p4.trans h3, List.mem_cons.2 (.inl ?_)⟩
   rw [h0, e]; simp
  refine ⟨t, h3.lt hs hE, p4.trans h3, gEf _ (List.mem_filterMap.2 ⟨a, h4, ?_⟩)⟩
  unfold Vu
  rw [if_pos h0]
 rintro ⟨u, hu, h3, h4⟩
 have hsu := p3.trans h3
 rcases List.mem_cons.1 h4 with rfl | h4
 ·exact ⟨(0, (u : Int)), (Gw hv hs).2 (.inl ⟨rfl, u, rfl, hsu⟩), by simp⟩
 obtain ⟨a, ha, e⟩ := List.mem_filterMap.1 h4
 unfold Vu at e
 split at e
 rotate_left
 ·cases e
 rename_i h0
 cases e
 exact ⟨a, (Gw hv hs).2 (.inr ⟨h0, u, hsu, ha⟩), rfl⟩
end Go.Proofs.YtjijjfkalheokaaDoor
