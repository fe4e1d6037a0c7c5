/- Lemmas. -/
import Derived.Test.YtjijjfkalheokaaDoorG42
import Derived.Test.YtjijjfkalheokaaDoorG11
import Derived.Test.YtjijjfkalheokaaDoorTj1
namespace Go.Proofs.YtjijjfkalheokaaDoor
set_option linter.unusedVariables false
set_option linter.unusedSimpArgs false
open Go.RowKit
set_option maxRecDepth 100000
attribute [local go_sem] lga C.pl C.one

def UC (B : List Bool) : List C := B.map fun b => C.v (.bool b)
theorem Lu (B : List Bool) : (UC B).length = B.length := by simp [UC]
theorem Lw (B : List Bool) (i : Nat) (b : Bool) : (UC B).set i (.v (.bool b)) = UC (B.set i b) := by simp [UC, List.map_set]
theorem Gp (f : List Nat) (B : List Bool) : (UC B).map (C.ren f) = UC B := by simp [UC, C.ren, Function.comp_def]
def Ri (t : Bool) (r : List Ar) : List Ar := r.filter fun a => !t || a.1 == 0
def So (t : Bool) (R : List (List Ar)) (v : Nat) : List Nat := (Ri t (R.getD v [])).map fun a => a.2.toNat
def Dr (B : List Bool) (u : Nat) : Bool := B.getD u false
structure Rs (E : Nat -> List Nat) (n : Nat) (F : List Nat) (B : List Bool) (Q : List Nat) : Prop where
 len : B.length = n
 snd : ∀ u, Dr B u = true -> ∃ v ∈ F, Rc E v u
 q : ∀ u ∈ Q, u < n /\ ∃ v ∈ F, Rc E v u
 cl : ∀ u, Dr B u = true -> ∀ w ∈ E u, Dr B w = true \/ w ∈ Q
 st : ∀ v ∈ F, Dr B v = true \/ v ∈ Q
variable {E : Nat -> List Nat} {n u : Nat} {F : List Nat} {B : List Bool} {Q : List Nat}
theorem Rs.start (hF : ∀ v ∈ F, v < n) : Rs E n F (List.replicate n false) F := by
 have e : ∀ u, Dr (List.replicate n false) u = false := fun u => by
  unfold Dr; rw [gE2, List.getElem?_replicate]; split <;> rfl
 exact ⟨by simp, fun u h => (by rw [e] at h; cases h), fun u h => ⟨hF u h, u, h, .refl _⟩, fun u h => (by rw [e] at h; cases h), fun v h => .inr h⟩
theorem Rs.done (h : Rs E n F B []) (u : Nat) : Dr B u = true ↔ ∃ v ∈ F, Rc E v u := by
 refine ⟨h.snd u, fun ⟨v, hv, hr⟩ => ?_⟩
 induction hr with
 | refl => exact (h.st v hv).resolve_right (by simp)
 | tail _ he ih => exact (h.cl _ (ih ⟨v, hv, ‹_›⟩) _ he).resolve_right (by simp)
end Go.Proofs.YtjijjfkalheokaaDoor
namespace Go.Proofs.YtjijjfkalheokaaDoor
set_option linter.unusedVariables false
set_option linter.unusedSimpArgs false

def CI (r : List Ar) : List Ar := r.foldl (fun acc a => GR a acc) []
def AP (num old : List Int) (t : Int) : List Int × List Int := if num.getD t.toNat 0 < 0 then (num.set t.toNat old.length, old ++ [t]) else (num, old)
def F9 : List Ar -> List Int -> List Int -> List Ar -> List Int × List Int × List Ar
 | [], num, old, nxt => (num, old, nxt)
 | a :: tl, num, old, nxt => F9 tl (AP num old a.2).1 (AP num old a.2).2 (GR (a.1, (AP num old a.2).1.getD a.2.toNat 0) nxt)
def Hs (rows : List (List Ar)) : Nat -> Nat -> List Int -> List Int -> List (List Ar) -> List (List Ar) × List Int
 | 0, _, _, old, out => (out, old)
 | f + 1, i, num, old, out => match old[i]? with
  | none => (out, old)
  | some s => Hs rows f (i + 1) (F9 (CI (rows.getD s.toNat [])) num old []).1 (F9 (CI (rows.getD s.toNat [])) num old []).2.1 (out ++ [(F9 (CI (rows.getD s.toNat [])) num old []).2.2])
def CG (rows : List (List Ar)) : List (List Ar) × List Int := Hs rows rows.length 0 ((List.replicate rows.length (-1)).set 0 0) [0] []

theorem Gq (r acc : List Ar) (a : Ar) : a ∈ r.foldl (fun acc a => GR a acc) acc ↔ a ∈ acc \/ a ∈ r := by
 induction r generalizing acc with
 | nil => simp
 | cons x xs ih => rw [List.foldl_cons, ih, Gj, List.mem_cons, or_comm (a := a = x), or_assoc]
theorem C8 (r : List Ar) (a : Ar) : a ∈ CI r ↔ a ∈ r := by unfold CI; rw [Gq]; simp
theorem Gr (r acc : List Ar) : (r.foldl (fun acc a => GR a acc) acc).length <= acc.length + r.length := by
 induction r generalizing acc with
 | nil => simp
 | cons x xs ih => rw [List.foldl_cons, List.length_cons]; have := ih (GR x acc); have := Nl x acc; omega
theorem Lx (r : List Ar) : (CI r).length <= r.length := by have := Gr r []; simpa [CI] using this

structure NumOk (n : Nat) (num old : List Int) : Prop where
 len : num.length = n
 rng : ∀ x ∈ num, -1 <= x /\ x < n
 st : ∀ s ∈ old, 0 <= s /\ s < n
 cnt : old.length + num.countP (fun x => decide (x < 0)) = n
theorem K9 {p : Int -> Bool} {l : List Int} {i : Nat} {x y : Int} (h : l[i]? = some x) (hx : p x = true) (hy : p y = false) : (l.set i y).countP p + 1 = l.countP p := by
 induction l generalizing i with
 | nil => simp at h
 | cons z zs ih =>
  cases i with
  | zero => simp at h; subst h; simp [List.countP_cons, hx, hy]
  | succ i =>
   simp only [List.getElem?_cons_succ] at h
   have := ih h
   simp only [List.set_cons_succ, List.countP_cons]
   omega
theorem NumOk.le {n : Nat} {num old : List Int} (h : NumOk n num old) : old.length <= n := by have := h.cnt; omega
theorem NumOk.get {n : Nat} {num old : List Int} (h : NumOk n num old) {t : Int} (h0 : 0 <= t) (h1 : t < n) : ∃ x, num[t.toNat]? = some x /\ num.getD t.toNat 0 = x /\ -1 <= x /\ x < n := by
 have hl : t.toNat < num.length := by rw [h.len]; omega
 exact ⟨num[t.toNat], gE1 hl, by simp [hl], h.rng _ (gE6 hl)⟩
theorem NumOk.one {n : Nat} {num old : List Int} (h : NumOk n num old) {t : Int} (h0 : 0 <= t) (h1 : t < n) : NumOk n (AP num old t).1 (AP num old t).2 := by
 obtain ⟨x, hx, hd, hb⟩ := h.get h0 h1
 unfold AP
 rw [hd]
 split
 rotate_left
 ·exact h
 rename_i hneg
 have hc := K9 (p := fun x => decide (x < 0)) (y := (old.length : Int)) hx (by simpa using hneg) (by simp)
 have hcnt := h.cnt
 refine ⟨by simp [h.len], fun y hy => ?_, fun s hs => ?_, by simp; omega⟩
 ·rcases List.mem_or_eq_of_mem_set hy with hy | hy
  ·exact h.rng y hy
  subst hy; omega
 rcases List.mem_append.1 hs with hs | hs
 ·exact h.st s hs
 simp at hs; subst hs; exact ⟨h0, h1⟩
theorem NumOk.go {n : Nat} : ∀ (r : List Ar) {num old : List Int} (nxt : List Ar), NumOk n num old -> (∀ a ∈ r, 0 <= a.2 /\ a.2 < n) -> NumOk n (F9 r num old nxt).1 (F9 r num old nxt).2.1
 | [], _, _, _, h, _ => h
 | a :: tl, _, _, nxt, h, hr => NumOk.go tl _ (h.one (hr a (by simp)).1 (hr a (by simp)).2) (fun b hb => hr b (gEf _ hb))
theorem NumOk.start {n : Nat} (hn : 0 < n) : NumOk n ((List.replicate n (-1)).set 0 0) [0] := by
 obtain ⟨k, rfl⟩ : ∃ k, n = k + 1 := ⟨n - 1, by omega⟩
 refine ⟨by simp, fun x hx => ?_, fun s hs => ?_, ?_⟩
 rotate_left
 ·simp at hs; subst hs; omega
 ·simp [List.replicate_succ, List.countP_replicate]; omega
 rcases List.mem_or_eq_of_mem_set hx with h | h
 ·rw [(List.mem_replicate.1 h).2]; omega
 subst h; omega


theorem Ka {rows : List (List Ar)} {f i : Nat} {num old : List Int} {out : List (List Ar)} (h : old.length <= i) : Hs rows f i num old out = (out, old) := by
 cases f with
 | zero => rfl
 | succ f => simp [Hs, List.getElem?_eq_none h]
theorem Kb {rows : List (List Ar)} {n i : Nat} {num old : List Int} {out : List (List Ar)} {s : Int} {r : List Ar} (hi : i < n) (hs : old[i]? = some s) (hr : rows[s.toNat]? = some r) {row : List Ar} (hrow : row = CI r) :
  Hs rows (n - i) i num old out = Hs rows (n - (i + 1)) (i + 1) (F9 row num old []).1 (F9 row num old []).2.1 (out ++ [(F9 row num old []).2.2]) := by
 obtain ⟨m, hm⟩ : ∃ m, n - i = m + 1 := ⟨n - i - 1, by omega⟩
 have hm' : n - (i + 1) = m := by omega
 rw [hm, hm', Hs, hs, hrow]
 have : rows.getD s.toNat [] = r := by simp [List.getD, hr]
 simp only [this]

def CP (p : Ar) : List Ar -> List Ar
 | [] => []
 | y :: ys => if y = p then CP p ys else y :: CP y ys
def NB : List Ar -> List Ar
 | [] => []
 | x :: xs => x :: CP x xs


theorem BN : ∀ {l m : List Ar}, SortA l -> SortA m -> (∀ a, a ∈ l ↔ a ∈ m) -> l = m
 | [], [], _, _, _ => rfl
 | [], b :: m, _, _, h => by have := (h b).2 (by simp); simp at this
 | a :: l, [], _, _, h => by have := (h a).1 (by simp); simp at this
 | a :: l, b :: m, hl, hm, h => by
  have hl' := List.pairwise_cons.1 hl
  have hm' := List.pairwise_cons.1 hm
  have hab : a = b := by
   rcases List.mem_cons.1 ((h a).1 (by simp)) with e | e
   ·exact e
   ·rcases List.mem_cons.1 ((h b).2 (by simp)) with e' | e'
    ·exact e'.symm
    ·have h1 := hm'.1 a e
     have h2 := hl'.1 b e'
     rw [BA] at h1 h2; omega
  subst hab
  congr 1
  refine BN hl'.2 hm'.2 fun c => ⟨fun hc => ?_, fun hc => ?_⟩
  ·rcases List.mem_cons.1 ((h c).1 (gEf _ hc)) with e | e
   ·subst e; have := hl'.1 c hc; rw [E3] at this; cases this
   ·exact e
  ·rcases List.mem_cons.1 ((h c).2 (gEf _ hc)) with e | e
   ·subst e; have := hm'.1 c hc; rw [E3] at this; cases this
   ·exact e
def UD (a b : Ar) : Prop := Ut b a = false
theorem Kc (p : Ar) (l : List Ar) (a : Ar) : a ∈ p :: CP p l ↔ a ∈ p :: l := by
 induction l generalizing p with
 | nil => simp [CP]
 | cons y ys ih =>
  unfold CP
  split
  ·rename_i h; subst h; rw [ih]; simp
  have := ih y
  simp only [List.mem_cons] at this ⊢
  rw [this]
theorem Gs (p : Ar) (l : List Ar) (h : (p :: l).Pairwise UD) : SortA (p :: CP p l) := by
 induction l generalizing p with
 | nil => simp [CP, SortA]
 | cons y ys ih =>
  have h1 := List.pairwise_cons.1 h
  have h2 := List.pairwise_cons.1 h1.2
  unfold CP
  split
  ·rename_i e; subst e
   exact ih _ (List.pairwise_cons.2 ⟨fun a ha => h2.1 a ha, h2.2⟩)
  rename_i e
  have hy := ih y h1.2
  refine List.pairwise_cons.2 ⟨fun a ha => ?_, hy⟩
  have hpy : Ut p y = true := by
   have := h1.1 y (by simp)
   rcases Gi p y with h | h | h
   ·exact h
   ·exact absurd h.symm e
   unfold UD at this; rw [h] at this; cases this
  rcases List.mem_cons.1 ha with rfl | ha
  ·exact hpy
  exact Cq hpy ((List.pairwise_cons.1 hy).1 a ha)
theorem AD (r : List Ar) : SortA (CI r) := by
 unfold CI
 have : ∀ (l acc : List Ar), SortA acc -> SortA (l.foldl (fun acc a => GR a acc) acc) := by
  intro l
  induction l with
  | nil => intro acc h; exact h
  | cons x xs ih => intro acc h; exact ih _ (Ld h)
 exact this r [] List.Pairwise.nil
theorem Ly {r q : List Ar} (hp : q.Perm r) (h : q.Pairwise UD) : NB q = CI r := by
 refine BN ?_ (AD r) fun a => ?_
 ·cases q with
  | nil => exact List.Pairwise.nil
  | cons x xs => exact Gs x xs h
 rw [C8, <- hp.mem_iff]
 cases q with
 | nil => simp [NB]
 | cons x xs => exact Kc x xs a
theorem Kd {r q : List Ar} (h : r.Nodup) (hp : q.Perm r) (h1 : q.Pairwise UD) : q = CI r := by
 refine BN ?_ (AD r) fun a => by rw [C8, hp.mem_iff]
 have h2 := hp.symm.nodup h
 refine (List.pairwise_iff_forall_sublist.2 ?_)
 intro a b hab
 have hle := List.pairwise_iff_forall_sublist.1 h1 hab
 have hne := List.pairwise_iff_forall_sublist.1 h2 hab
 rcases Gi a b with h | h | h
 ·exact h
 ·exact absurd h hne
 unfold UD at hle; rw [h] at hle; cases hle
def Ds : List Ar -> List Int -> List Int -> List Int × List Int × List Ar
 | [], num, old => (num, old, [])
 | a :: tl, num, old =>
  ((Ds tl (AP num old a.2).1 (AP num old a.2).2).1, (Ds tl (AP num old a.2).1 (AP num old a.2).2).2.1,
   (a.1, (AP num old a.2).1.getD a.2.toNat 0) :: (Ds tl (AP num old a.2).1 (AP num old a.2).2).2.2)
theorem Ke (r : List Ar) (num old : List Int) (nxt : List Ar) :
  F9 r num old nxt = ((Ds r num old).1, (Ds r num old).2.1, (Ds r num old).2.2.foldl (fun acc a => GR a acc) nxt) := by
 induction r generalizing num old nxt with
 | nil => rfl
 | cons a tl ih => simp only [F9, Ds, ih, List.foldl_cons]
structure NumInj (num old : List Int) : Prop where
 inj : ∀ (t : Nat) (x : Int), num[t]? = some x -> 0 <= x -> old[x.toNat]? = some (t : Int)
theorem NumInj.one {num old : List Int} (h : NumInj num old) {t : Int} (h0 : 0 <= t) (h1 : t < num.length) : NumInj (AP num old t).1 (AP num old t).2 := by
 unfold AP
 split
 rotate_left
 ·exact h
 refine ⟨fun s x hx hp => ?_⟩
 rw [List.getElem?_set] at hx
 split at hx
 ·rename_i hs
  rw [if_pos (by omega)] at hx
  injection hx with hx
  subst hx
  simp
  omega
 have := h.inj s x hx hp
 rw [gEa (List.getElem?_eq_some_iff.1 this).1]
 exact this
theorem FR (num old : List Int) (t : Int) : (AP num old t).1.length = num.length := by unfold AP; split <;> simp
theorem Ic {num old : List Int} {t : Int} {s : Nat} {x : Int} (h0 : 0 <= t) (hx : num[s]? = some x) (hp : 0 <= x) : (AP num old t).1[s]? = some x := by
 unfold AP
 split
 rotate_left
 ·exact hx
 rename_i hneg
 simp only [List.getElem?_set]
 split
 rotate_left
 ·exact hx
 rename_i hs
 subst hs
 simp [List.getD, hx] at hneg
 omega
theorem Lz {num old : List Int} {t : Int} (h0 : 0 <= t) (h1 : t < num.length) : ∃ x, (AP num old t).1[t.toNat]? = some x /\ 0 <= x := by
 unfold AP
 split
 ·exact ⟨_, by rw [List.getElem?_set, if_pos rfl, if_pos (by omega)], by omega⟩
 rename_i hneg
 have hl : t.toNat < num.length := by omega
 refine ⟨num[t.toNat], gE1 hl, ?_⟩
 simpa [List.getD, gE1 hl] using hneg
theorem LA (r : List Ar) {num old : List Int} (hr : ∀ a ∈ r, 0 <= a.2) {s : Nat} {x : Int} (hx : num[s]? = some x) (hp : 0 <= x) : (Ds r num old).1[s]? = some x := by
 induction r generalizing num old with
 | nil => exact hx
 | cons a tl ih => exact ih (fun b hb => hr b (by simp [hb])) (Ic (hr a (by simp)) hx hp)
theorem Je (r : List Ar) {num old : List Int} (hr : ∀ a ∈ r, 0 <= a.2 /\ a.2 < num.length) (h : NumInj num old) : NumInj (Ds r num old).1 (Ds r num old).2.1 := by
 induction r generalizing num old with
 | nil => exact h
 | cons a tl ih =>
  have ha := hr a (by simp)
  exact ih (fun b hb => by rw [FR]; exact hr b (by simp [hb])) (h.one ha.1 ha.2)
theorem NC (r : List Ar) {num old : List Int} (hr : ∀ a ∈ r, 0 <= a.2 /\ a.2 < num.length) :
  (Ds r num old).2.2 = r.map (fun a => (a.1, (Ds r num old).1.getD a.2.toNat 0)) /\ ∀ a ∈ r, ∃ x, (Ds r num old).1[a.2.toNat]? = some x /\ 0 <= x := by
 induction r generalizing num old with
 | nil => exact ⟨rfl, by simp⟩
 | cons a tl ih =>
  have ha := hr a (by simp)
  obtain ⟨i1, i2⟩ := ih (num := (AP num old a.2).1) (old := (AP num old a.2).2) (fun b hb => by rw [FR]; exact hr b (by simp [hb]))
  obtain ⟨x, hx, hp⟩ := Lz (old := old) ha.1 ha.2
  have hk := LA (old := (AP num old a.2).2) tl (fun b hb => (hr b (by simp [hb])).1) hx hp
  refine ⟨?_, fun b hb => ?_⟩
  ·simp only [Ds, List.map_cons]
   congr 1
   simp [List.getD, hx, hk]
  rcases List.mem_cons.1 hb with rfl | hb
  ·exact ⟨x, hk, hp⟩
  exact i2 b hb
theorem Kf (r : List Ar) {num old : List Int} (hs : SortA r) (hr : ∀ a ∈ r, 0 <= a.2 /\ a.2 < num.length) (h : NumInj num old) : (Ds r num old).2.2.Nodup := by
 obtain ⟨h1, h2⟩ := NC (old := old) r hr
 have hi := Je r hr h
 rw [h1, List.Nodup, List.pairwise_map]
 have hnd : r.Pairwise (· ≠ ·) := hs.imp (fun {a b} hab e => by subst e; rw [E3] at hab; cases hab)
 refine hnd.imp_of_mem (fun {a b} ha hb hne e => hne ?_)
 obtain ⟨x, hx, hxp⟩ := h2 a ha
 obtain ⟨y, hy, hyp⟩ := h2 b hb
 have ha' := hr a ha
 have hb' := hr b hb
 simp only [Prod.mk.injEq, List.getD, hx, hy, Option.getD_some] at e
 obtain ⟨e1, e2⟩ := e
 subst e2
 have q1 := hi.inj _ _ hx hxp
 have q2 := hi.inj _ _ hy hxp
 rw [q1] at q2
 injection q2 with q2
 rcases a with ⟨a1, a2⟩
 rcases b with ⟨b1, b2⟩
 simp only at *
 have : a2 = b2 := by omega
 rw [e1, this]
theorem NumInj.start {n : Nat} (hn : 0 < n) : NumInj ((List.replicate n (-1)).set 0 0) [0] := ⟨fun t x hx hp => by
 rw [List.getElem?_set] at hx
 split at hx
 ·rename_i h
  subst h
  simp [hn] at hx
  subst hx; rfl
 ·rw [List.getElem?_replicate] at hx
  split at hx
  ·cases hx; omega
  ·cases hx⟩

theorem ND {tl : List Ar} {num old : List Int} {e x : Int} {tn L : Nat} (hx : num[tn]? = some x) (hneg : x < 0) (hL : old.length = L) :
  Ds ((e, (tn : Int)) :: tl) num old = ((Ds tl (num.set tn L) (old ++ [(tn : Int)])).1, (Ds tl (num.set tn L) (old ++ [(tn : Int)])).2.1, (e, (L : Int)) :: (Ds tl (num.set tn L) (old ++ [(tn : Int)])).2.2) := by
 have hl : tn < num.length := (List.getElem?_eq_some_iff.1 hx).1
 have h1 : AP num old (tn : Int) = (num.set tn L, old ++ [(tn : Int)]) := by
  simp only [AP, Int.toNat_natCast, List.getD, hx, Option.getD_some, if_pos hneg, hL]
 simp only [Ds, h1, Int.toNat_natCast]
 simp [List.getD, hl]
theorem NE {tl : List Ar} {num old : List Int} {e x : Int} {tn : Nat} (hx : num[tn]? = some x) (hpos : ¬ x < 0) :
  Ds ((e, (tn : Int)) :: tl) num old = ((Ds tl num old).1, (Ds tl num old).2.1, (e, x) :: (Ds tl num old).2.2) := by
 have h1 : AP num old (tn : Int) = (num, old) := by
  simp only [AP, Int.toNat_natCast, List.getD, hx, Option.getD_some, if_neg hpos]
 simp only [Ds, h1, Int.toNat_natCast, List.getD, hx, Option.getD_some]
def NL (R : List Int × List Int × List Ar) (ya q : List Ar) (k : Nat) (num old : List Int) : Prop :=
 ya.take k ++ (Ds (q.drop k) num old).2.2 = R.2.2 /\ (Ds (q.drop k) num old).1 = R.1 /\ (Ds (q.drop k) num old).2.1 = R.2.1 /\ ya.drop k = q.drop k
theorem NL.neg {R : List Int × List Int × List Ar} {ya q : List Ar} {k : Nat} {num old : List Int} {e x : Int} {tn L : Nat} (h : NL R ya q k num old) (hk : ya[k]? = some (e, (tn : Int))) (hx : num[tn]? = some x) (hneg : x < 0) (hL : old.length = L) :
  NL R (ya.set k (e, (L : Int))) q (k + 1) (num.set tn L) (old ++ [(tn : Int)]) := by
 obtain ⟨h1, h2, h3, h4⟩ := h
 have hl := (List.getElem?_eq_some_iff.1 hk).1
 have hd : q.drop k = (e, (tn : Int)) :: q.drop (k + 1) := by
  have h5 : ya.drop k = (e, (tn : Int)) :: ya.drop (k + 1) := by
   rw [List.drop_eq_getElem_cons hl]; congr 1
   rw [gE1 hl] at hk; exact Option.some.inj hk
  have h6 := congrArg (List.drop 1) h4
  rw [List.drop_drop, List.drop_drop] at h6
  rw [<- h4, h5, h6]
 rw [hd, ND hx hneg hL] at h1 h2 h3
 refine ⟨?_, h2, h3, ?_⟩
 ·rw [<- h1, List.take_add_one, List.take_set_of_le (Nat.le_refl k)]
  simp [List.getElem?_set, hl]
 rw [List.drop_set, if_pos (by omega)]
 have h6 := congrArg (List.drop 1) h4
 rwa [List.drop_drop, List.drop_drop] at h6
theorem NL.pos {R : List Int × List Int × List Ar} {ya q : List Ar} {k : Nat} {num old : List Int} {e x : Int} {tn : Nat} (h : NL R ya q k num old) (hk : ya[k]? = some (e, (tn : Int))) (hx : num[tn]? = some x) (hpos : ¬ x < 0) :
  NL R (ya.set k (e, x)) q (k + 1) num old := by
 obtain ⟨h1, h2, h3, h4⟩ := h
 have hl := (List.getElem?_eq_some_iff.1 hk).1
 have hd : q.drop k = (e, (tn : Int)) :: q.drop (k + 1) := by
  have h5 : ya.drop k = (e, (tn : Int)) :: ya.drop (k + 1) := by
   rw [List.drop_eq_getElem_cons hl]; congr 1
   rw [gE1 hl] at hk; exact Option.some.inj hk
  have h6 := congrArg (List.drop 1) h4
  rw [List.drop_drop, List.drop_drop] at h6
  rw [<- h4, h5, h6]
 rw [hd, NE hx hpos] at h1 h2 h3
 refine ⟨?_, h2, h3, ?_⟩
 ·rw [<- h1, List.take_add_one, List.take_set_of_le (Nat.le_refl k)]
  simp [List.getElem?_set, hl]
 rw [List.drop_set, if_pos (by omega)]
 have h6 := congrArg (List.drop 1) h4
 rwa [List.drop_drop, List.drop_drop] at h6


def UE (f : Nat -> Nat) (c : Nat) (o : List (List Ar)) (a : Ar) : List (List Ar) := o.set c (o.getD c [] ++ [(a.1, (f a.2.toNat : Int))])
theorem PD (f : Nat -> Nat) (c : Nat) (o : List (List Ar)) (a : Ar) : (UE f c o a).length = o.length := by simp [UE]
theorem Rc.lt {E : Nat -> List Nat} {n u v : Nat} (h : Rc E u v) (hu : u < n) (hE : ∀ x, x < n -> ∀ y ∈ E x, y < n) : v < n := by
 induction h with
 | refl => exact hu
 | tail _ he ih => exact hE _ ih _ he
theorem Ce {R : List (List Ar)} (t : Bool) (hv : Br R = true) : ∀ x, x < R.length -> ∀ y ∈ Uy t R x, y < R.length := by
 intro x hx y hy
 unfold Uy at hy
 rw [gE2, gE1 hx, Option.getD_some] at hy
 obtain ⟨a, ha, rfl⟩ := List.mem_map.1 hy
 have h1 : a ∈ R[x] := by
  unfold Bm at ha
  split at ha
  ·exact (List.takeWhile_sublist _).subset ha
  exact ha
 have h2 := (gE4 hv).2.2.2 _ (gE6 hx) a h1
 omega
def TlP (m : Nat) (o : List (List Ar)) : Prop := ∀ r ∈ o, ∀ a ∈ r, 0 <= a.1 /\ a.1 <= 1025 /\ 0 <= a.2 /\ a.2 < (m : Int)
theorem TlP.one {f : Nat -> Nat} {m c : Nat} {o : List (List Ar)} {a : Ar} (h : TlP m o) (ha : 0 <= a.1 /\ a.1 <= 1025) (hf : f a.2.toNat < m) : TlP m (UE f c o a) := by
 intro r hr b hb
 rcases List.mem_or_eq_of_mem_set hr with h1 | h1
 ·exact h r h1 b hb
 subst h1
 rcases List.mem_append.1 hb with h2 | h2
 rotate_left
 ·simp at h2; subst h2
  exact ⟨ha.1, ha.2, by simp only; omega, by simp only; omega⟩
 rw [gE2] at h2
 rcases Nat.lt_or_ge c o.length with h3 | h3
 rotate_left
 ·rw [List.getElem?_eq_none h3] at h2; simp at h2
 rw [gE1 h3, Option.getD_some] at h2
 exact h _ (gE6 h3) b h2
theorem Kg {r : List Ar} (hs : SortA r) (h0 : ∀ a ∈ r, 0 <= a.1) (t : Bool) : Ri t r = Bm t r := by
 cases t with
 | false => unfold Ri Bm; simp
 | true =>
  unfold Ri Bm
  rw [if_pos rfl]
  simp only [Bool.not_true, Bool.false_or]
  induction r with
  | nil => rfl
  | cons a r ih =>
   have hs2 := List.pairwise_cons.1 hs
   by_cases h : (a.1 == 0) = true
   ·rw [List.filter_cons, if_pos h, List.takeWhile_cons, if_pos h, ih hs2.2 fun b hb => h0 b (gEf _ hb)]
   rw [List.filter_cons, if_neg h, List.takeWhile_cons, if_neg h]
   refine List.filter_eq_nil_iff.2 fun b hb => ?_
   have h1 := hs2.1 b hb
   rw [BA] at h1
   have h2 := h0 a List.mem_cons_self
   have h3 : a.1 ≠ 0 := fun e => h (by simp [e])
   have : b.1 ≠ 0 := by omega
   simpa using this
theorem Rj {R : List (List Ar)} (t : Bool) (hv : Bg R = true) : So t R = Uy t R := by
 funext v
 unfold So Uy
 rcases Nat.lt_or_ge v R.length with h | h
 rotate_left
 ·rw [gE2, List.getElem?_eq_none h, Option.getD_none]
  cases t <;> rfl
 rw [gE2, gE1 h, Option.getD_some]
 have h2 := gE4 hv
 rw [Kg (h2.2 _ (gE6 h)) fun a ha => (h2.1.2.2.2 _ (gE6 h) a ha).1]
theorem Least.uniq {E : Nat -> List Nat} {v : Nat} {x y : Int} (h1 : Least E v x) (h2 : Least E v y) : x = y := by
 obtain ⟨m, a1, a2, a3, a4⟩ := h1
 obtain ⟨k, b1, b2, b3, b4⟩ := h2
 have := a4 k b2 b3
 have := b4 m a2 a3
 omega
open Go.RowKit
set_option maxRecDepth 100000
attribute [local go_sem] lga C.pl C.one
def AG (L : List (List Int)) : List C := L.map fun r => C.o (1, 3) (Af r)
theorem B8 (L : List (List Int)) : (AG L).length = L.length := by simp [AG]
theorem E7 (L : List (List Int)) (i : Nat) (x : List Int) : (AG L).set i (.o (1, 3) (Af x)) = AG (L.set i x) := by simp [AG, List.map_set]
theorem Ct (f : List Nat) (L : List (List Int)) : (AG L).map (C.ren f) = AG L := by simp [AG, C.ren, Function.comp_def]
def RowOk (E : Nat -> List Nat) (n j : Nat) (L : List Int) : Prop := ∃ B : List Bool, B.length = n /\ (∀ u, Dr B u = true ↔ Rc E j u) /\ L = ((List.range n).filter (Dr B)).map Int.ofNat
theorem RowOk.mem {E : Nat -> List Nat} {n j : Nat} {L : List Int} (h : RowOk E n j L) {u : Nat} (hu : u < n) : (u : Int) ∈ L ↔ Rc E j u := by
 obtain ⟨B, _, h2, rfl⟩ := h
 rw [ED, List.mem_filter, List.mem_range, h2]
 exact ⟨fun h => h.2, fun h => ⟨hu, h⟩⟩
theorem RowOk.len {E : Nat -> List Nat} {n j : Nat} {L : List Int} (h : RowOk E n j L) : L.length <= n := by
 obtain ⟨B, _, h2, rfl⟩ := h
 rw [List.length_map]
 have := List.length_filter_le (Dr B) (List.range n)
 simpa using this
def Dv (R : List (List Ar)) (s : Nat) : Prop := ∃ g, Rc (Uy true R) s g /\ ∃ w, w ∈ Uy true R g /\ Rc (Uy true R) w g
def UF (s : Nat) (o : List (List Int)) (a : Ar) : List (List Int) := o.set a.2.toNat (o.getD a.2.toNat [] ++ [(s : Int)])
def D9 (s : Nat) (o : List (List Int)) (row : List Ar) : List (List Int) := row.foldl (UF s) o
def UG (R : List (List Ar)) : Nat -> List (List Int)
 | 0 => List.replicate R.length []
 | k + 1 => D9 k (UG R k) (Bm true (R.getD k []))
def KF (o : List (List Int)) : Nat := (o.map List.length).sum
theorem Id (s : Nat) (o : List (List Int)) (a : Ar) : (UF s o a).length = o.length := by simp [UF]
theorem Ht (s : Nat) (row : List Ar) : ∀ o, (D9 s o row).length = o.length := by
 induction row with
 | nil => intro o; rfl
 | cons a r ih => intro o; show (D9 s (UF s o a) r).length = _; rw [ih, Id]
theorem Fa (R : List (List Ar)) (k : Nat) : (UG R k).length = R.length := by
 induction k with
 | zero => simp [UG]
 | succ k ih => rw [UG, Ht, ih]
theorem Ki (s : Nat) (o : List (List Int)) (row : List Ar) (a : Ar) : D9 s o (row ++ [a]) = UF s (D9 s o row) a := by unfold D9; rw [List.foldl_append]; rfl
theorem NF (o : List (List Int)) {c : Nat} (h : c < o.length) (x : Int) : KF (o.set c (o.getD c [] ++ [x])) = KF o + 1 := by
 induction o generalizing c with
 | nil => simp at h
 | cons y r ih =>
  cases c with
  | zero => simp [KF]; omega
  | succ c =>
   have := ih (c := c) (by simpa using h)
   simp only [List.set_cons_succ, List.getD_cons_succ]
   simp only [KF, List.map_cons, List.sum_cons] at this ⊢
   omega
theorem Jf (o : List (List Int)) (c : Nat) : (o.getD c []).length <= KF o := by
 induction o generalizing c with
 | nil => simp
 | cons y r ih =>
  cases c with
  | zero => simp [KF]
  | succ c =>
   have := ih c
   simp only [List.getD_cons_succ]
   simp only [KF, List.map_cons, List.sum_cons] at this ⊢
   omega
theorem LB (s : Nat) (row : List Ar) : ∀ o : List (List Int), (∀ a ∈ row, a.2.toNat < o.length) -> KF (D9 s o row) = KF o + row.length := by
 induction row with
 | nil => intro o _; rfl
 | cons a r ih =>
  intro o h
  show KF (D9 s (UF s o a) r) = _
  rw [ih _ (by rw [Id]; exact fun b hb => h b (gEf _ hb))]
  unfold UF
  rw [NF o (h a (by simp))]
  simp only [List.length_cons]; omega
theorem PE {s t : Nat} {o : List (List Int)} {a : Ar} {x : Int} (h : a.2.toNat < o.length) : x ∈ (UF s o a).getD t [] ↔ x ∈ o.getD t [] \/ (a.2.toNat = t /\ x = (s : Int)) := by
 unfold UF
 rw [gE2]
 by_cases e : a.2.toNat = t
 rotate_left
 ·rw [gE5 e, <- gE2]
  simp [e]
 subst e
 rw [gEc h, Option.getD_some, List.mem_append]
 simp
theorem LC {s t : Nat} {x : Int} : ∀ (row : List Ar) (o : List (List Int)), (∀ a ∈ row, a.2.toNat < o.length) -> (x ∈ (D9 s o row).getD t [] ↔ x ∈ o.getD t [] \/ (x = (s : Int) /\ t ∈ row.map fun a => a.2.toNat)) := by
 intro row
 induction row with
 | nil => intro o _; simp [D9]
 | cons a r ih =>
  intro o h
  show x ∈ (D9 s (UF s o a) r).getD t [] ↔ _
  rw [ih _ (by rw [Id]; exact fun b hb => h b (gEf _ hb)), PE (h a (by simp))]
  simp only [List.map_cons, List.mem_cons]
  constructor
  rotate_left
  ·rintro (h | ⟨h1, h2 | h2⟩)
   ·exact .inl (.inl h)
   ·exact .inl (.inr ⟨h2.symm, h1⟩)
   exact .inr ⟨h1, h2⟩
  rintro ((h | ⟨h1, h2⟩) | ⟨h1, h2⟩)
  ·exact .inl h
  ·exact .inr ⟨h2, .inl h1.symm⟩
  exact .inr ⟨h1, .inr h2⟩
theorem LD {t : Bool} {r : List Ar} : ∀ a ∈ Bm t r, a ∈ r := fun a ha => by
 unfold Bm at ha
 split at ha
 ·exact (List.takeWhile_sublist _).subset ha
 ·exact ha
theorem Fb (t : Bool) (r : List Ar) : (Bm t r).length <= r.length := by
 unfold Bm
 split
 ·exact (List.takeWhile_sublist _).length_le
 exact Nat.le_refl _
theorem Hu {R : List (List Ar)} (hlo : Br R = true) {k : Nat} : ∀ a ∈ Bm true (R.getD k []), 0 <= a.2 /\ a.2.toNat < R.length := fun a ha => by
 have h1 := LD a ha
 rcases Nat.lt_or_ge k R.length with h | h
 ·rw [gE2, gE1 h] at h1
  have := (gE4 hlo).2.2.2 _ (gE6 h) a h1
  omega
 ·rw [gE2, List.getElem?_eq_none h] at h1; simp at h1
theorem PF {R : List (List Ar)} (hlo : Br R = true) {t : Nat} {x : Int} : ∀ k, x ∈ (UG R k).getD t [] ↔ ∃ s, s < k /\ x = (s : Int) /\ t ∈ Uy true R s := by
 intro k
 induction k with
 | zero =>
  simp only [UG, gE2, List.getElem?_replicate]
  split <;> simp
 | succ k ih =>
  rw [UG, LC _ _ (by rw [Fa]; exact fun a ha => (Hu hlo a ha).2), ih]
  constructor
  ·rintro (⟨s, h1, h2, h3⟩ | ⟨h1, h2⟩)
   ·exact ⟨s, by omega, h2, h3⟩
   exact ⟨k, by omega, h1, h2⟩
  rintro ⟨s, h1, h2, h3⟩
  by_cases e : s = k
  ·subst e; exact .inr ⟨h2, h3⟩
  exact .inl ⟨s, by omega, h2, h3⟩
theorem Jg {R : List (List Ar)} (hlo : Br R = true) : ∀ k, k <= R.length -> KF (UG R k) <= BP (R.take k) := by
 intro k
 induction k with
 | zero => intro _; simp [UG, KF, BP]
 | succ k ih =>
  intro hk
  have h1 := ih (by omega)
  have h2 := Cr (R := R) (k := k) hk
  have h3 := Fb true (R.getD k [])
  have h4 : R.getD k [] = R[k] := by rw [gE2, gE1 hk]; rfl
  rw [UG, LB _ _ _ (by rw [Fa]; exact fun a ha => (Hu hlo a ha).2)]
  rw [h4] at h3 ⊢
  omega
structure Bq (E : Nat -> List Nat) (n : Nat) (G : Nat -> Prop) (O : List Int) (Q : List Nat) : Prop where
 len : O.length = n
 lt : ∀ q ∈ Q, q < n
 nd : Q.Nodup
 iff : ∀ s, s < n -> (0 <= Ux O (-1) s ↔ s ∈ Q)
 hi : ∀ s, Ux O (-1) s <= (Q.length : Int)
 rc : ∀ q ∈ Q, ∃ g, g < n /\ G g /\ Rc E q g
section
variable {E : Nat -> List Nat} {n : Nat} {G : Nat -> Prop} {O : List Int} {Q : List Nat}
theorem Bq.qlen (h : Bq E n G O Q) : Q.length <= n := by
 have := h.nd.length_le_of_subset (l₂ := List.range n) fun q hq => List.mem_range.2 (h.lt q hq)
 simpa using this
theorem Bq.start (E : Nat -> List Nat) (n : Nat) (G : Nat -> Prop) : Bq E n G (List.replicate n (-1)) [] := by
 refine ⟨by simp, by simp, List.nodup_nil, fun s hs => ?_, fun s => ?_, by simp⟩
 ·rw [BB (by simpa using hs)]; simp
 unfold Ux
 rw [List.getElem?_replicate]
 split <;> simp
theorem Bq.push (h : Bq E n G O Q) {s : Nat} (hs : s < n) (hq : s ∉ Q) {v : Int} (h0 : 0 <= v) (h1 : v <= (Q.length : Int) + 1) (hr : ∃ g, g < n /\ G g /\ Rc E s g) : Bq E n G (O.set s v) (Q ++ [s]) := by
 have hl := h.len
 refine ⟨by simp [hl], fun q hq => ?_, ?_, fun t ht => ?_, fun t => ?_, fun q hq => ?_⟩
 rotate_left 4
 ·rcases List.mem_append.1 hq with h2 | h2
  ·exact h.rc q h2
  simp at h2; subst h2; exact hr
 ·rcases List.mem_append.1 hq with h2 | h2
  ·exact h.lt q h2
  simp at h2; subst h2; exact hs
 ·rw [List.nodup_append]
  exact ⟨h.nd, by simp, fun a ha b hb => by simp at hb; subst hb; intro e; subst e; exact hq ha⟩
 ·rw [CO (by omega)]
  unfold upd
  split
  ·rename_i e; subst e; simp [h0]
  rename_i e; rw [h.iff t ht]; simp [e]
 rw [CO (by omega)]
 unfold upd
 simp only [List.length_append, List.length_singleton]
 split
 ·omega
 have := h.hi t; omega
theorem Bq.done (h : Bq E n G O Q) (hE : ∀ x, x < n -> ∀ y ∈ E x, y < n) (hg : ∀ g, g < n -> G g -> g ∈ Q) (hc : ∀ q ∈ Q, ∀ p, p < n -> q ∈ E p -> p ∈ Q) {s : Nat} (hs : s < n) : 0 <= Ux O (-1) s ↔ ∃ g, g < n /\ G g /\ Rc E s g := by
 rw [h.iff s hs]
 constructor
 ·exact h.rc s
 rintro ⟨g, h1, h2, h3⟩
 have key : ∀ x, Rc E s x -> x ∈ Q -> s ∈ Q := by
  intro x hx
  induction hx with
  | refl => exact id
  | tail hv hw ih => exact fun hq => ih (hc _ hq _ (hv.lt hs hE) hw)
 exact key g h3 (hg g h1 h2)
end
def UH (D : List Int) (s : Nat) (row : List Ar) : Bool := row.any fun a => decide (D.getD a.2.toNat 0 = D.getD s 0)
def UI (R : List (List Ar)) (D : List Int) (k : Nat) : List Bool := (List.range k).map fun s => UH D s (Bm true (R.getD s []))
theorem E8 (R : List (List Ar)) (D : List Int) (k : Nat) : (UI R D k).length = k := by simp [UI]
theorem NG (D : List Int) (s : Nat) (row : List Ar) (a : Ar) : UH D s (row ++ [a]) = (UH D s row || decide (D.getD a.2.toNat 0 = D.getD s 0)) := by simp [UH]
theorem LE {R : List (List Ar)} {D : List Int} (hlo : Br R = true) (hD : D.length = R.length) (hL : ∀ v, v < R.length -> Least (Uy true R) v (Ux D (-1) v)) {g : Nat} (hg : g < R.length) : (UI R D R.length).getD g false = true ↔ ∃ w, w ∈ Uy true R g /\ Rc (Uy true R) w g := by
 have e1 : (UI R D R.length).getD g false = UH D g (Bm true (R.getD g [])) := by simp [UI, gE2, hg]
 have hE := Ce true hlo
 have hd : ∀ v, v < R.length -> D.getD v 0 = Ux D (-1) v := fun v hv => by rw [BB (by omega), gE2, gE1 (by omega)]; rfl
 rw [e1]
 unfold UH
 rw [List.any_eq_true]
 simp only [decide_eq_true_eq]
 constructor
 ·rintro ⟨a, ha, e⟩
  have hw : a.2.toNat ∈ Uy true R g := List.mem_map.2 ⟨a, ha, rfl⟩
  have hwl := hE g hg _ hw
  rw [hd _ hwl, hd _ hg] at e
  obtain ⟨x, ex, p1, p2, _⟩ := hL _ hwl
  obtain ⟨y, ey, q1, q2, _⟩ := hL _ hg
  have : x = y := by omega
  subst this
  exact ⟨_, hw, p1.trans q2⟩
 rintro ⟨w, hw, hr⟩
 obtain ⟨a, ha, rfl⟩ := List.mem_map.1 hw
 refine ⟨a, ha, ?_⟩
 have hwl := hE g hg _ hw
 rw [hd _ hwl, hd _ hg]
 obtain ⟨x, ex, p1, p2, p3⟩ := hL _ hwl
 obtain ⟨y, ey, q1, q2, q3⟩ := hL _ hg
 have hgw : Rc (Uy true R) g a.2.toNat := .one hw
 have l1 := p3 y (hr.trans q1) (q2.trans hgw)
 have l2 := q3 x (hgw.trans p1) (p2.trans hr)
 omega
def DvL (R : List (List Ar)) (B : List Bool) : Prop := B.length = R.length /\ ∀ s, s < R.length -> (B.getD s false = true ↔ Dv R s)
theorem DvL.uniq {R : List (List Ar)} {A B : List Bool} (h1 : DvL R A) (h2 : DvL R B) : A = B := by
 refine List.ext_getElem (by rw [h1.1, h2.1]) fun i hi hj => ?_
 have a := h1.2 i (by have := h1.1; omega)
 have b := h2.2 i (by have := h1.1; omega)
 rw [gE2, gE1 hi, Option.getD_some] at a
 rw [gE2, gE1 hj, Option.getD_some] at b
 rw [Bool.eq_iff_iff, a, b]
end Go.Proofs.YtjijjfkalheokaaDoor
