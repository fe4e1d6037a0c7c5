/- Lemmas. -/
import Derived.Test.YthnkailnoobdoaaDoorG67
import Derived.Test.YthnkailnoobdoaaDoorG45
import Derived.Test.YthnkailnoobdoaaDoorOd1
namespace Go.Proofs.YthnkailnoobdoaaDoor
set_option linter.unusedVariables false
set_option linter.unusedSimpArgs false
open Go.RowKit
set_option maxRecDepth 100000
attribute [local go_sem] lga C.pl C.one

def rL (n : Nat) (B : List Bool) : List Int := ((List.range n).filter (DI B)).map Int.ofNat
theorem Sn (n : Nat) (B : List Bool) : (rL n B).length <= n := by
 unfold rL
 rw [List.length_map]
 have := List.length_filter_le (DI B) (List.range n)
 rwa [List.length_range] at this
def Cy (R : List (List Ar)) (s : Nat) : Prop := ∃ w, w ∈ Vo true R s /\ Rc (Vo true R) w s
def CyL (R : List (List Ar)) (k : Nat) (Ls : List Nat) : Prop := Ls.length <= k /\ ∀ g, g ∈ Ls ↔ g < k /\ Cy R g
theorem CyL.yes {R : List (List Ar)} {k : Nat} {Ls : List Nat} (h : CyL R k Ls) (hc : Cy R k) : CyL R (k + 1) (Ls ++ [k]) := by
 refine ⟨by simp only [List.length_append, List.length_singleton]; have := h.1; omega, fun g => ?_⟩
 rw [List.mem_append, h.2, List.mem_singleton]
 constructor
 ·rintro (⟨h1, h2⟩ | rfl)
  ·exact ⟨by omega, h2⟩
  exact ⟨by omega, hc⟩
 rintro ⟨h1, h2⟩
 by_cases e : g = k
 ·exact .inr e
 exact .inl ⟨by omega, h2⟩
def WA (R : List (List Ar)) (s : Nat) (e : Int) (u : Nat) : Prop := (e = 0 /\ Rc (Vo true R) s u) \/ (e ≠ 0 /\ ∃ t, Rc (Vo true R) s t /\ ∃ a ∈ R.getD t [], a.1 = e /\ Rc (Vo true R) a.2.toNat u)
def TY (R : List (List Ar)) (s : Nat) (e : Int) (L : List Int) : Prop := ∃ B : List Bool, B.length = R.length /\ L = rL R.length B /\ ∀ u, u < R.length -> (DI B u = true ↔ WA R s e u)
theorem Tl {n : Nat} {B : List Bool} : ∀ x ∈ rL n B, 0 <= x /\ x < (n : Int) := fun x hx => by
 unfold rL at hx
 obtain ⟨u, hu, rfl⟩ := List.mem_map.1 hx
 have := (List.mem_filter.1 hu).1
 rw [List.mem_range] at this
 simp only [Int.ofNat_eq_natCast]; omega
noncomputable def W6 (R : List (List Ar)) (s : Nat) (e : Int) : List Int := rL R.length ((List.range R.length).map fun u => @decide (WA R s e u) (Classical.propDecidable _))
theorem So (R : List (List Ar)) (s : Nat) (e : Int) : TY R s e (W6 R s e) := by
 refine ⟨(List.range R.length).map fun u => @decide (WA R s e u) (Classical.propDecidable _), by simp, rfl, fun u hu => ?_⟩
 unfold DI
 rw [gE2, List.getElem?_map, List.getElem?_range hu]
 exact @decide_eq_true_iff _ (Classical.propDecidable _)
theorem PK {R : List (List Ar)} (_hlo : Bd R = true) {s : Nat} {e : Int} (_hs : s < R.length) : (W6 R s e).length <= R.length /\ ∀ x ∈ W6 R s e, 0 <= x /\ x < (R.length : Int) := ⟨Sn _ _, fun x hx => Tl x hx⟩
noncomputable def W7 (R : List (List Ar)) (s : Nat) (e : Int) : List Ar := (W6 R s e).map fun u => (e, u)
noncomputable def W8 (R : List (List Ar)) (Ev : List Int) (s k : Nat) : List Ar := (Ev.take k).flatMap (W7 R s)
noncomputable def W9 (R : List (List Ar)) (Ev : List Int) (s : Nat) : List Ar := W8 R Ev s Ev.length
noncomputable def Wa (R : List (List Ar)) (Ev : List Int) (k : Nat) : List (List Ar) := (List.range k).map (W9 R Ev)
theorem QM (R : List (List Ar)) (Ev : List Int) (k : Nat) : (Wa R Ev k).length = k := by simp [Wa]
theorem OC {R : List (List Ar)} {Ev : List Int} {s k : Nat} (h : k < Ev.length) : W8 R Ev s (k + 1) = W8 R Ev s k ++ W7 R s Ev[k] := by
 unfold W8
 rw [gE8 h, List.flatMap_append]
 simp
theorem QN {R : List (List Ar)} (hlo : Bd R = true) {Ev : List Int} {s : Nat} (hs : s < R.length) : ∀ k, k <= Ev.length -> (W8 R Ev s k).length <= k * R.length := by
 intro k
 induction k with
 | zero => intro _; simp [W8]
 | succ k ih =>
  intro hk
  have h1 := ih (by omega)
  have h2 := (PK hlo (e := Ev[k]) hs).1
  rw [OC hk, List.length_append, W7, List.length_map, Nat.succ_mul]
  omega
noncomputable def B1 (R : List (List Ar)) : List (List Ar) := Wa R (VG R R.length) R.length
theorem DX {R : List (List Ar)} (hv : AR R = true) (hn : R.length <= 100) : (B1 R).length = R.length /\ ∀ r ∈ B1 R, r.length <= 1000000 /\ ∀ a ∈ r, 0 <= a.2 /\ a.2 < (R.length : Int) := by
 have hlo : Bd R = true := gEg (gE4 hv).1
 have hl : (B1 R).length = R.length := QM _ _ _
 have hev := JX (R := R) (fun r hr a ha => by have := (gE4 hlo).2.2.2 r hr a ha; omega) R.length (Nat.le_refl _)
 have hevl : (VG R R.length).length <= 1026 := PE hev.1 (by simpa using hev.2.1)
 refine ⟨hl, fun r hr => ?_⟩
 obtain ⟨s, hs, rfl⟩ := List.mem_map.1 hr
 rw [List.mem_range] at hs
 have h1 := QN hlo (Ev := VG R R.length) hs _ (Nat.le_refl _)
 have h2 : (VG R R.length).length * R.length <= 1026 * 100 := Nat.mul_le_mul hevl hn
 refine ⟨by unfold W9; omega, fun a ha => ?_⟩
 unfold W9 W8 at ha
 obtain ⟨e, _, h⟩ := List.mem_flatMap.1 ha
 obtain ⟨x, hx, rfl⟩ := List.mem_map.1 h
 exact (PK hlo hs).2 x hx
def Wb (cl : List Int) (a : Ar) : Option Ar := if a.1 ≠ 0 then some (a.1, cl.getD a.2.toNat 0) else none
def Wc (cl : List Int) (row : List Ar) : List Ar := row.filterMap (Wb cl)
def Wd (cl : List Int) (X : List (List Ar)) (s : Nat) : List Ar := (0, cl.getD s 0) :: Wc cl (X.getD s [])
def We (f : Nat -> Nat) (cl : List Int) (X : List (List Ar)) (k c : Nat) : List Ar := ((List.range k).filter fun s => f s == c).flatMap (Wd cl X)
def Wf (f : Nat -> Nat) (cl : List Int) (X : List (List Ar)) (k : Nat) : List (List Ar) := (List.range X.length).map (We f cl X k)
theorem QO (cl : List Int) (row : List Ar) : (Wc cl row).length <= row.length := List.length_filterMap_le _ _
theorem My (f : Nat -> Nat) (cl : List Int) (X : List (List Ar)) (k : Nat) : (Wf f cl X k).length = X.length := by simp [Wf]
theorem QP {f : Nat -> Nat} {cl : List Int} {X : List (List Ar)} {k c : Nat} (h : c < X.length) : (Wf f cl X k)[c]? = some (We f cl X k c) := by simp [Wf, h]
theorem OD (f : Nat -> Nat) (cl : List Int) (X : List (List Ar)) (k c : Nat) : We f cl X (k + 1) c = We f cl X k c ++ if f k = c then Wd cl X k else [] := by
 unfold We
 rw [List.range_succ, List.filter_append, List.flatMap_append]
 congr 1
 by_cases h : f k = c
 ·simp [h]
 simp [h]
theorem Mz (f : Nat -> Nat) (cl : List Int) (X : List (List Ar)) (c : Nat) : ∀ k, k <= X.length -> (We f cl X k c).length <= k + AA (X.take k) := by
 intro k
 induction k with
 | zero => intro _; simp [We]
 | succ k ih =>
  intro hk
  have h1 := ih (by omega)
  have h2 := Cb (R := X) (k := k) hk
  have h3 := QO cl X[k]
  have h4 : X.getD k [] = X[k] := by rw [gE2, gE1 hk]; rfl
  rw [OD, List.length_append]
  split
  ·unfold Wd; rw [h4, List.length_cons]; omega
  simp; omega
def Wg (E : List Ed) (c : Nat) : List Int := (E.filter fun e => e.1 == c).map fun e => (e.2 : Int)
def Wh (n : Nat) (E : List Ed) : List (List Int) := (List.range n).map (Wg E)
theorem QQ {n : Nat} {E : List Ed} {c : Nat} (h : c < n) : (Wh n E)[c]? = some (Wg E c) := by simp [Wh, h]
theorem MA {E : List Ed} {c : Nat} {x : Int} : x ∈ Wg E c ↔ ∃ t : Nat, x = (t : Int) /\ (c, t) ∈ E := by
 unfold Wg
 simp only [List.mem_map, List.mem_filter, beq_iff_eq]
 constructor
 rotate_left
 ·rintro ⟨t, rfl, h⟩
  exact ⟨(c, t), ⟨h, rfl⟩, rfl⟩
 rintro ⟨e, ⟨h1, h2⟩, rfl⟩
 exact ⟨e.2, rfl, by rw [<- h2]; exact h1⟩
def Wi (O : List (List Ar)) (nx : List Int) : List Ar := nx.flatMap fun t => O.getD t.toNat []
def Wj (N : List (List Int)) (O : List (List Ar)) (c : Nat) : List (List Ar) := O.set c (Bj (O.getD c [] ++ Wi O (N.getD c [])))
theorem QR (N : List (List Int)) (O : List (List Ar)) (c : Nat) : (Wj N O c).length = O.length := by simp [Wj]
theorem CP {α : Type} [DecidableEq α] : ∀ {l m : List α}, l.Nodup -> (∀ x ∈ l, x ∈ m) -> l.length <= m.length
 | [], _, _, _ => Nat.zero_le _
 | a :: l, m, h, hs => by
  have h2 := List.nodup_cons.1 h
  have ha := hs a List.mem_cons_self
  have ih := CP (m := m.erase a) h2.2 fun x hx => (List.mem_erase_of_ne (fun e => h2.1 (by rw [<- e]; exact hx))).2 (hs x (gEf _ hx))
  have h3 := List.length_erase_of_mem ha
  have h4 := List.length_pos_of_mem ha
  simp only [List.length_cons]
  omega
theorem J0 {l : List Ar} (h : SortA l) : l.Nodup := h.imp fun {a b} hab => by
 rintro rfl
 rw [Ey] at hab; cases hab
def Wk (cl : List Int) (X : List (List Ar)) : List Ar := (List.range X.length).flatMap (Wd cl X)
theorem QS (cl : List Int) (X : List (List Ar)) : (Wk cl X).length <= X.length + AA X := by
 have h : Wk cl X = We (fun _ => 0) cl X X.length 0 := by
  unfold Wk We
  rw [List.filter_eq_self.2 (fun _ _ => by simp)]
 rw [h]
 have := Mz (fun _ => 0) cl X 0 X.length (Nat.le_refl _)
 rwa [List.take_length] at this
structure P3 (f : Nat -> Nat) (cl : List Int) (X : List (List Ar)) (Q : List Nat) (i : Nat) (O : List (List Ar)) : Prop where
 len : O.length = X.length
 sz : ∀ c, (O.getD c []).length <= X.length + AA X
 sub : ∀ c, ∀ x ∈ O.getD c [], x ∈ Wk cl X
 raw : ∀ c, c < X.length -> c ∉ Q.take i -> O.getD c [] = We f cl X X.length c
 don : ∀ c, c ∈ Q.take i -> SortA (O.getD c []) /\ ∀ x, x ∈ O.getD c [] ↔ ∃ s, s < X.length /\ Rc (Vo true X) c s /\ x ∈ Wd cl X s
theorem He (f : Nat -> Nat) (cl : List Int) (X : List (List Ar)) (k : Nat) {c : Nat} (h : c < X.length) : (Wf f cl X k).getD c [] = We f cl X k c := by rw [gE2, QP h]; rfl
theorem P3.start (f : Nat -> Nat) (cl : List Int) (X : List (List Ar)) (Q : List Nat) : P3 f cl X Q 0 (Wf f cl X X.length) := by
 have out : ∀ c, ¬ c < X.length -> (Wf f cl X X.length).getD c [] = [] := fun c h => by rw [gE2, List.getElem?_eq_none (by rw [My]; omega)]; rfl
 refine ⟨My _ _ _ _, fun c => ?_, fun c x hx => ?_, fun c hc _ => He _ _ _ _ hc, fun c hc => by simp at hc⟩
 ·by_cases h : c < X.length
  rotate_left
  ·rw [out c h]; simp
  rw [He _ _ _ _ h]
  have := Mz f cl X c X.length (Nat.le_refl _)
  rwa [List.take_length] at this
 by_cases h : c < X.length
 rotate_left
 ·rw [out c h] at hx; simp at hx
 rw [He _ _ _ _ h] at hx
 obtain ⟨s, h1, h2⟩ := List.mem_flatMap.1 hx
 exact List.mem_flatMap.2 ⟨s, (List.mem_filter.1 h1).1, h2⟩
theorem J1 {X : List (List Ar)} {D : List Int} (hv : AR X = true) (h : CpOk X D) {v s : Nat} (hvl : v < X.length) (hr : Rc (Vo true X) v s) : VZ D v = VZ D s \/ ∃ t, (VZ D v, t) ∈ VS (VZ D) X X.length /\ Rc (Vo true X) t s := by
 have hlo : Bd X = true := gEg (gE4 hv).1
 have hE := Bv true hlo
 induction hr with
 | refl => exact .inl rfl
 | @tail u w h1 h2 ih =>
  rcases ih with e | ⟨t, e1, e2⟩
  rotate_left
  ·exact .inr ⟨t, e1, e2.tail h2⟩
  by_cases ew : VZ D u = VZ D w
  ·exact .inl (e.trans ew)
  have hu := h1.lt hvl hE
  have hw := hE _ hu _ h2
  refine .inr ⟨VZ D w, ?_, (Bx hv h hw).2.2.2.1⟩
  rw [EH]
  rw [Cq hv] at h2
  exact ⟨u, hu, (0, (w : Int)), h2, rfl, by simpa using ew, by rw [e]; simp⟩
theorem Sp {X : List (List Ar)} {D : List Int} (hv : AR X = true) (h : CpOk X D) {c t : Nat} (he : (c, t) ∈ VS (VZ D) X X.length) : Rc (Vo true X) c t := by
 have hlo : Bd X = true := gEg (gE4 hv).1
 obtain ⟨s, hs, a, ha, h0, hne, e⟩ := EH.1 he
 cases e
 have hg : X.getD s [] = X[s] := by rw [gE2, gE1 hs]; rfl
 have hb := (gE4 hlo).2.2.2 _ (gE6 hs) a (by rw [<- hg]; exact ha)
 have ht : a.2.toNat < X.length := by omega
 have hadj : a.2.toNat ∈ Vo true X s := by
  rw [Cq hv]
  have : ((0 : Int), ((a.2.toNat : Nat) : Int)) = a := by
   rcases a with ⟨x, y⟩
   simp only at h0 hb ⊢
   rw [h0]; congr 1; omega
  rw [this]; exact ha
 exact ((Bx hv h hs).2.2.2.1.trans (.one hadj)).trans (Bx hv h ht).2.2.1
theorem P3.step {X : List (List Ar)} {D cl : List Int} {Q : List Nat} {O : List (List Ar)} {i : Nat} (hv : AR X = true) (h : CpOk X D) (hQ : Ha (VS (VZ D) X X.length) X.length (VZ D) Q) (hP : P3 (VZ D) cl X Q i O) {c : Nat} (hi : Q[i]? = some c) : P3 (VZ D) cl X Q (i + 1) (Wj (Wh X.length (VS (VZ D) X X.length)) O c) := by
 have hlo : Bd X = true := gEg (gE4 hv).1
 have hE := Bv true hlo
 obtain ⟨hnd, hmem, htop⟩ := hQ
 have hil : i < Q.length := (List.getElem?_eq_some_iff.1 hi).1
 have hcQ : c ∈ Q := gE9 hi
 obtain ⟨hc, hfc⟩ := (hmem c).1 hcQ
 have hcn : c ∉ Q.take i := fun hin => by
  obtain ⟨j, hj, e⟩ := List.mem_take_iff_getElem.1 hin
  have h1 := (List.getElem?_eq_some_iff.1 hi).2
  have h2 : Q[j]'(by omega) = Q[i] := e.trans h1.symm
  have := (List.getElem_inj hnd).1 h2
  omega
 have hsucc : Q.take (i + 1) = Q.take i ++ [c] := by
  rw [gE8 hil, (List.getElem?_eq_some_iff.1 hi).2]
 have hN : (Wh X.length (VS (VZ D) X X.length)).getD c [] = Wg (VS (VZ D) X X.length) c := by rw [gE2, QQ hc]; rfl
 have hself : (Wj (Wh X.length (VS (VZ D) X X.length)) O c).getD c [] = Bj (O.getD c [] ++ Wi O (Wg (VS (VZ D) X X.length) c)) := by
  unfold Wj
  rw [hN, gE2, gEc (by rw [hP.len]; exact hc)]; rfl
 have hoth : ∀ d, d ≠ c -> (Wj (Wh X.length (VS (VZ D) X X.length)) O c).getD d [] = O.getD d [] := fun d hd => by
  unfold Wj
  rw [gE2, gE5 (Ne.symm hd), <- gE2]
 have hin : ∀ x, x ∈ O.getD c [] ++ Wi O (Wg (VS (VZ D) X X.length) c) -> x ∈ Wk cl X := fun x hx => by
  rcases List.mem_append.1 hx with hx | hx
  ·exact hP.sub _ _ hx
  obtain ⟨t, _, ht⟩ := List.mem_flatMap.1 hx
  exact hP.sub _ _ ht
 have hmemc : ∀ x, x ∈ O.getD c [] ++ Wi O (Wg (VS (VZ D) X X.length) c) ↔ ∃ s, s < X.length /\ Rc (Vo true X) c s /\ x ∈ Wd cl X s := by
  intro x
  rw [List.mem_append, hP.raw c hc hcn]
  constructor
  rotate_left
  ·rintro ⟨s, hs, h1, h2⟩
   rcases J1 hv h hc h1 with e | ⟨t, he, h3⟩
   ·refine .inl (List.mem_flatMap.2 ⟨s, List.mem_filter.2 ⟨by simpa using hs, ?_⟩, h2⟩)
    rw [hfc] at e; simp [e]
   rw [hfc] at he
   refine .inr (List.mem_flatMap.2 ⟨(t : Int), MA.2 ⟨t, rfl, he⟩, ?_⟩)
   simp only [Int.toNat_natCast]
   obtain ⟨j, hj, hjt⟩ := htop i c hi _ he rfl
   have ht : t ∈ Q.take i := by
    rw [List.mem_take_iff_getElem]
    have h5 := List.getElem?_eq_some_iff.1 hjt
    exact ⟨j, by have := h5.1; omega, h5.2⟩
   exact ((hP.don t ht).2 x).2 ⟨s, hs, h3, h2⟩
  rintro (hx | hx)
  ·obtain ⟨s, h1, h2⟩ := List.mem_flatMap.1 hx
   have h3 := List.mem_filter.1 h1
   have hs : s < X.length := by simpa using h3.1
   have hfs : VZ D s = c := by simpa using h3.2
   refine ⟨s, hs, ?_, h2⟩
   rw [<- hfs]; exact (Bx hv h hs).2.2.2.1
  obtain ⟨t, h1, h2⟩ := List.mem_flatMap.1 hx
  obtain ⟨t, rfl, he⟩ := MA.1 h1
  (try simp only [Int.toNat_natCast] at h2)
  obtain ⟨j, hj, hjt⟩ := htop i c hi _ he rfl
  have ht : t ∈ Q.take i := by
   rw [List.mem_take_iff_getElem]
   have h5 := List.getElem?_eq_some_iff.1 hjt
   exact ⟨j, by have := h5.1; omega, h5.2⟩
  obtain ⟨s, hs, h3, h4⟩ := ((hP.don t ht).2 x).1 h2
  exact ⟨s, hs, (Sp hv h he).trans h3, h4⟩
 refine ⟨by rw [QR, hP.len], fun d => ?_, fun d x hx => ?_, fun d hd hdn => ?_, fun d hd => ?_⟩
 ·by_cases e : d = c
  rotate_left
  ·rw [hoth d e]; exact hP.sz d
  subst e
  rw [hself]
  refine Nat.le_trans (CP (m := Wk cl X) (J0 (Ay _)) fun x hx => hin x ((B0 _ _).1 hx)) (QS cl X)
 ·by_cases e : d = c
  rotate_left
  ·rw [hoth d e] at hx; exact hP.sub d x hx
  subst e
  rw [hself, B0] at hx
  exact hin x hx
 ·rw [hsucc] at hdn
  have e : d ≠ c := fun e => hdn (by rw [e]; simp)
  rw [hoth d e]
  exact hP.raw d hd fun h => hdn (List.mem_append_left _ h)
 rw [hsucc] at hd
 rcases List.mem_append.1 hd with h1 | h1
 ·have e : d ≠ c := fun e => hcn (by rw [<- e]; exact h1)
  rw [hoth d e]
  exact hP.don d h1
 have e : d = c := by simpa using h1
 subst e
 rw [hself]
 exact ⟨Ay _, fun x => by rw [B0]; exact hmemc x⟩
theorem P3.done {X : List (List Ar)} {D cl : List Int} {Q : List Nat} {O : List (List Ar)} (hv : AR X = true) (h : CpOk X D) (hQ : Ha (VS (VZ D) X X.length) X.length (VZ D) Q) (hP : P3 (VZ D) cl X Q Q.length O) {s : Nat} (hs : s < X.length) : O.getD (VZ D s) [] = Vg (CU X) cl s := by
 obtain ⟨_, p2, p3, p4, p5⟩ := Bx hv h hs
 have hin : VZ D s ∈ Q.take Q.length := by rw [List.take_length]; exact (hQ.2.1 _).2 ⟨p2, p5⟩
 obtain ⟨h1, h2⟩ := hP.don _ hin
 refine BQ h1 (Ay _) fun x => ?_
 have hE := Bv true (gEg (gE4 hv).1 : Bd X = true)
 rw [h2]
 refine Iff.trans ?_ (Dj (S := CU X) (c := cl) (s := s) (x := x)).symm
 constructor
 rotate_left
 ·rintro ⟨a, ha, rfl⟩
  rcases (Ci hv hs).1 ha with ⟨h0, u, e, h3⟩ | ⟨h0, t, h3, h4⟩
  ·have hu := h3.lt hs hE
   refine ⟨u, hu, p4.trans h3, List.mem_cons.2 (.inl ?_)⟩
   rw [h0, e]; simp
  refine ⟨t, h3.lt hs hE, p4.trans h3, gEf _ (List.mem_filterMap.2 ⟨a, h4, ?_⟩)⟩
  unfold Wb
  rw [if_pos h0]
 rintro ⟨u, hu, h3, h4⟩
 have hsu := p3.trans h3
 rcases List.mem_cons.1 h4 with rfl | h4
 ·exact ⟨(0, (u : Int)), (Ci hv hs).2 (.inl ⟨rfl, u, rfl, hsu⟩), by simp⟩
 obtain ⟨a, ha, e⟩ := List.mem_filterMap.1 h4
 unfold Wb at e
 split at e
 rotate_left
 ·cases e
 rename_i h0
 cases e
 exact ⟨a, (Ci hv hs).2 (.inr ⟨h0, u, hsu, ha⟩), rfl⟩
end Go.Proofs.YthnkailnoobdoaaDoor
