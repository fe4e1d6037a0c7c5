/- Lemmas. -/
import Derived.Test.YthnkailnoobdoaaGreatDoorG67
import Derived.Test.YthnkailnoobdoaaGreatDoorG45
import Derived.Test.YthnkailnoobdoaaGreatDoorMF
import Derived.Lib.TrailingZeros
import Derived.Test.YthnkailnoobdoaaGreatDoorG53
namespace Go.Proofs.YthnkailnoobdoaaGreatDoor
set_option linter.unusedVariables false
set_option linter.unusedSimpArgs false
open Go.RowKit
set_option maxRecDepth 100000
attribute [local go_sem] lga C.pl C.one

def rL (n : Nat) (B : List Bool) : List Int := ((List.range n).filter (BH B)).map Int.ofNat
theorem KP (n : Nat) (B : List Bool) : (rL n B).length <= n := by
 unfold rL
 rw [List.length_map]
 have := List.length_filter_le (BH B) (List.range n)
 rwa [List.length_range] at this
def Cy (R : List (List Ar)) (s : Nat) : Prop := ∃ w, w ∈ WG true R s /\ Rc (WG true R) w s
def CyL (R : List (List Ar)) (k : Nat) (Ls : List Nat) : Prop := Ls.length <= k /\ ∀ g, g ∈ Ls ↔ g < k /\ Cy R g
theorem CyL.yes {R : List (List Ar)} {k : Nat} {Ls : List Nat} (h : CyL R k Ls) (hc : Cy R k) : CyL R (k + 1) (Ls ++ [k]) := by
 refine ⟨by simp only [List.length_append, List.length_singleton]; have := h.1; omega, fun g => ?_⟩
 rw [List.mem_append, h.2, List.mem_singleton]
 constructor
 ·rintro (⟨h1, h2⟩ | rfl)
  ·exact ⟨by omega, h2⟩
  exact ⟨by omega, hc⟩
 rintro ⟨h1, h2⟩
 by_cases e : g = k
 ·exact .inr e
 exact .inl ⟨by omega, h2⟩
def WA (R : List (List Ar)) (s : Nat) (e : Int) (u : Nat) : Prop := (e = 0 /\ Rc (WG true R) s u) \/ (e ≠ 0 /\ ∃ t, Rc (WG true R) s t /\ ∃ a ∈ R.getD t [], a.1 = e /\ Rc (WG true R) a.2.toNat u)
def TN (R : List (List Ar)) (s : Nat) (e : Int) (L : List Int) : Prop := ∃ B : List Bool, B.length = R.length /\ L = rL R.length B /\ ∀ u, u < R.length -> (BH B u = true ↔ WA R s e u)
theorem UI {n : Nat} {B : List Bool} : ∀ x ∈ rL n B, 0 <= x /\ x < (n : Int) := fun x hx => by
 unfold rL at hx
 obtain ⟨u, hu, rfl⟩ := List.mem_map.1 hx
 have := (List.mem_filter.1 hu).1
 rw [List.mem_range] at this
 simp only [Int.ofNat_eq_natCast]; omega
noncomputable def Xp (R : List (List Ar)) (s : Nat) (e : Int) : List Int := rL R.length ((List.range R.length).map fun u => @decide (WA R s e u) (Classical.propDecidable _))
theorem QI (R : List (List Ar)) (s : Nat) (e : Int) : TN R s e (Xp R s e) := by
 refine ⟨(List.range R.length).map fun u => @decide (WA R s e u) (Classical.propDecidable _), by simp, rfl, fun u hu => ?_⟩
 unfold BH
 rw [gE2, List.getElem?_map, List.getElem?_range hu]
 exact @decide_eq_true_iff _ (Classical.propDecidable _)
theorem NA {R : List (List Ar)} (_hlo : BK R = true) {s : Nat} {e : Int} (_hs : s < R.length) : (Xp R s e).length <= R.length /\ ∀ x ∈ Xp R s e, 0 <= x /\ x < (R.length : Int) := ⟨KP _ _, fun x hx => UI x hx⟩
noncomputable def Xq (R : List (List Ar)) (s : Nat) (e : Int) : List Ar := (Xp R s e).map fun u => (e, u)
noncomputable def Xr (R : List (List Ar)) (Ev : List Int) (s k : Nat) : List Ar := (Ev.take k).flatMap (Xq R s)
noncomputable def Xs (R : List (List Ar)) (Ev : List Int) (s : Nat) : List Ar := Xr R Ev s Ev.length
noncomputable def Xt (R : List (List Ar)) (Ev : List Int) (k : Nat) : List (List Ar) := (List.range k).map (Xs R Ev)
theorem Fh (R : List (List Ar)) (Ev : List Int) (k : Nat) : (Xt R Ev k).length = k := by simp [Xt]
theorem KR {R : List (List Ar)} {Ev : List Int} {s k : Nat} (h : k < Ev.length) : Xr R Ev s (k + 1) = Xr R Ev s k ++ Xq R s Ev[k] := by
 unfold Xr
 rw [gE8 h, List.flatMap_append]
 simp
theorem NB {R : List (List Ar)} (hlo : BK R = true) {Ev : List Int} {s : Nat} (hs : s < R.length) : ∀ k, k <= Ev.length -> (Xr R Ev s k).length <= k * R.length := by
 intro k
 induction k with
 | zero => intro _; simp [Xr]
 | succ k ih =>
  intro hk
  have h1 := ih (by omega)
  have h2 := (NA hlo (e := Ev[k]) hs).1
  rw [KR hk, List.length_append, Xq, List.length_map, Nat.succ_mul]
  omega
noncomputable def BI (R : List (List Ar)) : List (List Ar) := Xt R (WY R R.length) R.length
theorem Gt {R : List (List Ar)} (hv : BL R = true) (hn : R.length <= 100) : (BI R).length = R.length /\ ∀ r ∈ BI R, r.length <= 1000000 /\ ∀ a ∈ r, 0 <= a.2 /\ a.2 < (R.length : Int) := by
 have hlo : BK R = true := gEg (gE4 hv).1
 have hl : (BI R).length = R.length := Fh _ _ _
 have hev := H4 (R := R) (fun r hr a ha => by have := (gE4 hlo).2.2.2 r hr a ha; omega) R.length (Nat.le_refl _)
 have hevl : (WY R R.length).length <= 1026 := H3 hev.1 (by simpa using hev.2.1)
 refine ⟨hl, fun r hr => ?_⟩
 obtain ⟨s, hs, rfl⟩ := List.mem_map.1 hr
 rw [List.mem_range] at hs
 have h1 := NB hlo (Ev := WY R R.length) hs _ (Nat.le_refl _)
 have h2 : (WY R R.length).length * R.length <= 1026 * 100 := Nat.mul_le_mul hevl hn
 refine ⟨by unfold Xs; omega, fun a ha => ?_⟩
 unfold Xs Xr at ha
 obtain ⟨e, _, h⟩ := List.mem_flatMap.1 ha
 obtain ⟨x, hx, rfl⟩ := List.mem_map.1 h
 exact (NA hlo hs).2 x hx
def AK (w : Nat) : List Int := ((List.range 64).filter fun i => w.testBit i).map Int.ofNat
def WS (w : Nat) (p : Nat -> Prop) : Prop := w < 2 ^ 64 /\ ∀ i, i < 64 -> (w.testBit i = true ↔ p i)
theorem WS.lt {w : Nat} {p : Nat -> Prop} (h : WS w p) : w < 18446744073709551616 := h.1
theorem TW {w i : Nat} (h : w < 2 ^ 64) (hi : 64 <= i) : w.testBit i = false := Nat.testBit_lt_two_pow (Nat.lt_of_lt_of_le h (Nat.pow_le_pow_right (by decide) hi))
theorem QK {v w : Nat} (hv : v < 2 ^ 64) (hw : w < 2 ^ 64) (h : ∀ i, i < 64 -> v.testBit i = w.testBit i) : v = w := by
 refine Nat.eq_of_testBit_eq fun i => ?_
 rcases Nat.lt_or_ge i 64 with hi | hi
 ·exact h i hi
 rw [TW hv hi, TW hw hi]
theorem WS.uniq {v w : Nat} {p q : Nat -> Prop} (hv : WS v p) (hw : WS w q) (h : ∀ i, i < 64 -> (p i ↔ q i)) : v = w := by
 refine QK hv.1 hw.1 fun i hi => ?_
 rw [Bool.eq_iff_iff, hv.2 i hi, hw.2 i hi, h i hi]
theorem LP : AK 0 = [] := by
 unfold AK
 rw [List.filter_eq_nil_iff.2 (fun i _ => by simp)]
 rfl
theorem CJ (w : Nat) : (AK w).length <= 64 := by
 unfold AK
 rw [List.length_map]
 exact Nat.le_trans (List.length_filter_le _ _) (by simp)
theorem D9 {w : Nat} {x : Int} : x ∈ AK w ↔ ∃ i, i < 64 /\ w.testBit i = true /\ x = (i : Int) := by
 unfold AK
 simp only [List.mem_map, List.mem_filter, List.mem_range]
 constructor
 ·rintro ⟨i, ⟨h1, h2⟩, rfl⟩; exact ⟨i, h1, h2, rfl⟩
 rintro ⟨i, h1, h2, rfl⟩; exact ⟨i, ⟨h1, h2⟩, rfl⟩
theorem KV {w : Nat} : ∀ x ∈ AK w, 0 <= x /\ x < 64 := fun x hx => by
 obtain ⟨i, h1, _, rfl⟩ := D9.1 hx
 omega
theorem IF {v w : Nat} (hv : v < 2 ^ 64) (hw : w < 2 ^ 64) (h : AK v = AK w) : v = w := by
 refine QK hv hw fun i hi => ?_
 have key : ((i : Int) ∈ AK v) ↔ ((i : Int) ∈ AK w) := by rw [h]
 rw [D9, D9] at key
 have e : ∀ u : Nat, (∃ j, j < 64 /\ u.testBit j = true /\ (i : Int) = (j : Int)) ↔ u.testBit i = true := fun u => by
  constructor
  rotate_left
  ·intro h2; exact ⟨i, hi, h2, rfl⟩
  rintro ⟨j, _, h2, h3⟩
  have : i = j := by omega
  rw [this]; exact h2
 rw [e, e] at key
 rw [Bool.eq_iff_iff]; exact key
theorem IG (w : Nat) : Ws (AK w) := by
 unfold AK Ws
 rw [List.pairwise_map]
 refine List.Pairwise.filter _ ?_
 refine List.pairwise_lt_range.imp fun {a b} h => ?_
 simp only [Int.ofNat_eq_natCast]; omega
theorem KW (k m i : Nat) : (2 ^ k * (2 * m + 1)).testBit i = if i < k then false else if i = k then true else (2 * m).testBit (i - k) := by
 rw [Nat.testBit_two_pow_mul]
 by_cases h : i < k
 ·rw [if_pos h]; simp [show ¬ k <= i by omega]
 rw [if_neg h]
 by_cases e : i = k
 ·subst e; rw [if_pos rfl]; simp [Nat.testBit_zero]
 rw [if_neg e]
 obtain ⟨d, hd⟩ : ∃ d, i - k = d + 1 := ⟨i - k - 1, by omega⟩
 rw [hd, Nat.testBit_succ, Nat.testBit_succ]
 simp [show k <= i by omega, show (2 * m + 1) / 2 = m by omega]
theorem HG (k m i : Nat) : (2 ^ k * (2 * m)).testBit i = if i < k then false else if i = k then false else (2 * m).testBit (i - k) := by
 rw [Nat.testBit_two_pow_mul]
 by_cases h : i < k
 ·rw [if_pos h]; simp [show ¬ k <= i by omega]
 rw [if_neg h]
 by_cases e : i = k
 ·subst e; rw [if_pos rfl]; simp [Nat.testBit_zero]
 rw [if_neg e]; simp [show k <= i by omega]
theorem PO (k m : Nat) : (2 ^ k * (2 * m + 1)) &&& (2 ^ k * (2 * m + 1) - 1) = 2 ^ k * (2 * m) := by
 have hp : 0 < 2 ^ k := Nat.two_pow_pos k
 have e1 : 2 ^ k * (2 * m + 1) - 1 = 2 ^ k * (2 * m) + (2 ^ k - 1) := by
  rw [Nat.mul_add, Nat.mul_one]; omega
 refine Nat.eq_of_testBit_eq fun i => ?_
 rw [Nat.testBit_and, KW, e1, Nat.testBit_two_pow_mul_add _ (by omega), HG]
 by_cases h : i < k
 ·rw [if_pos h, if_pos h, if_pos h]; rfl
 rw [if_neg h, if_neg h, if_neg h]
 by_cases e : i = k
 ·subst e; rw [if_pos rfl, if_pos rfl]; simp [Nat.testBit_zero]
 rw [if_neg e, if_neg e]; simp
theorem NI {w : Nat} (h0 : 0 < w) (h : w < 2 ^ 64) : Lib.ctz 64 w < 64 /\ (w &&& (w - 1)) < w /\ AK w = (Lib.ctz 64 w : Int) :: AK (w &&& (w - 1)) := by
 obtain ⟨m, hm, hk⟩ := Lib.ctzFrom_spec 64 w h0 h
 have hc : Lib.ctz 64 w = Lib.ctzFrom 64 w := by unfold Lib.ctz; rw [if_neg (by omega)]
 rw [hc]
 generalize Lib.ctzFrom 64 w = k at *
 have ha : (w &&& (w - 1)) = 2 ^ k * (2 * m) := by rw [hm]; exact PO k m
 have hp : 0 < 2 ^ k := Nat.two_pow_pos k
 have hlt : 2 ^ k * (2 * m) < w := by rw [hm, Nat.mul_add]; omega
 refine ⟨hk, by rw [ha]; exact hlt, ?_⟩
 rw [ha]
 refine Jh (IG _) ?_ fun x => ?_
 ·unfold Ws
  refine List.pairwise_cons.2 ⟨fun x hx => ?_, IG _⟩
  obtain ⟨i, h1, h2, rfl⟩ := D9.1 hx
  rw [HG] at h2
  by_cases h : i < k
  ·rw [if_pos h] at h2; cases h2
  rw [if_neg h] at h2
  by_cases e : i = k
  ·rw [if_pos e] at h2; cases h2
  omega
 rw [List.mem_cons, D9, D9]
 constructor
 ·rintro ⟨i, h1, h2, rfl⟩
  rw [hm, KW] at h2
  by_cases h : i < k
  ·rw [if_pos h] at h2; cases h2
  rw [if_neg h] at h2
  by_cases e : i = k
  ·exact .inl (by rw [e])
  rw [if_neg e] at h2
  exact .inr ⟨i, h1, by rw [HG, if_neg h, if_neg e]; exact h2, rfl⟩
 rintro (rfl | ⟨i, h1, h2, rfl⟩)
 ·exact ⟨k, hk, by rw [hm, KW, if_neg (by omega), if_pos rfl], rfl⟩
 rw [HG] at h2
 by_cases h : i < k
 ·rw [if_pos h] at h2; cases h2
 rw [if_neg h] at h2
 by_cases e : i = k
 ·rw [if_pos e] at h2; cases h2
 rw [if_neg e] at h2
 exact ⟨i, h1, by rw [hm, KW, if_neg h, if_neg e]; exact h2, rfl⟩
theorem TX {v w : Nat} (hv : v < 2 ^ 64) (hw : w < 2 ^ 64) : (v ||| w) < 2 ^ 64 := Nat.or_lt_two_pow hv hw
theorem S0 {v w i : Nat} : (v ||| w).testBit i = true ↔ v.testBit i = true \/ w.testBit i = true := by rw [Nat.testBit_or]; simp
theorem TY {k i : Nat} : (2 ^ k).testBit i = true ↔ k = i := by rw [Nat.testBit_two_pow]; simp
theorem KX {k : Nat} (h : k < 64) : 2 ^ k < 2 ^ 64 := Nat.pow_lt_pow_right (by decide) h
def FL (x : Int) (t : Nat) (V : List (Int × Nat)) : List Int := x :: ((AK t).length : Int) :: (AK t ++ V.flatMap fun p => p.1 :: ((AK p.2).length : Int) :: AK p.2)
theorem NJ {α : Type} {a b c d : List α} (h : a ++ b = c ++ d) (hl : a.length = c.length) : a = c /\ b = d := List.append_inj h hl
theorem KY : ∀ {V W : List (Int × Nat)}, (∀ p ∈ V, p.2 < 2 ^ 64) -> (∀ p ∈ W, p.2 < 2 ^ 64) -> (V.flatMap fun p => p.1 :: ((AK p.2).length : Int) :: AK p.2) = (W.flatMap fun p => p.1 :: ((AK p.2).length : Int) :: AK p.2) -> V = W
 | [], [], _, _, _ => rfl
 | [], q :: W, _, _, h => by simp at h
 | p :: V, [], _, _, h => by simp at h
 | p :: V, q :: W, hv, hw, h => by
  simp only [List.flatMap_cons, List.cons_append, List.cons.injEq] at h
  obtain ⟨h1, h2, h3⟩ := h
  obtain ⟨h4, h5⟩ := NJ h3 (by omega)
  have h6 := IF (hv p List.mem_cons_self) (hw q List.mem_cons_self) h4
  have h7 := KY (fun p hp => hv p (gEf _ hp)) (fun p hp => hw p (gEf _ hp)) h5
  rw [h7]
  congr 1
  exact Prod.ext h1 h6
theorem PP {x y : Int} {s t : Nat} {V W : List (Int × Nat)} (hs : s < 2 ^ 64) (ht : t < 2 ^ 64) (hV : ∀ p ∈ V, p.2 < 2 ^ 64) (hW : ∀ p ∈ W, p.2 < 2 ^ 64) (h : FL x s V = FL y t W) : x = y /\ s = t /\ V = W := by
 unfold FL at h
 simp only [List.cons.injEq] at h
 obtain ⟨h1, h2, h3⟩ := h
 obtain ⟨h4, h5⟩ := NJ h3 (by omega)
 exact ⟨h1, IF hs ht h4, KY hV hW h5⟩
def RT (X : List (List Ar)) (cl : List Int) (c i : Nat) : Prop := ∃ u, u < X.length /\ Rc (WG true X) c u /\ cl.getD u 0 = (i : Int)
def RV (X : List (List Ar)) (cl : List Int) (c : Nat) (e : Int) (i : Nat) : Prop := e ≠ 0 /\ ∃ u, u < X.length /\ Rc (WG true X) c u /\ ∃ a ∈ X.getD u [], a.1 = e /\ RT X cl a.2.toNat i
theorem S2 {n : Nat} {B : List Bool} {x : Int} : x ∈ rL n B ↔ ∃ i, i < n /\ BH B i = true /\ x = (i : Int) := by
 unfold rL
 simp only [List.mem_map, List.mem_filter, List.mem_range]
 constructor
 ·rintro ⟨i, ⟨h1, h2⟩, rfl⟩; exact ⟨i, h1, h2, rfl⟩
 rintro ⟨i, h1, h2, rfl⟩; exact ⟨i, ⟨h1, h2⟩, rfl⟩
theorem NK {R : List (List Ar)} {s : Nat} {e x : Int} : x ∈ Xp R s e ↔ ∃ u, u < R.length /\ WA R s e u /\ x = (u : Int) := by
 obtain ⟨B, _, h2, h3⟩ := QI R s e
 rw [h2, S2]
 constructor
 ·rintro ⟨i, h4, h5, h6⟩; exact ⟨i, h4, (h3 i h4).1 h5, h6⟩
 rintro ⟨i, h4, h5, h6⟩; exact ⟨i, h4, (h3 i h4).2 h5, h6⟩
theorem Gv {X : List (List Ar)} (hv : BL X = true) {u : Nat} (hu : u < X.length) {a : Ar} (ha : a ∈ X.getD u []) : 0 <= a.1 /\ a.1 <= 1025 /\ 0 <= a.2 /\ a.2.toNat < X.length := by
 have hlo : BK X = true := gEg (gE4 hv).1
 rw [gE2, gE1 hu, Option.getD_some] at ha
 have := (gE4 hlo).2.2.2 _ (gE6 hu) a ha
 exact ⟨this.1, by omega, this.2.2.1, by omega⟩
theorem EN {X : List (List Ar)} (hv : BL X = true) {s : Nat} (hs : s < X.length) {a : Ar} : a ∈ (BI X).getD s [] ↔ ∃ u, u < X.length /\ WA X s a.1 u /\ a.2 = (u : Int) := by
 have hlo : BK X = true := gEg (gE4 hv).1
 have hE := Ct true hlo
 have hg : (BI X).getD s [] = Xs X (WY X X.length) s := by simp [BI, Xt, gE2, hs]
 have hev := H4 (R := X) (fun r hr a ha => by have := (gE4 hlo).2.2.2 r hr a ha; omega) X.length (Nat.le_refl _)
 rw [List.take_length] at hev
 rw [hg]
 unfold Xs Xr
 rw [List.take_length, List.mem_flatMap]
 constructor
 ·rintro ⟨e, he, h⟩
  obtain ⟨x, hx, rfl⟩ := List.mem_map.1 h
  exact NK.1 hx
 rintro ⟨u, hu, h1, h2⟩
 have hmem : a.1 ∈ WY X X.length := by
  rcases h1 with ⟨h, _⟩ | ⟨_, t, ht, b, hb, h4, _⟩
  ·rw [h]; exact hev.2.2.1
  have htl := ht.lt hs hE
  rw [gE2, gE1 htl, Option.getD_some] at hb
  rw [<- h4]
  exact hev.2.2.2 _ (gE6 htl) b hb
 exact ⟨a.1, hmem, List.mem_map.2 ⟨a.2, NK.2 ⟨u, hu, h1, h2⟩, rfl⟩⟩
theorem DH {X : List (List Ar)} (hv : BL X = true) {cl : List Int} {s : Nat} (hs : s < X.length) (i : Nat) : ((0 : Int), (i : Int)) ∈ Wx (BI X) cl s ↔ RT X cl s i := by
 rw [DF]
 constructor
 rotate_left
 ·rintro ⟨u, hu, h1, h2⟩
  exact ⟨(0, (u : Int)), (EN hv hs).2 ⟨u, hu, .inl ⟨rfl, h1⟩, rfl⟩, by show (_, _) = (_, cl.getD ((u : Int)).toNat 0); rw [Int.toNat_natCast, h2]⟩
 rintro ⟨a, ha, e⟩
 obtain ⟨u, hu, h1, h2⟩ := (EN hv hs).1 ha
 simp only [Prod.mk.injEq] at e
 obtain ⟨e1, e2⟩ := e
 rcases h1 with ⟨_, h1⟩ | ⟨h1, _⟩
 rotate_left
 ·exact absurd e1.symm h1
 refine ⟨u, hu, h1, ?_⟩
 rw [e2, h2]; simp
theorem CZ {X : List (List Ar)} (hv : BL X = true) {cl : List Int} {s : Nat} (hs : s < X.length) {e : Int} (he : e ≠ 0) (i : Nat) : (e, (i : Int)) ∈ Wx (BI X) cl s ↔ RV X cl s e i := by
 have hlo : BK X = true := gEg (gE4 hv).1
 have hE := Ct true hlo
 rw [DF]
 constructor
 rotate_left
 ·rintro ⟨_, t, htl, ht, b, hb, h3, u, hu, h4, h5⟩
  exact ⟨(e, (u : Int)), (EN hv hs).2 ⟨u, hu, .inr ⟨he, t, ht, b, hb, h3, h4⟩, rfl⟩, by show (_, _) = (_, cl.getD ((u : Int)).toNat 0); rw [Int.toNat_natCast, h5]⟩
 rintro ⟨a, ha, e0⟩
 obtain ⟨u, hu, h1, h2⟩ := (EN hv hs).1 ha
 simp only [Prod.mk.injEq] at e0
 obtain ⟨e1, e2⟩ := e0
 rcases h1 with ⟨h1, _⟩ | ⟨h1, t, ht, b, hb, h3, h4⟩
 ·exact absurd (e1.trans h1) he
 exact ⟨he, t, ht.lt hs hE, ht, b, hb, h3.trans e1.symm, u, hu, h4, by rw [e2, h2]; simp⟩
theorem IH {X : List (List Ar)} (hv : BL X = true) {cl : List Int} (hc : Nrm X.length cl) {s : Nat} (hs : s < X.length) {x : Ar} (hx : x ∈ Wx (BI X) cl s) : ∃ i : Nat, i < X.length /\ x.2 = (i : Int) := by
 obtain ⟨a, ha, rfl⟩ := DF.1 hx
 obtain ⟨u, hu, _, h2⟩ := (EN hv hs).1 ha
 have hcl := hc.len
 have hm : cl.getD u 0 ∈ cl := by rw [gE2, gE1 (by omega)]; exact gE6 _
 have := hc.rng _ hm
 simp only [h2, Int.toNat_natCast]
 exact ⟨(cl.getD u 0).toNat, by omega, by omega⟩
structure KeyOf (X : List (List Ar)) (cl : List Int) (s : Nat) (L : List Int) : Prop where
 ex : ∃ (t : Nat) (V : List (Int × Nat)), L = FL (cl.getD s 0) t V /\ WS t (RT X cl s) /\ Ws (V.map (·.1)) /\ (∀ p ∈ V, (0 <= p.1 /\ p.1 <= 1025) /\ WS p.2 (RV X cl s p.1) /\ ∃ i, RV X cl s p.1 i) /\ ∀ e i, RV X cl s e i -> e ∈ V.map (·.1)
theorem UK {X : List (List Ar)} (_hv : BL X = true) {cl : List Int} (hc : Nrm X.length cl) {s : Nat} {e : Int} {i : Nat} (h : RV X cl s e i) : i < X.length := by
 obtain ⟨_, _, _, _, _, _, _, u, hu, _, h2⟩ := h
 have hcl := hc.len
 have hm : cl.getD u 0 ∈ cl := by rw [gE2, gE1 (by omega)]; exact gE6 _
 have := hc.rng _ hm
 omega
theorem KeyOf.iff {X : List (List Ar)} (hv : BL X = true) (hn : X.length <= 64) {cl : List Int} (hc : Nrm X.length cl) {s t : Nat} (hs : s < X.length) (ht : t < X.length) {L M : List Int} (h1 : KeyOf X cl s L) (h2 : KeyOf X cl t M) : L = M ↔ Wy (BI X) cl s = Wy (BI X) cl t := by
 obtain ⟨τ, V, rfl, a1, a2, a3, a4⟩ := h1.ex
 obtain ⟨σ, W, rfl, b1, b2, b3, b4⟩ := h2.ex
 unfold Wy
 constructor
 rotate_left
 ·intro h
  simp only [Prod.mk.injEq] at h
  obtain ⟨c1, c2⟩ := h
  have et : ∀ i, RT X cl s i ↔ RT X cl t i := fun i => by rw [<- DH hv hs, <- DH hv ht, c2]
  have ev : ∀ e i, RV X cl s e i ↔ RV X cl t e i := fun e i => by
   by_cases he : e = 0
   rotate_left
   ·rw [<- CZ hv hs he, <- CZ hv ht he, c2]
   constructor
   ·rintro ⟨h, _⟩; exact absurd he h
   rintro ⟨h, _⟩; exact absurd he h
  have e1 : τ = σ := a1.uniq b1 fun i _ => et i
  have e2 : V.map (·.1) = W.map (·.1) := by
   refine Jh a2 b2 fun e => ?_
   constructor
   ·intro he
    obtain ⟨p, hp, rfl⟩ := List.mem_map.1 he
    obtain ⟨i, hi⟩ := (a3 p hp).2.2
    exact b4 _ i ((ev _ i).1 hi)
   intro he
   obtain ⟨p, hp, rfl⟩ := List.mem_map.1 he
   obtain ⟨i, hi⟩ := (b3 p hp).2.2
   exact a4 _ i ((ev _ i).2 hi)
  have e3 : V = W := by
   have hl : V.length = W.length := by have := congrArg List.length e2; simpa using this
   refine List.ext_getElem hl fun j h1 h2 => ?_
   have hj : V[j].1 = W[j].1 := by
    have h3 : (V.map (·.1))[j]? = (W.map (·.1))[j]? := by rw [e2]
    simpa [h1, h2] using h3
   refine Prod.ext hj ((a3 _ (gE6 h1)).2.1.uniq (b3 _ (gE6 h2)).2.1 fun i _ => ?_)
   rw [hj]; exact ev _ i
  rw [c1, e1, e3]
 intro h
 obtain ⟨c1, c2, c3⟩ := PP a1.1 b1.1 (fun p hp => (a3 p hp).2.1.1) (fun p hp => (b3 p hp).2.1.1) h
 subst c2; subst c3
 refine Prod.ext c1 ?_
 refine C5 (AP _) (AP _) fun x => ?_
 show x ∈ Wx (BI X) cl s ↔ x ∈ Wx (BI X) cl t
 have key : ∀ u, u < X.length -> u = s \/ u = t -> (x ∈ Wx (BI X) cl u ↔ ∃ i : Nat, i < 64 /\ x.2 = (i : Int) /\ ((x.1 = 0 /\ τ.testBit i = true) \/ (x.1 ≠ 0 /\ ∃ w, (x.1, w) ∈ V /\ w.testBit i = true))) := by
  intro u hu hst
  have wt : WS τ (RT X cl u) := by rcases hst with rfl | rfl <;> assumption
  have wv : ∀ p ∈ V, WS p.2 (RV X cl u p.1) := fun p hp => by
   rcases hst with rfl | rfl
   ·exact (a3 p hp).2.1
   exact (b3 p hp).2.1
  have wc : ∀ e i, RV X cl u e i -> e ∈ V.map (·.1) := by rcases hst with rfl | rfl <;> assumption
  obtain ⟨e, y⟩ := x
  constructor
  rotate_left
  ·rintro ⟨i, hi, hy, h⟩
   simp only at hy h
   subst hy
   rcases h with ⟨rfl, h⟩ | ⟨he, w, hw, h⟩
   ·exact (DH hv hu i).2 ((wt.2 i hi).1 h)
   exact (CZ hv hu he i).2 (((wv _ hw).2 i hi).1 h)
  intro hx
  obtain ⟨i, hi, hy⟩ := IH hv hc hu hx
  simp only at hy ⊢
  subst hy
  refine ⟨i, by omega, rfl, ?_⟩
  by_cases he : e = 0
  ·subst he
   exact .inl ⟨rfl, (wt.2 i (by omega)).2 ((DH hv hu i).1 hx)⟩
  have hr := (CZ hv hu he i).1 hx
  obtain ⟨p, hp, e1⟩ := List.mem_map.1 (wc e i hr)
  refine .inr ⟨he, p.2, ?_, ((wv p hp).2 i (by omega)).2 (by rw [e1]; exact hr)⟩
  rw [<- e1]; exact hp
 rw [key s hs (.inl rfl), key t ht (.inr rfl)]
end Go.Proofs.YthnkailnoobdoaaGreatDoor
