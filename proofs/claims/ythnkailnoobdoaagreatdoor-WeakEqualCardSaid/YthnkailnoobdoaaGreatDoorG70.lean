/- Lemmas. -/
import Derived.Test.YthnkailnoobdoaaGreatDoorZk
import Derived.Test.YthnkailnoobdoaaGreatDoorG67
import Derived.Test.YthnkailnoobdoaaGreatDoorG45
import Derived.Test.YthnkailnoobdoaaGreatDoorOd1
namespace Go.Proofs.YthnkailnoobdoaaGreatDoor
set_option linter.unusedVariables false
set_option linter.unusedSimpArgs false
open Go.RowKit
set_option maxRecDepth 100000
attribute [local go_sem] lga C.pl C.one

def rL (n : Nat) (B : List Bool) : List Int := ((List.range n).filter (BH B)).map Int.ofNat
theorem QH {n : Nat} {B : List Bool} {u : Nat} : (u : Int) ∈ rL n B ↔ u < n /\ BH B u = true := by
 unfold rL
 rw [List.mem_map]
 constructor
 rotate_left
 ·rintro ⟨h1, h2⟩
  exact ⟨u, by simp [h1, h2], rfl⟩
 rintro ⟨v, hv, e⟩
 have : v = u := by have e2 : (v : Int) = (u : Int) := e; omega
 subst this
 simpa using hv
theorem KP (n : Nat) (B : List Bool) : (rL n B).length <= n := by
 unfold rL
 rw [List.length_map]
 have := List.length_filter_le (BH B) (List.range n)
 rwa [List.length_range] at this
def Xo (R : List (List Ar)) (F : List Nat) (B : List Bool) : Prop := B.length = R.length /\ ∀ u, BH B u = true ↔ ∃ v ∈ F, Rc (WG true R) v u
theorem KQ (R : List (List Ar)) (F : List Nat) (hv : BL R = true) (hF : ∀ v ∈ F, v < R.length) (hFl : F.length <= 1000000) (hn : R.length <= 1000000) (hr : ∀ r ∈ R, r.length <= 1000000) : FC Tryz.prog 72 [Bh R, .a (.c (.t 1 (Aa (F.map Int.ofNat)))), .b true] [] (fun r o => ∃ B, Xo R F B /\ o = [] /\ r = .a (.c (.t 1 (Aa (rL R.length B))))) := by
 have h := (N8 R F true hv hF hFl hn hr).mono (R' := fun r o => ∃ B, Xo R F B /\ r = .a (.c (.s 0 (rL R.length B).length)) /\ o = [.r ⟨3, 1, true, A7 (rL R.length B)⟩]) fun r o ⟨B, h1, h2, L, hL, h3, h4⟩ => ⟨B, ⟨h1, fun u => by rw [h2 u, N9 true hv]⟩, by rw [h4, hL]; rfl, by rw [h3, hL]; rfl⟩
 exact h.frzP (fun B => Gd _) (by omega) (fun B _ => by rw [Yi, Nat.mul_one])
def Cy (R : List (List Ar)) (s : Nat) : Prop := ∃ w, w ∈ WG true R s /\ Rc (WG true R) w s
set_option maxHeartbeats 2000000 in
theorem TL (R : List (List Ar)) (s : Nat) (hv : BL R = true) (hs : s < R.length) (hn : R.length <= 1000000) (hr : ∀ r ∈ R, r.length <= 1000000) : FC Tryz.prog 71 [Bh R, .i s] [] (fun r o => ∃ b : Bool, (b = true ↔ Cy R s) /\ o = [] /\ r = .b b) := by
 refine A9 Tryz.func71 rfl (by rw [Tryz.ntmps71]; simp) ?_
 rw [Tryz.ntmps71]
 simp only [Bz, Bh]
 have hlo : BK R = true := gEg (gE4 hv).1
 have hg := gE1 hs
 have hrl := hr _ (gE6 hs)
 have hbs := (gE4 hlo).2.2.2 _ (gE6 hs)
 have hcy : Cy R s ↔ ∃ a ∈ R[s], a.1 = 0 /\ Rc (WG true R) a.2.toNat s := by
  unfold Cy
  rw [<- N9 true hv]
  unfold M5 Hy
  rw [gE2, hg, Option.getD_some]
  simp only [List.mem_map, List.mem_filter, Bool.not_true, Bool.false_or, beq_iff_eq]
  constructor
  ·rintro ⟨w, ⟨a, ⟨h1, h2⟩, rfl⟩, h3⟩
   exact ⟨a, h1, h2, h3⟩
  rintro ⟨a, h1, h2, h3⟩
  exact ⟨_, ⟨a, ⟨h1, h2⟩, rfl⟩, h3⟩
 generalize R[s] = row at *
 (refine We ?_;(repeat clear hK K);repeat refine kq fun K hK=>?_)
 refine A6 (fun i : Nat => { tm := [(1, .i s), (2, .a (.c (.p 0 0))), (5, .i i)], hp := [.r ⟨25, 1, false, [.t 1 (Ai R)]⟩], n := 37, pin := 0 }) (fun i => i <= row.length /\ ∀ a ∈ row.take i, ¬ (a.1 = 0 /\ Rc (WG true R) a.2.toNat s)) (fun i => row.length - i) 0 ?_ ?_ ?_
 ·exact ⟨by omega, by simp⟩
 ·exact Wo
 rintro i ⟨hi, hno⟩ K hK
 by_cases hlt : i < row.length
 rotate_left
 ·have d1 : decide ((i : Int) < (row.length : Int)) = false := by simpa using hlt
  (refine Wf (an @d1 (an @A4 (an (Ac hg) (an @A3 @Al)))) ?_;(repeat clear hK K);repeat refine kq fun K hK=>?_)
  refine Wm ?_
  (refine Wi ?_;repeat clear hK K)
  (refine We ?_;(repeat clear hK K);repeat refine kq fun K hK=>?_)
  refine Wp [] Tryz.results71 ?_
  refine ⟨false, by simp only [Bool.false_eq_true, false_iff]; intro h; obtain ⟨a, h1, h2⟩ := hcy.1 h; exact hno a (by rw [gE7 (by omega)]; exact h1) h2, rfl⟩
 have d1 : decide ((i : Int) < (row.length : Int)) = true := by simpa using hlt
 have hat := Be hlt
 have hmem := gE6 hlt
 have hb := hbs _ hmem
 have hno2 : ¬ (row[i].1 = 0 /\ Rc (WG true R) row[i].2.toNat s) -> ∀ a ∈ row.take (i + 1), ¬ (a.1 = 0 /\ Rc (WG true R) a.2.toNat s) := fun h a ha => by
  rw [gE8 hlt] at ha
  rcases List.mem_append.1 ha with h1 | h1
  ·exact hno a h1
  simp at h1; subst h1; exact h
 generalize row[i] = a at *
 obtain ⟨e, t⟩ := a
 simp only at hat hb hno2
 obtain ⟨_, _, ht0, ht1⟩ := hb
 obtain ⟨tn, rfl⟩ : ∃ tn : Nat, t = (tn : Int) := ⟨t.toNat, by omega⟩
 have htn : tn < R.length := by omega
 rw [Int.toNat_natCast] at hno2
 by_cases he : e = 0
 rotate_left
 ·have d2 : (e == 0) = false := by simpa using he
  (refine Wf (an @d1 (an @A4 (an (Ac hg) (an @A3 @Al)))) ?_;(repeat clear hK K);repeat refine kq fun K hK=>?_)
  refine Wl ?_
  (refine Cr (an @A4 (an (Ac hg) (an @hat (an @A3 (an @Al @d2))))) ?_;(repeat clear hK K);repeat refine kq fun K hK=>?_)
  refine Wm ?_
  (refine We ?_;(repeat clear hK K);repeat refine kq fun K hK=>?_)
  refine Wn ?_
  refine hK _ (i + 1) ⟨by omega, hno2 fun h => he h.1⟩ (by omega) ?_
  refine Le.trans (A8 [0] rfl rfl) ?_
  (try simp only [List.set_nil, List.take_nil, List.take_zero, List.map_append, go_sem])
  exact Wo
 have d2 : (e == 0) = true := by simpa using he
 (refine Wf (an @d1 (an @A4 (an (Ac hg) (an @A3 @Al)))) ?_;(repeat clear hK K);repeat refine kq fun K hK=>?_)
 refine Wl ?_
 (refine Cr (an @A4 (an (Ac hg) (an @hat (an @A3 (an @Al @d2))))) ?_;(repeat clear hK K);repeat refine kq fun K hK=>?_)
 (refine D4 (BA (r := ⟨3, 1, true, A7 [(tn : Int)]⟩) 2 (Aa [(tn : Int)]) rfl (Gd _) (show 0 < (1 : Nat) by omega)) ?_; simp only [ST.frz, A0.frz, AV.frz, C.frz, Nat.le_refl, List.set_cons_zero, List.set_cons_succ, go_sem, EI])
 (refine Cn rfl rfl (by simp only [go_sem] <;> rfl) ?_; intro K1 hK1; refine (B1 (ids := []) (KQ R [tn] hv (by simpa using htn) (by simp) hn hr) rfl rfl (by simp only [go_sem]) (by kernel_rfl) (by (simp only [List.append_nil, go_sem]) <;> rfl) ?_).stp)
 rintro _ _ ⟨B, hB, rfl, rfl⟩
 (refine Wk ?_; clear hK1 K1)
 (refine We ?_;(repeat clear hK K);repeat refine kq fun K hK=>?_)
 (refine Cn rfl rfl (by simp only [go_sem] <;> rfl) ?_; intro K1 hK1; refine (B1 (ids := []) (Ng (rL R.length B) s (by have := KP R.length B; omega)) rfl rfl (by simp only [go_sem]) (by kernel_rfl) (by (simp only [List.append_nil, go_sem]) <;> rfl) ?_).stp)
 rintro _ _ ⟨rfl, rfl⟩
 (refine Wk ?_; clear hK1 K1)
 have hin : (s : Int) ∈ rL R.length B ↔ Rc (WG true R) tn s := by rw [QH, hB.2]; simp [hs]
 by_cases hh : Rc (WG true R) tn s
 ·have d3 : decide ((s : Int) ∈ rL R.length B) = true := by simpa using hin.2 hh
  (refine Wf @d3 ?_;(repeat clear hK K);repeat refine kq fun K hK=>?_)
  refine Wl ?_
  (refine We ?_;(repeat clear hK K);repeat refine kq fun K hK=>?_)
  refine Wp [] Tryz.results71 ?_
  exact ⟨true, by simp only [true_iff]; exact hcy.2 ⟨_, hmem, he, by rw [Int.toNat_natCast]; exact hh⟩, rfl⟩
 have d3 : decide ((s : Int) ∈ rL R.length B) = false := by simpa using fun h => hh (hin.1 h)
 (refine Wf @d3 ?_;(repeat clear hK K);repeat refine kq fun K hK=>?_)
 refine Wm ?_
 (refine We ?_;(repeat clear hK K);repeat refine kq fun K hK=>?_)
 refine Wn ?_
 refine hK _ (i + 1) ⟨by omega, hno2 fun h => hh h.2⟩ (by omega) ?_
 refine Le.trans (A8 [0] rfl rfl) ?_
 (try simp only [List.set_nil, List.take_nil, List.take_zero, List.map_append, go_sem])
 exact Wo
def CyL (R : List (List Ar)) (k : Nat) (Ls : List Nat) : Prop := Ls.length <= k /\ ∀ g, g ∈ Ls ↔ g < k /\ Cy R g
theorem CyL.yes {R : List (List Ar)} {k : Nat} {Ls : List Nat} (h : CyL R k Ls) (hc : Cy R k) : CyL R (k + 1) (Ls ++ [k]) := by
 refine ⟨by simp only [List.length_append, List.length_singleton]; have := h.1; omega, fun g => ?_⟩
 rw [List.mem_append, h.2, List.mem_singleton]
 constructor
 ·rintro (⟨h1, h2⟩ | rfl)
  ·exact ⟨by omega, h2⟩
  exact ⟨by omega, hc⟩
 rintro ⟨h1, h2⟩
 by_cases e : g = k
 ·exact .inr e
 exact .inl ⟨by omega, h2⟩
theorem CyL.no {R : List (List Ar)} {k : Nat} {Ls : List Nat} (h : CyL R k Ls) (hc : ¬ Cy R k) : CyL R (k + 1) Ls := by
 refine ⟨by have := h.1; omega, fun g => ?_⟩
 rw [h.2]
 constructor
 ·rintro ⟨h1, h2⟩; exact ⟨by omega, h2⟩
 rintro ⟨h1, h2⟩
 by_cases e : g = k
 ·subst e; exact absurd h2 hc
 exact ⟨by omega, h2⟩
theorem TM {R : List (List Ar)} (hlo : BK R = true) {Ls : List Nat} (h : CyL R R.length Ls) {s : Nat} (hs : s < R.length) : Dv R s ↔ ∃ g ∈ Ls, Rc (WG true R) s g := by
 constructor
 rotate_left
 ·rintro ⟨g, h1, h2⟩
  exact ⟨g, h2, ((h.2 g).1 h1).2⟩
 rintro ⟨g, h1, h2⟩
 exact ⟨g, (h.2 g).2 ⟨h1.lt hs (Ct true hlo), h2⟩, h1⟩
set_option maxHeartbeats 4000000 in
theorem RK (R : List (List Ar)) (hv : BL R = true) (hn : R.length <= 1000000) (hr : ∀ r ∈ R, r.length <= 1000000) : FC Tryz.prog 50 [Bh R] [] (fun r o => ∃ B, DvL R B /\ r = .a (.c (.s 0 R.length)) /\ o = [.r ⟨4, 1, true, WP B⟩]) := by
 refine A9 Tryz.func50 rfl (by rw [Tryz.ntmps50]; simp) ?_
 rw [Tryz.ntmps50]
 simp only [Bz, Bh]
 have hlo : BK R = true := gEg (gE4 hv).1
 (refine We ?_;(repeat clear hK K);repeat refine kq fun K hK=>?_)
 (refine Wj (D5 R (by omega) (fun r h => by have := hr r h; omega)) ?_; intro K1 hK1)
 rintro _ _ ⟨rfl, rfl⟩
 (refine Wk ?_; clear hK1 K1)
 (refine Wf (an @hv @Bool.not_true) ?_;(repeat clear hK K);repeat refine kq fun K hK=>?_)
 refine Wm ?_
 (refine We ?_;(repeat clear hK K);repeat refine kq fun K hK=>?_)
 refine Av (Dt 3 3 1 ?_) ?_
 ·simp only [go_sem]
 simp only [List.cons_append, List.nil_append, List.length_cons, List.length_nil]
 refine A6 (fun x : Nat × List Nat => { tm := [(1, .a (.c (.p 0 0))), (3, .a (.c (.s 1 x.2.length))), (4, .i x.1)], hp := [.r ⟨25, 1, false, [.t 1 (Ai R)]⟩, .r ⟨3, 1, true, A7 (x.2.map Int.ofNat)⟩], n := 68, pin := 0 }) (fun x => x.1 <= R.length /\ CyL R x.1 x.2) (fun x => R.length - x.1) (0, []) ?_ ?_ ?_
 ·exact ⟨by simp, by simp, fun g => by simp⟩
 ·simp only [List.map_nil, List.length_nil, A7]
  exact Wo
 rintro ⟨s, Ls⟩ ⟨hs, hLs⟩ K hK
 simp only at hs hLs
 have hll := hLs.1
 by_cases hlt : s < R.length
 ·have d1 : decide ((s : Int) < (R.length : Int)) = true := by simpa using hlt
  (refine Wf (an @A4 @d1) ?_;(repeat clear hK K);repeat refine kq fun K hK=>?_)
  refine Wl ?_
  (refine We ?_;(repeat clear hK K);repeat refine kq fun K hK=>?_)
  (refine Wj (TL R s hv hlt hn hr) ?_; intro K1 hK1)
  rintro _ _ ⟨b, hb, rfl, rfl⟩
  (refine Wk ?_; clear hK1 K1)
  (refine We ?_;(repeat clear hK K);repeat refine kq fun K hK=>?_)
  cases b with
  | true =>
   refine Wl ?_
   (refine Wf (an @List.length_map.{0, 0} (an @List.set_cons_zero.{0} (an @List.set_cons_succ.{0} (an @List.take_succ_cons.{0} (an @List.take_zero.{0} (an @List.drop_zero.{0} (an @List.length_take.{0} (an @List.length_drop.{0} (an @List.length_append.{0} (an @Yi (an @Az (an @AZ (an @BC (an @A5 (an @B6 (an @AH (an @Bd (an @AM @AY)))))))))))))))))) ?_;(repeat clear hK K);repeat refine kq fun K hK=>?_)
   refine Wn ?_
   refine hK _ (s + 1, Ls ++ [s]) ⟨by simp only; omega, hLs.yes (hb.1 rfl)⟩ (by simp only; omega) ?_
   refine Le.trans (A8 [0, 3] rfl rfl) ?_
   (try simp only [List.set_nil, List.take_nil, List.take_zero, List.map_append, go_sem])
   (try simp only [Ak])
   have htk : (Ls.map Int.ofNat).take Ls.length = Ls.map Int.ofNat := gE7 (by simp)
   simp only [htk, List.map_append, List.map_cons, List.map_nil, List.length_append, List.length_singleton]
   exact Wo
  | false =>
   refine Wm ?_
   (refine We ?_;(repeat clear hK K);repeat refine kq fun K hK=>?_)
   refine Wn ?_
   refine hK _ (s + 1, Ls) ⟨by simp only; omega, hLs.no fun h => by have := hb.2 h; cases this⟩ (by simp only; omega) ?_
   exact Wo
 have d1 : decide ((s : Int) < (R.length : Int)) = false := by simpa using hlt
 have hse : s = R.length := by omega
 rw [hse] at hLs
 (refine Wf (an @A4 @d1) ?_;(repeat clear hK K);repeat refine kq fun K hK=>?_)
 refine Wm ?_
 (refine Wi ?_;repeat clear hK K)
 have htk : (Aa (Ls.map Int.ofNat)).take Ls.length = Aa (Ls.map Int.ofNat) := gE7 (by rw [Yi]; simp)
 (refine Av (BA (r := ⟨3, 1, true, A7 (Ls.map Int.ofNat)⟩) 1 (Aa (Ls.map Int.ofNat)) rfl (Gd _) (show 0 < (1 : Nat) by omega)) ?_; simp only [ST.frz, A0.frz, AV.frz, C.frz, Nat.le_refl, List.set_cons_zero, List.set_cons_succ, go_sem, htk, Yi, List.length_map])
 (refine Wf @A4 ?_;(repeat clear hK K);repeat refine kq fun K hK=>?_)
 refine Av (A8 [0, 2] rfl rfl) ?_
 (try simp only [List.set_nil, List.take_nil, List.take_zero, List.map_append, go_sem])
 have e0 : List.replicate R.length (C.v (.bool false)) = WP (List.replicate R.length false) := by simp [WP]
 rw [e0]
 (try simp only [BD])
 refine A6 (fun x : Nat × List Bool => { tm := [(1, .a (.c (.p 0 0))), (3, .a (.c (.t 1 (Aa (Ls.map Int.ofNat))))), (5, .a (.c (.s 1 R.length))), (6, .i x.1)], hp := [.r ⟨25, 1, false, [.t 1 (Ai R)]⟩, .r ⟨4, 1, true, WP x.2⟩], n := 68, pin := 0 }) (fun x => x.1 <= R.length /\ x.2.length = R.length /\ (∀ u, u < x.1 -> (x.2.getD u false = true ↔ ∃ g ∈ Ls, Rc (WG true R) u g)) /\ ∀ u, x.1 <= u -> x.2.getD u false = false) (fun x => R.length - x.1) (0, List.replicate R.length false) ?_ ?_ ?_
 ·refine ⟨by simp, by simp, fun u h => by simp at h, fun u _ => ?_⟩
  rw [gE2, List.getElem?_replicate]; split <;> rfl
 ·exact Wo
 clear hs hlt d1 hse hll
 rintro ⟨s, B⟩ ⟨hs, hBl, hB1, hB2⟩ K hK
 simp only at hs hBl hB1 hB2
 have hll := hLs.1
 by_cases hgo : s < R.length /\ 0 < Ls.length
 rotate_left
 ·have hfin : DvL R B := by
   refine ⟨hBl, fun u hu => ?_⟩
   rw [TM hlo hLs hu]
   rcases Nat.lt_or_ge u s with h | h
   ·exact hB1 u h
   rw [hB2 u h]
   have h0 : Ls = [] := List.length_eq_zero_iff.1 (by omega)
   simp [h0]
  by_cases hlt : s < R.length
  rotate_left
  ·have d1 : decide ((s : Int) < (R.length : Int)) = false := by simpa using hlt
   (refine Wf (an @A4 @d1) ?_;(repeat clear hK K);repeat refine kq fun K hK=>?_)
   refine Wm ?_
   (refine Wi ?_;repeat clear hK K)
   (refine We ?_;(repeat clear hK K);repeat refine kq fun K hK=>?_)
   refine Wq [1] Tryz.results50 @BD ?_
   exact ⟨B, hfin, rfl⟩
  have d1 : decide ((s : Int) < (R.length : Int)) = true := by simpa using hlt
  have d2 : decide ((Ls.length : Int) > 0) = false := decide_eq_false (by omega)
  (refine Wf (an @A4 (an @d1 (an @Yi (an @List.length_map.{0, 0} @d2)))) ?_;(repeat clear hK K);repeat refine kq fun K hK=>?_)
  refine Wm ?_
  (refine Wi ?_;repeat clear hK K)
  (refine We ?_;(repeat clear hK K);repeat refine kq fun K hK=>?_)
  refine Wq [1] Tryz.results50 @BD ?_
  exact ⟨B, hfin, rfl⟩
 obtain ⟨hlt, hL0⟩ := hgo
 have d1 : decide ((s : Int) < (R.length : Int)) = true := by simpa using hlt
 have d2 : decide ((Ls.length : Int) > 0) = true := gEg (by omega)
 (refine Wf (an @A4 (an @d1 (an @Yi (an @List.length_map.{0, 0} @d2)))) ?_;(repeat clear hK K);repeat refine kq fun K hK=>?_)
 refine Wl ?_
 (refine We ?_;(repeat clear hK K);repeat refine kq fun K hK=>?_)
 (refine D4 (BA (r := ⟨3, 1, true, A7 [(s : Int)]⟩) 2 (Aa [(s : Int)]) rfl (Gd _) (show 0 < (1 : Nat) by omega)) ?_; simp only [ST.frz, A0.frz, AV.frz, C.frz, Nat.le_refl, List.set_cons_zero, List.set_cons_succ, go_sem, EI])
 (refine Wj (KQ R [s] hv (by simpa using hlt) (by simp) hn hr) ?_; intro K1 hK1)
 rintro _ _ ⟨B0, hB0, rfl, rfl⟩
 (refine Wk ?_; clear hK1 K1)
 have hBk : ∀ u : Nat, (u : Int) ∈ rL R.length B0 ↔ u < R.length /\ Rc (WG true R) s u := fun u => by rw [QH, hB0.2]; simp
 have hrl := KP R.length B0
 generalize rL R.length B0 = L0 at *
 (refine We ?_;(repeat clear hK K);repeat refine kq fun K hK=>?_)
 refine Av (A8 [0, 1] rfl rfl) ?_
 (try simp only [List.set_nil, List.take_nil, List.take_zero, List.map_append, go_sem])
 (try simp only [BD])
 refine A6 (fun x : Nat × Bool => { tm := [(1, .a (.c (.p 0 0))), (3, .a (.c (.t 1 (Aa (Ls.map Int.ofNat))))), (5, .a (.c (.s 1 R.length))), (6, .i s), (7, .a (.c (.t 1 (Aa L0)))), (8, .i x.1)], hp := [.r ⟨25, 1, false, [.t 1 (Ai R)]⟩, .r ⟨4, 1, true, WP (B.set s x.2)⟩], n := 68, pin := 0 }) (fun x => x.1 <= Ls.length /\ (x.2 = true ↔ ∃ g ∈ Ls.take x.1, Rc (WG true R) s g)) (fun x => Ls.length - x.1) (0, false) ?_ ?_ ?_
 ·exact ⟨by simp, by simp⟩
 ·have e1 : B.set s false = B := by
   have h := hB2 s (Nat.le_refl _)
   rw [gE2, gE1 (by omega), Option.getD_some] at h
   have e : B.set s B[s] = B := List.set_getElem_self _
   rwa [h] at e
  simp only [e1]
  exact Wo
 rintro ⟨i, b⟩ ⟨hi, hb⟩ K hK
 simp only at hi hb
 by_cases hli : i < Ls.length
 rotate_left
 ·have d3 : decide ((i : Int) < (Ls.length : Int)) = false := by simpa using hli
  rw [gE7 (by omega)] at hb
  (refine Wf (an @Yi (an @List.length_map.{0, 0} @d3)) ?_;(repeat clear hK K);repeat refine kq fun K hK=>?_)
  refine Wm ?_
  (refine Wi ?_;repeat clear hK K)
  (refine We ?_;(repeat clear hK K);repeat refine kq fun K hK=>?_)
  refine Wn ?_
  refine hK _ (s + 1, B.set s b) ⟨by simp only; omega, by simp [hBl], fun u hu => ?_, fun u hu => ?_⟩ (by simp only; omega) ?_
  rotate_left
  ·simp only at hu ⊢
   rw [gE2, gE5 (by omega), <- gE2]
   exact hB2 u (by omega)
  ·exact Wo
  simp only at hu ⊢
  rw [gE2]
  by_cases e : s = u
  rotate_left
  ·rw [gE5 e, <- gE2]
   exact hB1 u (by omega)
  subst e
  rw [gEc (by omega), Option.getD_some]
  exact hb
 have d3 : decide ((i : Int) < (Ls.length : Int)) = true := by simpa using hli
 have gl : (Aa (Ls.map Int.ofNat))[i]? = some (.v (.int .i64 ((Ls[i] : Nat) : Int))) := Aj (by rw [List.getElem?_map, gE1 hli]; rfl)
 have gb : (WP (B.set s b))[s]? = some (.v (.bool b)) := Hx (gEc (by omega))
 have hgm := ((hLs.2 Ls[i]).1 (gE6 hli)).1
 have hstep : (b || decide ((Ls[i] : Int) ∈ L0)) = true ↔ ∃ g ∈ Ls.take (i + 1), Rc (WG true R) s g := by
  rw [gE8 hli, Bool.or_eq_true, hb, decide_eq_true_iff, hBk]
  simp only [List.mem_append, List.mem_singleton]
  constructor
  rotate_left
  ·rintro ⟨g, h1 | h1, h2⟩
   ·exact .inl ⟨g, h1, h2⟩
   subst h1; exact .inr ⟨hgm, h2⟩
  rintro (⟨g, h1, h2⟩ | ⟨h1, h2⟩)
  ·exact ⟨g, .inl h1, h2⟩
  exact ⟨_, .inr rfl, h2⟩
 generalize Ls[i] = g at *
 cases b with
 | true =>
  (refine Wf (an @Yi (an @List.length_map.{0, 0} @d3)) ?_;(repeat clear hK K);repeat refine kq fun K hK=>?_)
  refine Wl ?_
  (refine Cr (an @Ci (an @List.length_set.{0} (an @hBl (an @gb (an @Ei @List.set_set.{0}))))) ?_;(repeat clear hK K);repeat refine kq fun K hK=>?_)
  refine Wn ?_
  refine hK _ (i + 1, true) ⟨by simp only; omega, by simp only; rw [<- hstep]; simp⟩ (by simp only; omega) ?_
  exact Wo
 | false =>
  rw [Bool.false_or] at hstep
  (refine Wf (an @Yi (an @List.length_map.{0, 0} @d3)) ?_;(repeat clear hK K);repeat refine kq fun K hK=>?_)
  refine Wl ?_
  (refine Wf (an @Ci (an @List.length_set.{0} (an @hBl (an @gb (an @gl (an @Yi @List.length_map.{0, 0})))))) ?_;(repeat clear hK K);repeat refine kq fun K hK=>?_)
  (refine Cn rfl rfl (by simp only [go_sem] <;> rfl) ?_; intro K1 hK1; refine (B1 (ids := []) (Ng L0 g (by omega)) rfl rfl (by simp only [go_sem]) (by kernel_rfl) (by (simp only [List.append_nil, go_sem]) <;> rfl) ?_).stp)
  rintro _ _ ⟨rfl, rfl⟩
  (refine Wk ?_; clear hK1 K1)
  (refine Cr (an @Ci (an @List.length_set.{0} (an @hBl (an @gb (an @Ei @List.set_set.{0}))))) ?_;(repeat clear hK K);repeat refine kq fun K hK=>?_)
  refine Wn ?_
  refine hK _ (i + 1, decide ((g : Int) ∈ L0)) ⟨by simp only; omega, hstep⟩ (by simp only; omega) ?_
  exact Wo
theorem PI (R : List (List Ar)) (hv : BL R = true) (hn : R.length <= 1000000) (hr : ∀ r ∈ R, r.length <= 1000000) : FC Tryz.prog 50 [Bh R] [] (fun r o => ∃ B, DvL R B /\ o = [] /\ r = .a (.c (.t 1 (Xl B)))) :=
 (RK R hv hn hr).frzP (fun B => Nw B) (by omega) (fun B h => by rw [Bw]; have := h.1; omega)
def WA (R : List (List Ar)) (s : Nat) (e : Int) (u : Nat) : Prop := (e = 0 /\ Rc (WG true R) s u) \/ (e ≠ 0 /\ ∃ t, Rc (WG true R) s t /\ ∃ a ∈ R.getD t [], a.1 = e /\ Rc (WG true R) a.2.toNat u)
def TN (R : List (List Ar)) (s : Nat) (e : Int) (L : List Int) : Prop := ∃ B : List Bool, B.length = R.length /\ L = rL R.length B /\ ∀ u, u < R.length -> (BH B u = true ↔ WA R s e u)
theorem UI {n : Nat} {B : List Bool} : ∀ x ∈ rL n B, 0 <= x /\ x < (n : Int) := fun x hx => by
 unfold rL at hx
 obtain ⟨u, hu, rfl⟩ := List.mem_map.1 hx
 have := (List.mem_filter.1 hu).1
 rw [List.mem_range] at this
 simp only [Int.ofNat_eq_natCast]; omega
theorem Ny {l : List Int} (h : ∀ x ∈ l, 0 <= x) : (l.map Int.toNat).map Int.ofNat = l := by
 rw [List.map_map]
 have : ∀ x ∈ l, (Int.ofNat ∘ Int.toNat) x = id x := fun x hx => by
  have := h x hx
  simp only [Function.comp_apply, Int.ofNat_eq_natCast, id_eq]; omega
 rw [List.map_congr_left this, List.map_id]
set_option maxHeartbeats 4000000 in
theorem TO (R : List (List Ar)) (sn : Nat) (e : Int) (hv : BL R = true) (hsl : sn < R.length) (h3 : 0 <= e) (h4 : e <= 1025) (hn : R.length <= 1000000) (hr : ∀ r ∈ R, r.length <= 1000000) : FC Tryz.prog 93 [Bh R, .a (.c (.t 1 (Aa [(sn : Int)]))), .i e] [] (fun r o => ∃ L, TN R sn e L /\ o = [] /\ r = Aq L) := by
 refine A9 Tryz.func93 rfl (by rw [Tryz.ntmps93]; simp) ?_
 rw [Tryz.ntmps93]
 simp only [Bz, Bh]
 have hlo : BK R = true := gEg (gE4 hv).1
 have hbd := (gE4 hlo).2.2.2
 have c3 : decide (e < 0) = false := decide_eq_false (by omega)
 have c4 : decide (e > 1025) = false := decide_eq_false (by omega)
 (refine We ?_;(repeat clear hK K);repeat refine kq fun K hK=>?_)
 (refine Wj (D5 R (by omega) (fun r h => by have := hr r h; omega)) ?_; intro K1 hK1)
 rintro _ _ ⟨rfl, rfl⟩
 (refine Wk ?_; clear hK1 K1)
 (refine Wf (an @hv @Bool.not_true) ?_;(repeat clear hK K);repeat refine kq fun K hK=>?_)
 (refine Cn rfl rfl (by simp only [go_sem] <;> rfl) ?_; intro K1 hK1; refine (B1 (ids := []) (N6 R [(sn : Int)] (by simpa using hsl) hn (by simp)) rfl rfl (by simp only [go_sem]) (by kernel_rfl) (by (simp only [List.append_nil, go_sem]) <;> rfl) ?_).stp)
 rintro _ _ ⟨rfl, rfl⟩
 (refine Wk ?_; clear hK1 K1)
 (refine Wf (an @Bool.not_true (an @c3 @c4)) ?_;(repeat clear hK K);repeat refine kq fun K hK=>?_)
 refine Wm ?_
 (refine We ?_;(repeat clear hK K);repeat refine kq fun K hK=>?_)
 (refine Wj (KQ R [sn] hv (by simpa using hsl) (by simp) hn hr) ?_; intro K1 hK1)
 rintro _ _ ⟨B, hB, rfl, rfl⟩
 (refine Wk ?_; clear hK1 K1)
 have hBr : ∀ u, BH B u = true ↔ Rc (WG true R) sn u := fun u => by rw [hB.2]; simp
 by_cases he : e = 0
 ·have d0 : (e == 0) = true := by simp [he]
  (refine Wf @d0 ?_;(repeat clear hK K);repeat refine kq fun K hK=>?_)
  refine Wl ?_
  (refine We ?_;(repeat clear hK K);repeat refine kq fun K hK=>?_)
  refine Wp [] Tryz.results93 ?_
  refine ⟨_, ⟨B, hB.1, rfl, fun u _ => ?_⟩, rfl⟩
  rw [hBr]
  unfold WA
  simp [he]
 have d0 : (e == 0) = false := by simpa using he
 obtain ⟨M, hM⟩ : ∃ M, M = (List.range R.length).filter (BH B) := ⟨_, rfl⟩
 have hLM : rL R.length B = M.map Int.ofNat := by rw [hM]; rfl
 have hMm : ∀ v, v ∈ M ↔ v < R.length /\ Rc (WG true R) sn v := fun v => by rw [hM, List.mem_filter, List.mem_range, hBr]
 have hMl : M.length <= R.length := by have := KP R.length B; rw [hLM, List.length_map] at this; exact this
 rw [hLM]
 clear hM hLM
 (refine Wf @d0 ?_;(repeat clear hK K);repeat refine kq fun K hK=>?_)
 refine Wm ?_
 (refine We ?_;(repeat clear hK K);repeat refine kq fun K hK=>?_)
 refine Av (R6 8 1 ?_) ?_
 ·simp only [go_sem]
 have htn : Aa ([] : List Int) = [] := rfl
 refine A6 (fun i : Nat => { tm := [(2, .i e), (3, .a (.c (.p 0 0))), (7, .a (.c (.t 1 (Aa (M.map Int.ofNat))))), (8, .a (.c (.t 1 (Aa (WR R (M.take i) e []))))), (9, .i i)], hp := [.r ⟨25, 1, false, [.t 1 (Ai R)]⟩], n := 84, pin := 0 }) (fun i => i <= M.length) (fun i => M.length - i) 0 ?_ ?_ ?_
 ·omega
 ·simp only [List.take_zero, WR, List.foldl_nil, htn]
  exact Wo
 rintro i hi K hK
 by_cases hlt : i < M.length
 rotate_left
 ·have d1 : decide ((i : Int) < (M.length : Int)) = false := by simpa using hlt
  have htM : M.take i = M := gE7 (by omega)
  rw [htM]
  have htm : ∀ x, x ∈ WR R M e [] ↔ ∃ s ∈ M, ∃ a ∈ R.getD s [], a.1 = e /\ a.2 = x := fun x => by rw [Nd]; simp
  have htb : ∀ x ∈ WR R M e [], 0 <= x /\ x < (R.length : Int) := fun x hx => by
   obtain ⟨s, hs, a, ha, _, rfl⟩ := (htm x).1 hx
   have hsl2 := ((hMm s).1 hs).1
   rw [gE2, gE1 hsl2, Option.getD_some] at ha
   have := hbd _ (gE6 hsl2) a ha
   exact ⟨this.2.2.1, this.2.2.2⟩
  have htl := H3 (Nf (R := R) (e := e) M [] List.Pairwise.nil) htb
  generalize WR R M e [] = T at *
  obtain ⟨F, hF⟩ : ∃ F : List Nat, F = T.map Int.toNat := ⟨_, rfl⟩
  have hFT : T = F.map Int.ofNat := by rw [hF, Ny fun x hx => (htb x hx).1]
  have hFl : F.length <= R.length := by rw [hF, List.length_map]; exact htl
  have hFm : ∀ v, v ∈ F ↔ (v : Int) ∈ T := fun v => by
   rw [hF, List.mem_map]
   constructor
   rotate_left
   ·intro h; exact ⟨_, h, by simp⟩
   rintro ⟨x, hx, rfl⟩
   have := htb x hx
   rw [show ((x.toNat : Nat) : Int) = x by omega]; exact hx
  rw [hFT]
  (refine Wf (an @d1 (an @Yi @List.length_map.{0, 0})) ?_;(repeat clear hK K);repeat refine kq fun K hK=>?_)
  refine Wm ?_
  (refine Wi ?_;repeat clear hK K)
  (refine We ?_;(repeat clear hK K);repeat refine kq fun K hK=>?_)
  (refine Wj (KQ R F hv (fun v hv => by have := htb _ ((hFm v).1 hv); omega) (by omega) hn hr) ?_; intro K1 hK1)
  rintro _ _ ⟨B2, hB2, rfl, rfl⟩
  (refine Wk ?_; clear hK1 K1)
  (refine We ?_;(repeat clear hK K);repeat refine kq fun K hK=>?_)
  refine Wp [] Tryz.results93 ?_
  refine ⟨_, ⟨B2, hB2.1, rfl, fun u _ => ?_⟩, rfl⟩
  rw [hB2.2]
  unfold WA
  constructor
  ·rintro ⟨v, h5, h6⟩
   obtain ⟨s, hs, a, ha, hae, hav⟩ := (htm _).1 ((hFm v).1 h5)
   refine .inr ⟨he, s, ((hMm s).1 hs).2, a, ha, hae, ?_⟩
   rw [hav, Int.toNat_natCast]; exact h6
  rintro (⟨h5, _⟩ | ⟨_, s, h5, a, ha, hae, h6⟩)
  ·exact absurd h5 he
  have hsr := h5.lt hsl (Ct true hlo)
  refine ⟨a.2.toNat, (hFm _).2 ((htm _).2 ⟨s, (hMm s).2 ⟨hsr, h5⟩, a, ha, hae, ?_⟩), h6⟩
  rw [gE2, gE1 hsr, Option.getD_some] at ha
  have := hbd _ (gE6 hsr) a ha
  omega
 have d1 : decide ((i : Int) < (M.length : Int)) = true := by simpa using hlt
 have gL : (Aa (M.map Int.ofNat))[i]? = some (.v (.int .i64 (M[i] : Int))) := Aj (by rw [List.getElem?_map, gE1 hlt]; rfl)
 have hul := ((hMm _).1 (gE6 hlt)).1
 have hTk : M.take (i + 1) = M.take i ++ [M[i]] := gE8 hlt
 have hsub : ∀ v ∈ M.take i, v < R.length := fun v hv => ((hMm v).1 (List.mem_of_mem_take hv)).1
 generalize M[i] = u at *
 have hgR := gE1 hul
 have hrl := hr _ (gE6 hul)
 have hRu : R.getD u [] = R[u] := by rw [gE2, hgR]; rfl
 have hbr := hbd _ (gE6 hul)
 generalize hrr : R[u] = row at *
 have hacc : Ws (WR R (M.take i) e []) /\ ∀ x ∈ WR R (M.take i) e [], 0 <= x /\ x < (R.length : Int) := by
  refine ⟨Nf _ _ List.Pairwise.nil, fun x hx => ?_⟩
  rw [Nd] at hx
  rcases hx with h | ⟨s, hs, a, ha, _, rfl⟩
  ·simp at h
  have hsl2 := hsub s hs
  rw [gE2, gE1 hsl2, Option.getD_some] at ha
  have := hbd _ (gE6 hsl2) a ha
  exact ⟨this.2.2.1, this.2.2.2⟩
 have hnx : WR R (M.take (i + 1)) e [] = IX row e (WR R (M.take i) e []) := by rw [hTk, Pp, hRu]
 generalize WR R (M.take i) e [] = acc at *
 have hKo := hK
 (refine Wf (an @d1 (an @Yi @List.length_map.{0, 0})) ?_;(repeat clear hK K);repeat refine kq fun K hK=>?_)
 refine Wl ?_
 (refine We ?_;(repeat clear hK K);repeat refine kq fun K hK=>?_)
 refine A6 (fun k : Nat => { tm := [(2, .i e), (3, .a (.c (.p 0 0))), (7, .a (.c (.t 1 (Aa (M.map Int.ofNat))))), (8, .a (.c (.t 1 (Aa (IX (row.take k) e acc))))), (9, .i i), (10, .i k)], hp := [.r ⟨25, 1, false, [.t 1 (Ai R)]⟩], n := 84, pin := 0 }) (fun k => k <= row.length) (fun k => row.length - k) 0 ?_ ?_ ?_
 ·omega
 ·simp only [List.take_zero, IX, List.foldl_nil]
  exact Wo
 rintro k hk K hK
 by_cases hlt2 : k < row.length
 rotate_left
 ·have d2 : decide ((k : Int) < (row.length : Int)) = false := by simpa using hlt2
  have htr : row.take k = row := gE7 (by omega)
  rw [htr, <- hnx]
  (refine We ?_;(repeat clear hK K);repeat refine kq fun K hK=>?_)
  (refine Ao 10 [(0, 0), (1, 0), (2, 1), (3, 0), (4, 0), (5, 0), (6, 1), (7, 0), (8, 1), (9, 0), (10, 2)] (by kernel_rfl) (by kernel_rfl) (by intro c st h; simp [Ae, AJ, VD] at h) ?_)
  (refine Wb (an @A4 (an (Ac hgR) (an @Yi (an @List.length_map.{0, 0} (an @gL (an @A3 (an @Al @d2))))))) ?_; repeat clear hK K)
  refine Wm ?_
  (refine Wi ?_;repeat clear hK K)
  (refine We ?_;(repeat clear hK K);repeat refine kq fun K hK=>?_)
  refine Wn ?_
  refine hKo _ (i + 1) (by omega) (by omega) ?_
  exact Wo
 have d2 : decide ((k : Int) < (row.length : Int)) = true := by simpa using hlt2
 have ha0 := CQ hlt2
 have ha1 := Dk hlt2
 have hsn := Nc (row.take k) e acc row[k]
 rw [<- gE8 hlt2] at hsn
 have hql : (IX (row.take k) e acc).length <= R.length := H3 (KD _ _ hacc.1) fun x hx => by
  rw [KC] at hx
  rcases hx with h | ⟨a, ha, _, rfl⟩
  ·exact hacc.2 x h
  have := hbr a (List.mem_of_mem_take ha)
  exact ⟨this.2.2.1, this.2.2.2⟩
 generalize IX (row.take k) e acc = q at *
 (refine We ?_;(repeat clear hK K);repeat refine kq fun K hK=>?_)
 (refine Ao 10 [(0, 0), (1, 0), (2, 1), (3, 0), (4, 0), (5, 0), (6, 1), (7, 0), (8, 1), (9, 0), (10, 2)] (by kernel_rfl) (by kernel_rfl) (by intro c st h; simp [Ae, AJ, VD] at h) ?_)
 (refine Wb (an @A4 (an (Ac hgR) (an @Yi (an @List.length_map.{0, 0} (an @gL (an @A3 (an @Al @d2))))))) ?_; repeat clear hK K)
 refine Wl ?_
 (refine We ?_;(repeat clear hK K);repeat refine kq fun K hK=>?_)
 by_cases hae : row[k].1 = e
 rotate_left
 ·have d3 : (row[k].1 == e) = false := by simpa using hae
  rw [if_neg hae] at hsn
  (refine Ao 13 [(0, 0), (1, 1), (2, 0), (3, 0), (4, 0), (5, 1), (6, 0), (7, 1), (8, 0), (9, 0), (10, 0), (11, 1), (12, 0), (13, 2)] (by kernel_rfl) (by kernel_rfl) (by intro c st h; simp [Ae, AJ, VD] at h) ?_)
  (refine Wb (an @A4 (an (Ac hgR) (an @Yi (an @List.length_map.{0, 0} (an @gL (an @A3 (an @Al (an @ha0 @d3)))))))) ?_; repeat clear hK K)
  refine Wm ?_
  (refine We ?_;(repeat clear hK K);repeat refine kq fun K hK=>?_)
  refine Wn ?_
  refine hK _ (k + 1) (by omega) (by omega) ?_
  rw [hsn]
  exact Wo
 have d3 : (row[k].1 == e) = true := by simpa using hae
 rw [if_pos hae] at hsn
 (refine Ao 13 [(0, 0), (1, 1), (2, 0), (3, 0), (4, 0), (5, 1), (6, 0), (7, 1), (8, 0), (9, 0), (10, 0), (11, 1), (12, 0), (13, 2)] (by kernel_rfl) (by kernel_rfl) (by intro c st h; simp [Ae, AJ, VD] at h) ?_)
 (refine Wb (an @A4 (an (Ac hgR) (an @Yi (an @List.length_map.{0, 0} (an @gL (an @A3 (an @Al (an @ha0 @d3)))))))) ?_; repeat clear hK K)
 refine Wl ?_
 (refine We ?_;(repeat clear hK K);repeat refine kq fun K hK=>?_)
 (refine Ao 13 [(0, 0), (1, 0), (2, 1), (3, 0), (4, 0), (5, 0), (6, 1), (7, 0), (8, 1), (9, 0), (10, 0), (11, 0), (12, 1), (13, 2), (14, 0)] (by kernel_rfl) (by kernel_rfl) (by intro c st h; simp [Ae, AJ, VD] at h) ?_)
 (refine Wb (an @A4 (an (Ac hgR) (an @Yi (an @List.length_map.{0, 0} (an @gL (an @A3 (an @Al @ha1))))))) ?_; repeat clear hK K)
 (refine T1 (Nb q row[k].2 (by omega)) ?_; intro K1 hK1)
 rintro _ _ ⟨rfl, rfl⟩
 (refine Wk ?_; clear hK1 K1)
 (refine Wa ?_; repeat clear hK K)
 (refine We ?_;(repeat clear hK K);repeat refine kq fun K hK=>?_)
 refine Wn ?_
 refine hK _ (k + 1) (by omega) (by omega) ?_
 rw [hsn]
 exact Wo
theorem RL (R : List (List Ar)) (sn : Nat) (e : Int) (hv : BL R = true) (hsl : sn < R.length) (h3 : 0 <= e) (h4 : e <= 1025) (hn : R.length <= 1000000) (hr : ∀ r ∈ R, r.length <= 1000000) : FC Tryz.prog 76 [Bh R, .i sn, .i e] [] (fun r o => ∃ L, TN R sn e L /\ o = [] /\ r = Aq L) := by
 refine A9 Tryz.func76 rfl (by rw [Tryz.ntmps76]; simp) ?_
 rw [Tryz.ntmps76]
 simp only [Bz, Bh]
 have c1 : decide ((sn : Int) < 0) = false := decide_eq_false (by omega)
 have c2 : decide ((sn : Int) >= (R.length : Int)) = false := decide_eq_false (by omega)
 have c3 : decide (e < 0) = false := decide_eq_false (by omega)
 have c4 : decide (e > 1025) = false := decide_eq_false (by omega)
 (refine We ?_;(repeat clear hK K);repeat refine kq fun K hK=>?_)
 (refine Wj (D5 R (by omega) (fun r h => by have := hr r h; omega)) ?_; intro K1 hK1)
 rintro _ _ ⟨rfl, rfl⟩
 (refine Wk ?_; clear hK1 K1)
 (refine Wf (an @hv (an @Bool.not_true (an @c1 (an @c2 (an @c3 (an @c4 @A4)))))) ?_;(repeat clear hK K);repeat refine kq fun K hK=>?_)
 refine Wm ?_
 (refine We ?_;(repeat clear hK K);repeat refine kq fun K hK=>?_)
 (refine D4 (BA (r := ⟨3, 1, true, A7 [(sn : Int)]⟩) 1 (Aa [(sn : Int)]) rfl (Gd _) (show 0 < (1 : Nat) by omega)) ?_; simp only [ST.frz, A0.frz, AV.frz, C.frz, Nat.le_refl, List.set_cons_zero, List.set_cons_succ, go_sem, EI])
 (refine We ?_;(repeat clear hK K);repeat refine kq fun K hK=>?_)
 (refine Wj (TO R sn e hv hsl h3 h4 hn hr) ?_; intro K1 hK1)
 rintro _ _ ⟨L, hL, rfl, rfl⟩
 (refine Wk ?_; clear hK1 K1)
 (refine We ?_;(repeat clear hK K);repeat refine kq fun K hK=>?_)
 refine Wp [] Tryz.results76 ?_
 exact ⟨L, hL, rfl⟩
noncomputable def Xp (R : List (List Ar)) (s : Nat) (e : Int) : List Int := rL R.length ((List.range R.length).map fun u => @decide (WA R s e u) (Classical.propDecidable _))
theorem Nz {R : List (List Ar)} {s : Nat} {e : Int} {L M : List Int} (h1 : TN R s e L) (h2 : TN R s e M) : L = M := by
 obtain ⟨B, b1, rfl, b3⟩ := h1
 obtain ⟨C, c1, rfl, c3⟩ := h2
 unfold rL
 congr 1
 refine List.filter_congr fun u hu => ?_
 rw [List.mem_range] at hu
 rw [Bool.eq_iff_iff, b3 u hu, c3 u hu]
theorem QI (R : List (List Ar)) (s : Nat) (e : Int) : TN R s e (Xp R s e) := by
 refine ⟨(List.range R.length).map fun u => @decide (WA R s e u) (Classical.propDecidable _), by simp, rfl, fun u hu => ?_⟩
 unfold BH
 rw [gE2, List.getElem?_map, List.getElem?_range hu]
 exact @decide_eq_true_iff _ (Classical.propDecidable _)
theorem NA {R : List (List Ar)} (_hlo : BK R = true) {s : Nat} {e : Int} (_hs : s < R.length) : (Xp R s e).length <= R.length /\ ∀ x ∈ Xp R s e, 0 <= x /\ x < (R.length : Int) := ⟨KP _ _, fun x hx => UI x hx⟩
noncomputable def Xq (R : List (List Ar)) (s : Nat) (e : Int) : List Ar := (Xp R s e).map fun u => (e, u)
noncomputable def Xr (R : List (List Ar)) (Ev : List Int) (s k : Nat) : List Ar := (Ev.take k).flatMap (Xq R s)
noncomputable def Xs (R : List (List Ar)) (Ev : List Int) (s : Nat) : List Ar := Xr R Ev s Ev.length
noncomputable def Xt (R : List (List Ar)) (Ev : List Int) (k : Nat) : List (List Ar) := (List.range k).map (Xs R Ev)
theorem Fh (R : List (List Ar)) (Ev : List Int) (k : Nat) : (Xt R Ev k).length = k := by simp [Xt]
theorem KR {R : List (List Ar)} {Ev : List Int} {s k : Nat} (h : k < Ev.length) : Xr R Ev s (k + 1) = Xr R Ev s k ++ Xq R s Ev[k] := by
 unfold Xr
 rw [gE8 h, List.flatMap_append]
 simp
theorem NB {R : List (List Ar)} (hlo : BK R = true) {Ev : List Int} {s : Nat} (hs : s < R.length) : ∀ k, k <= Ev.length -> (Xr R Ev s k).length <= k * R.length := by
 intro k
 induction k with
 | zero => intro _; simp [Xr]
 | succ k ih =>
  intro hk
  have h1 := ih (by omega)
  have h2 := (NA hlo (e := Ev[k]) hs).1
  rw [KR hk, List.length_append, Xq, List.length_map, Nat.succ_mul]
  omega
noncomputable def BI (R : List (List Ar)) : List (List Ar) := Xt R (WY R R.length) R.length
theorem Gt {R : List (List Ar)} (hv : BL R = true) (hn : R.length <= 100) : (BI R).length = R.length /\ ∀ r ∈ BI R, r.length <= 1000000 /\ ∀ a ∈ r, 0 <= a.2 /\ a.2 < (R.length : Int) := by
 have hlo : BK R = true := gEg (gE4 hv).1
 have hl : (BI R).length = R.length := Fh _ _ _
 have hev := H4 (R := R) (fun r hr a ha => by have := (gE4 hlo).2.2.2 r hr a ha; omega) R.length (Nat.le_refl _)
 have hevl : (WY R R.length).length <= 1026 := H3 hev.1 (by simpa using hev.2.1)
 refine ⟨hl, fun r hr => ?_⟩
 obtain ⟨s, hs, rfl⟩ := List.mem_map.1 hr
 rw [List.mem_range] at hs
 have h1 := NB hlo (Ev := WY R R.length) hs _ (Nat.le_refl _)
 have h2 : (WY R R.length).length * R.length <= 1026 * 100 := Nat.mul_le_mul hevl hn
 refine ⟨by unfold Xs; omega, fun a ha => ?_⟩
 unfold Xs Xr at ha
 obtain ⟨e, _, h⟩ := List.mem_flatMap.1 ha
 obtain ⟨x, hx, rfl⟩ := List.mem_map.1 h
 exact (NA hlo hs).2 x hx
def Xu (cl : List Int) (a : Ar) : Option Ar := if a.1 ≠ 0 then some (a.1, cl.getD a.2.toNat 0) else none
def Xv (cl : List Int) (row : List Ar) : List Ar := row.filterMap (Xu cl)
def Xw (cl : List Int) (X : List (List Ar)) (s : Nat) : List Ar := (0, cl.getD s 0) :: Xv cl (X.getD s [])
def Xx (f : Nat -> Nat) (cl : List Int) (X : List (List Ar)) (k c : Nat) : List Ar := ((List.range k).filter fun s => f s == c).flatMap (Xw cl X)
def Xy (f : Nat -> Nat) (cl : List Int) (X : List (List Ar)) (k : Nat) : List (List Ar) := (List.range X.length).map (Xx f cl X k)
theorem RM (cl : List Int) (row : List Ar) : (Xv cl row).length <= row.length := List.length_filterMap_le _ _
theorem NC (f : Nat -> Nat) (cl : List Int) (X : List (List Ar)) (k : Nat) : (Xy f cl X k).length = X.length := by simp [Xy]
theorem RN {f : Nat -> Nat} {cl : List Int} {X : List (List Ar)} {k c : Nat} (h : c < X.length) : (Xy f cl X k)[c]? = some (Xx f cl X k c) := by simp [Xy, h]
theorem PJ (f : Nat -> Nat) (cl : List Int) (X : List (List Ar)) (k c : Nat) : Xx f cl X (k + 1) c = Xx f cl X k c ++ if f k = c then Xw cl X k else [] := by
 unfold Xx
 rw [List.range_succ, List.filter_append, List.flatMap_append]
 congr 1
 by_cases h : f k = c
 ·simp [h]
 simp [h]
theorem ND (f : Nat -> Nat) (cl : List Int) (X : List (List Ar)) (c : Nat) : ∀ k, k <= X.length -> (Xx f cl X k c).length <= k + AN (X.take k) := by
 intro k
 induction k with
 | zero => intro _; simp [Xx]
 | succ k ih =>
  intro hk
  have h1 := ih (by omega)
  have h2 := BX (R := X) (k := k) hk
  have h3 := RM cl X[k]
  have h4 : X.getD k [] = X[k] := by rw [gE2, gE1 hk]; rfl
  rw [PJ, List.length_append]
  split
  ·unfold Xw; rw [h4, List.length_cons]; omega
  simp; omega
def Xz (E : List Ed) (c : Nat) : List Int := (E.filter fun e => e.1 == c).map fun e => (e.2 : Int)
def XA (n : Nat) (E : List Ed) : List (List Int) := (List.range n).map (Xz E)
theorem RO {n : Nat} {E : List Ed} {c : Nat} (h : c < n) : (XA n E)[c]? = some (Xz E c) := by simp [XA, h]
theorem NE {E : List Ed} {c : Nat} {x : Int} : x ∈ Xz E c ↔ ∃ t : Nat, x = (t : Int) /\ (c, t) ∈ E := by
 unfold Xz
 simp only [List.mem_map, List.mem_filter, beq_iff_eq]
 constructor
 rotate_left
 ·rintro ⟨t, rfl, h⟩
  exact ⟨(c, t), ⟨h, rfl⟩, rfl⟩
 rintro ⟨e, ⟨h1, h2⟩, rfl⟩
 exact ⟨e.2, rfl, by rw [<- h2]; exact h1⟩
def XC (O : List (List Ar)) (nx : List Int) : List Ar := nx.flatMap fun t => O.getD t.toNat []
def XD (N : List (List Int)) (O : List (List Ar)) (c : Nat) : List (List Ar) := O.set c (Cx (O.getD c [] ++ XC O (N.getD c [])))
theorem RP (N : List (List Int)) (O : List (List Ar)) (c : Nat) : (XD N O c).length = O.length := by simp [XD]
theorem D8 {α : Type} [DecidableEq α] : ∀ {l m : List α}, l.Nodup -> (∀ x ∈ l, x ∈ m) -> l.length <= m.length
 | [], _, _, _ => Nat.zero_le _
 | a :: l, m, h, hs => by
  have h2 := List.nodup_cons.1 h
  have ha := hs a List.mem_cons_self
  have ih := D8 (m := m.erase a) h2.2 fun x hx => (List.mem_erase_of_ne (fun e => h2.1 (by rw [<- e]; exact hx))).2 (hs x (gEf _ hx))
  have h3 := List.length_erase_of_mem ha
  have h4 := List.length_pos_of_mem ha
  simp only [List.length_cons]
  omega
theorem Jv {l : List Ar} (h : SortA l) : l.Nodup := h.imp fun {a b} hab => by
 rintro rfl
 rw [F0] at hab; cases hab
def XE (cl : List Int) (X : List (List Ar)) : List Ar := (List.range X.length).flatMap (Xw cl X)
theorem RQ (cl : List Int) (X : List (List Ar)) : (XE cl X).length <= X.length + AN X := by
 have h : XE cl X = Xx (fun _ => 0) cl X X.length 0 := by
  unfold XE Xx
  rw [List.filter_eq_self.2 (fun _ _ => by simp)]
 rw [h]
 have := ND (fun _ => 0) cl X 0 X.length (Nat.le_refl _)
 rwa [List.take_length] at this
structure P3 (f : Nat -> Nat) (cl : List Int) (X : List (List Ar)) (Q : List Nat) (i : Nat) (O : List (List Ar)) : Prop where
 len : O.length = X.length
 sz : ∀ c, (O.getD c []).length <= X.length + AN X
 sub : ∀ c, ∀ x ∈ O.getD c [], x ∈ XE cl X
 raw : ∀ c, c < X.length -> c ∉ Q.take i -> O.getD c [] = Xx f cl X X.length c
 don : ∀ c, c ∈ Q.take i -> SortA (O.getD c []) /\ ∀ x, x ∈ O.getD c [] ↔ ∃ s, s < X.length /\ Rc (WG true X) c s /\ x ∈ Xw cl X s
theorem HD (f : Nat -> Nat) (cl : List Int) (X : List (List Ar)) (k : Nat) {c : Nat} (h : c < X.length) : (Xy f cl X k).getD c [] = Xx f cl X k c := by rw [gE2, RN h]; rfl
theorem P3.start (f : Nat -> Nat) (cl : List Int) (X : List (List Ar)) (Q : List Nat) : P3 f cl X Q 0 (Xy f cl X X.length) := by
 have out : ∀ c, ¬ c < X.length -> (Xy f cl X X.length).getD c [] = [] := fun c h => by rw [gE2, List.getElem?_eq_none (by rw [NC]; omega)]; rfl
 refine ⟨NC _ _ _ _, fun c => ?_, fun c x hx => ?_, fun c hc _ => HD _ _ _ _ hc, fun c hc => by simp at hc⟩
 ·by_cases h : c < X.length
  rotate_left
  ·rw [out c h]; simp
  rw [HD _ _ _ _ h]
  have := ND f cl X c X.length (Nat.le_refl _)
  rwa [List.take_length] at this
 by_cases h : c < X.length
 rotate_left
 ·rw [out c h] at hx; simp at hx
 rw [HD _ _ _ _ h] at hx
 obtain ⟨s, h1, h2⟩ := List.mem_flatMap.1 hx
 exact List.mem_flatMap.2 ⟨s, (List.mem_filter.1 h1).1, h2⟩
theorem Jw {X : List (List Ar)} {D : List Int} (hv : BL X = true) (h : CpOk X D) {v s : Nat} (hvl : v < X.length) (hr : Rc (WG true X) v s) : Xh D v = Xh D s \/ ∃ t, (Xh D v, t) ∈ Xa (Xh D) X X.length /\ Rc (WG true X) t s := by
 have hlo : BK X = true := gEg (gE4 hv).1
 have hE := Ct true hlo
 induction hr with
 | refl => exact .inl rfl
 | @tail u w h1 h2 ih =>
  rcases ih with e | ⟨t, e1, e2⟩
  rotate_left
  ·exact .inr ⟨t, e1, e2.tail h2⟩
  by_cases ew : Xh D u = Xh D w
  ·exact .inl (e.trans ew)
  have hu := h1.lt hvl hE
  have hw := hE _ hu _ h2
  refine .inr ⟨Xh D w, ?_, (BR hv h hw).2.2.2.1⟩
  rw [Fc]
  rw [Gq hv] at h2
  exact ⟨u, hu, (0, (w : Int)), h2, rfl, by simpa using ew, by rw [e]; simp⟩
theorem TP {X : List (List Ar)} {D : List Int} (hv : BL X = true) (h : CpOk X D) {c t : Nat} (he : (c, t) ∈ Xa (Xh D) X X.length) : Rc (WG true X) c t := by
 have hlo : BK X = true := gEg (gE4 hv).1
 obtain ⟨s, hs, a, ha, h0, hne, e⟩ := Fc.1 he
 cases e
 have hg : X.getD s [] = X[s] := by rw [gE2, gE1 hs]; rfl
 have hb := (gE4 hlo).2.2.2 _ (gE6 hs) a (by rw [<- hg]; exact ha)
 have ht : a.2.toNat < X.length := by omega
 have hadj : a.2.toNat ∈ WG true X s := by
  rw [Gq hv]
  have : ((0 : Int), ((a.2.toNat : Nat) : Int)) = a := by
   rcases a with ⟨x, y⟩
   simp only at h0 hb ⊢
   rw [h0]; congr 1; omega
  rw [this]; exact ha
 exact ((BR hv h hs).2.2.2.1.trans (.one hadj)).trans (BR hv h ht).2.2.1
theorem P3.step {X : List (List Ar)} {D cl : List Int} {Q : List Nat} {O : List (List Ar)} {i : Nat} (hv : BL X = true) (h : CpOk X D) (hQ : HB (Xa (Xh D) X X.length) X.length (Xh D) Q) (hP : P3 (Xh D) cl X Q i O) {c : Nat} (hi : Q[i]? = some c) : P3 (Xh D) cl X Q (i + 1) (XD (XA X.length (Xa (Xh D) X X.length)) O c) := by
 have hlo : BK X = true := gEg (gE4 hv).1
 have hE := Ct true hlo
 obtain ⟨hnd, hmem, htop⟩ := hQ
 have hil : i < Q.length := (List.getElem?_eq_some_iff.1 hi).1
 have hcQ : c ∈ Q := gE9 hi
 obtain ⟨hc, hfc⟩ := (hmem c).1 hcQ
 have hcn : c ∉ Q.take i := fun hin => by
  obtain ⟨j, hj, e⟩ := List.mem_take_iff_getElem.1 hin
  have h1 := (List.getElem?_eq_some_iff.1 hi).2
  have h2 : Q[j]'(by omega) = Q[i] := e.trans h1.symm
  have := (List.getElem_inj hnd).1 h2
  omega
 have hsucc : Q.take (i + 1) = Q.take i ++ [c] := by
  rw [gE8 hil, (List.getElem?_eq_some_iff.1 hi).2]
 have hN : (XA X.length (Xa (Xh D) X X.length)).getD c [] = Xz (Xa (Xh D) X X.length) c := by rw [gE2, RO hc]; rfl
 have hself : (XD (XA X.length (Xa (Xh D) X X.length)) O c).getD c [] = Cx (O.getD c [] ++ XC O (Xz (Xa (Xh D) X X.length) c)) := by
  unfold XD
  rw [hN, gE2, gEc (by rw [hP.len]; exact hc)]; rfl
 have hoth : ∀ d, d ≠ c -> (XD (XA X.length (Xa (Xh D) X X.length)) O c).getD d [] = O.getD d [] := fun d hd => by
  unfold XD
  rw [gE2, gE5 (Ne.symm hd), <- gE2]
 have hin : ∀ x, x ∈ O.getD c [] ++ XC O (Xz (Xa (Xh D) X X.length) c) -> x ∈ XE cl X := fun x hx => by
  rcases List.mem_append.1 hx with hx | hx
  ·exact hP.sub _ _ hx
  obtain ⟨t, _, ht⟩ := List.mem_flatMap.1 hx
  exact hP.sub _ _ ht
 have hmemc : ∀ x, x ∈ O.getD c [] ++ XC O (Xz (Xa (Xh D) X X.length) c) ↔ ∃ s, s < X.length /\ Rc (WG true X) c s /\ x ∈ Xw cl X s := by
  intro x
  rw [List.mem_append, hP.raw c hc hcn]
  constructor
  rotate_left
  ·rintro ⟨s, hs, h1, h2⟩
   rcases Jw hv h hc h1 with e | ⟨t, he, h3⟩
   ·refine .inl (List.mem_flatMap.2 ⟨s, List.mem_filter.2 ⟨by simpa using hs, ?_⟩, h2⟩)
    rw [hfc] at e; simp [e]
   rw [hfc] at he
   refine .inr (List.mem_flatMap.2 ⟨(t : Int), NE.2 ⟨t, rfl, he⟩, ?_⟩)
   simp only [Int.toNat_natCast]
   obtain ⟨j, hj, hjt⟩ := htop i c hi _ he rfl
   have ht : t ∈ Q.take i := by
    rw [List.mem_take_iff_getElem]
    have h5 := List.getElem?_eq_some_iff.1 hjt
    exact ⟨j, by have := h5.1; omega, h5.2⟩
   exact ((hP.don t ht).2 x).2 ⟨s, hs, h3, h2⟩
  rintro (hx | hx)
  ·obtain ⟨s, h1, h2⟩ := List.mem_flatMap.1 hx
   have h3 := List.mem_filter.1 h1
   have hs : s < X.length := by simpa using h3.1
   have hfs : Xh D s = c := by simpa using h3.2
   refine ⟨s, hs, ?_, h2⟩
   rw [<- hfs]; exact (BR hv h hs).2.2.2.1
  obtain ⟨t, h1, h2⟩ := List.mem_flatMap.1 hx
  obtain ⟨t, rfl, he⟩ := NE.1 h1
  (try simp only [Int.toNat_natCast] at h2)
  obtain ⟨j, hj, hjt⟩ := htop i c hi _ he rfl
  have ht : t ∈ Q.take i := by
   rw [List.mem_take_iff_getElem]
   have h5 := List.getElem?_eq_some_iff.1 hjt
   exact ⟨j, by have := h5.1; omega, h5.2⟩
  obtain ⟨s, hs, h3, h4⟩ := ((hP.don t ht).2 x).1 h2
  exact ⟨s, hs, (TP hv h he).trans h3, h4⟩
 refine ⟨by rw [RP, hP.len], fun d => ?_, fun d x hx => ?_, fun d hd hdn => ?_, fun d hd => ?_⟩
 ·by_cases e : d = c
  rotate_left
  ·rw [hoth d e]; exact hP.sz d
  subst e
  rw [hself]
  refine Nat.le_trans (D8 (m := XE cl X) (Jv (AP _)) fun x hx => hin x ((C9 _ _).1 hx)) (RQ cl X)
 ·by_cases e : d = c
  rotate_left
  ·rw [hoth d e] at hx; exact hP.sub d x hx
  subst e
  rw [hself, C9] at hx
  exact hin x hx
 ·rw [hsucc] at hdn
  have e : d ≠ c := fun e => hdn (by rw [e]; simp)
  rw [hoth d e]
  exact hP.raw d hd fun h => hdn (List.mem_append_left _ h)
 rw [hsucc] at hd
 rcases List.mem_append.1 hd with h1 | h1
 ·have e : d ≠ c := fun e => hcn (by rw [<- e]; exact h1)
  rw [hoth d e]
  exact hP.don d h1
 have e : d = c := by simpa using h1
 subst e
 rw [hself]
 exact ⟨AP _, fun x => by rw [C9]; exact hmemc x⟩
theorem P3.done {X : List (List Ar)} {D cl : List Int} {Q : List Nat} {O : List (List Ar)} (hv : BL X = true) (h : CpOk X D) (hQ : HB (Xa (Xh D) X X.length) X.length (Xh D) Q) (hP : P3 (Xh D) cl X Q Q.length O) {s : Nat} (hs : s < X.length) : O.getD (Xh D s) [] = Wx (H5 X) cl s := by
 obtain ⟨_, p2, p3, p4, p5⟩ := BR hv h hs
 have hin : Xh D s ∈ Q.take Q.length := by rw [List.take_length]; exact (hQ.2.1 _).2 ⟨p2, p5⟩
 obtain ⟨h1, h2⟩ := hP.don _ hin
 refine C5 h1 (AP _) fun x => ?_
 have hE := Ct true (gEg (gE4 hv).1 : BK X = true)
 rw [h2]
 refine Iff.trans ?_ (DF (S := H5 X) (c := cl) (s := s) (x := x)).symm
 constructor
 rotate_left
 ·rintro ⟨a, ha, rfl⟩
  rcases (Hz hv hs).1 ha with ⟨h0, u, e, h3⟩ | ⟨h0, t, h3, h4⟩
  ·have hu := h3.lt hs hE
   refine ⟨u, hu, p4.trans h3, List.mem_cons.2 (.inl ?_)⟩
   rw [h0, e]; simp
  refine ⟨t, h3.lt hs hE, p4.trans h3, gEf _ (List.mem_filterMap.2 ⟨a, h4, ?_⟩)⟩
  unfold Xu
  rw [if_pos h0]
 rintro ⟨u, hu, h3, h4⟩
 have hsu := p3.trans h3
 rcases List.mem_cons.1 h4 with rfl | h4
 ·exact ⟨(0, (u : Int)), (Hz hv hs).2 (.inl ⟨rfl, u, rfl, hsu⟩), by simp⟩
 obtain ⟨a, ha, e⟩ := List.mem_filterMap.1 h4
 unfold Xu at e
 split at e
 rotate_left
 ·cases e
 rename_i h0
 cases e
 exact ⟨a, (Hz hv hs).2 (.inr ⟨h0, u, hsu, ha⟩), rfl⟩
end Go.Proofs.YthnkailnoobdoaaGreatDoor
