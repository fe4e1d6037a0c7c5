/- Lemmas. -/
import Derived.Test.YthnkailnoobdoaaGreatDoorZk
import Derived.Test.YthnkailnoobdoaaGreatDoorTl3
import Derived.Test.YthnkailnoobdoaaGreatDoorG11
import Derived.Test.YthnkailnoobdoaaGreatDoorG53
import Derived.Test.YthnkailnoobdoaaGreatDoorMnt
import Derived.Test.YthnkailnoobdoaaGreatDoorG77
namespace Go.Proofs.YthnkailnoobdoaaGreatDoor
set_option linter.unusedVariables false
set_option linter.unusedSimpArgs false
open Go.RowKit
set_option maxRecDepth 100000
attribute [local go_sem] lga C.pl C.one

theorem SK {C : List Int} {k : Nat} (h : k < C.length) {m : Int} : JI (C.drop k) m = ((!decide (C[k] < 0) && !decide (C[k] > m)) && JI (C.drop (k + 1)) (Y4 m C[k])) := by
 rw [List.drop_eq_getElem_cons h, JI]
theorem SL {C : List Int} {k : Nat} (h : k < C.length) : Y5 0 (C.take (k + 1)) = Y4 (Y5 0 (C.take k)) C[k] := by
 rw [gE8 h, HP]
theorem Uf (C : List Int) (n : Nat) (hC : C.length <= 9223372036854775807) : FC Tryz.prog 78 [Aq C, .i n] [] (fun r o => o = [] /\ r = .b (M7 C n)) := by
 refine A9 Tryz.func78 rfl (by rw [Tryz.ntmps78]; simp) ?_
 rw [Tryz.ntmps78]
 simp only [Bz, Aq]
 (refine Wf @Yi ?_;(repeat clear hK K);repeat refine kq fun K hK=>?_)
 refine A6 (fun k : Nat => { tm := [(0, .a (.c (.t 1 (Aa C)))), (1, .i n), (5, .i (Y5 0 (C.take k))), (8, .a (.c (.t 1 (Aa C)))), (9, .i C.length), (10, .i k)], hp := [], n := 30, pin := 0 }) (fun k => k <= C.length /\ JI C 0 = JI (C.drop k) (Y5 0 (C.take k)) /\ 0 <= Y5 0 (C.take k) /\ Y5 0 (C.take k) <= k) (fun k => C.length - k) 0 ?_ ?_ ?_
 ·exact ⟨by omega, by simp [Y5], by simp [Y5], by simp [Y5]⟩
 ·have e : Y5 0 (C.take 0) = 0 := by simp [Y5]
  rw [e]
  exact Wo
 rintro k ⟨hk, hg, hm0, hmk⟩ K hK
 by_cases hlt : k < C.length
 rotate_left
 ·have d1 : decide ((k : Int) < (C.length : Int)) = false := by simpa using hlt
  have hd : JI C 0 = true := by rw [hg, List.drop_of_length_le (by omega)]; rfl
  (refine Wf @d1 ?_;(repeat clear hK K);repeat refine kq fun K hK=>?_)
  refine Wm ?_
  (refine Wi ?_;repeat clear hK K)
  (refine Wf @Yi ?_;(repeat clear hK K);repeat refine kq fun K hK=>?_)
  refine Wr Tryz.results78 ?_
  have e : ((C.length : Int) == (n : Int)) = decide (C.length = n) := by rw [Bool.eq_iff_iff, beq_iff_eq, decide_eq_true_iff]; omega
  rw [M7, hd, Bool.true_and, e]
 have d1 : decide ((k : Int) < (C.length : Int)) = true := by simpa using hlt
 have gc := Aj (gE1 hlt)
 have hs := SK hlt (m := Y5 0 (C.take k))
 have hx := SL hlt
 generalize C[k] = c at *
 generalize Y5 0 (C.take k) = m at *
 rw [hs] at hg
 by_cases h1 : c < 0
 ·have d2 : decide (c < 0) = true := by simpa using h1
  (refine Wf @d1 ?_;(repeat clear hK K);repeat refine kq fun K hK=>?_)
  refine Wl ?_
  (refine Wf (an @Yi (an @gc @d2)) ?_;(repeat clear hK K);repeat refine kq fun K hK=>?_)
  refine Wl ?_
  (refine We ?_;(repeat clear hK K);repeat refine kq fun K hK=>?_)
  refine Wr Tryz.results78 ?_
  simp [M7, hg, h1]
 have d2 : decide (c < 0) = false := by simpa using h1
 by_cases h2 : c > m
 ·have d3 : decide (c > m) = true := by simpa using h2
  (refine Wf @d1 ?_;(repeat clear hK K);repeat refine kq fun K hK=>?_)
  refine Wl ?_
  (refine Wf (an @Yi (an @gc (an @d2 @d3))) ?_;(repeat clear hK K);repeat refine kq fun K hK=>?_)
  refine Wl ?_
  (refine We ?_;(repeat clear hK K);repeat refine kq fun K hK=>?_)
  refine Wr Tryz.results78 ?_
  simp [M7, hg, h2]
 have d3 : decide (c > m) = false := by simpa using h2
 (refine Wf @d1 ?_;(repeat clear hK K);repeat refine kq fun K hK=>?_)
 refine Wl ?_
 (refine Wf (an @Yi (an @gc (an @d2 @d3))) ?_;(repeat clear hK K);repeat refine kq fun K hK=>?_)
 refine Wm ?_
 (refine We ?_;(repeat clear hK K);repeat refine kq fun K hK=>?_)
 refine Wn ?_
 have h3 : 0 <= Y4 m c /\ Y4 m c <= m + 1 := by unfold Y4; split <;> omega
 refine hK _ (k + 1) ⟨by omega, by rw [hg, hx, d2, d3]; simp, by rw [hx]; omega, by rw [hx]; omega⟩ (by omega) ?_
 have e : (if c + 1 > m then c + 1 else m) = Y5 0 (C.take (k + 1)) := by rw [hx]; rfl
 rw [<- e]
 exact Wo
theorem Ug (C : List Int) (h1 : 0 < C.length) (hC : C.length <= 140737488355328) : FC Tryz.prog 79 [Aq C] [] (fun r o => o = [] /\ r = .i (IY C[0] C)) := by
 refine A9 Tryz.func79 rfl (by rw [Tryz.ntmps79]; simp) ?_
 rw [Tryz.ntmps79]
 simp only [Bz, Aq]
 have d0 : decide ((C.length : Int) < 1) = false := by simp; omega
 have g0 : (Aa C)[0]? = some (.v (.int .i64 C[0])) := Aj (gE1 h1)
 (refine Wf (an @Yi @d0) ?_;(repeat clear hK K);repeat refine kq fun K hK=>?_)
 refine Wm ?_
 (refine Wf (an @Yi (an @g0 @Int.toNat_zero)) ?_;(repeat clear hK K);repeat refine kq fun K hK=>?_)
 refine A6 (fun k : Nat => { tm := [(0, .a (.c (.t 1 (Aa C)))), (3, .i (IY C[0] (C.take k))), (4, .i k)], hp := [], n := 25, pin := 0 }) (fun k => 1 <= k /\ k <= C.length) (fun k => C.length - k) 1 ?_ ?_ ?_
 ·omega
 ·have e : C.take 1 = [C[0]] := by rw [gE8 h1]; rfl
  have e2 : IY C[0] [C[0]] = C[0] := by simp [IY]
  (refine BP ?_; simp only [Dq, go_sem, e, e2]; try simp)
 rintro k ⟨hk1, hk⟩ K hK
 by_cases hlt : k < C.length
 rotate_left
 ·have d1 : decide ((k : Int) < (C.length : Int)) = false := by simpa using hlt
  have he : C.take k = C := gE7 (by omega)
  rw [he]
  (refine Wf (an @Yi @d1) ?_;(repeat clear hK K);repeat refine kq fun K hK=>?_)
  refine Wm ?_
  (refine Wi ?_;repeat clear hK K)
  (refine We ?_;(repeat clear hK K);repeat refine kq fun K hK=>?_)
  exact P0 Tryz.results79
 have d1 : decide ((k : Int) < (C.length : Int)) = true := by simpa using hlt
 have g1 := Aj (gE1 hlt)
 (refine Wf (an @Yi @d1) ?_;(repeat clear hK K);repeat refine kq fun K hK=>?_)
 refine Wl ?_
 (refine Wf (an @Yi @g1) ?_;(repeat clear hK K);repeat refine kq fun K hK=>?_)
 refine Wn ?_
 refine hK _ (k + 1) ⟨by omega, by omega⟩ (by omega) ?_
 have e := gE8 hlt
 (refine BP ?_; simp only [Dq, go_sem, e, Oe]; try simp)
theorem Oj (R : List (List Ar)) : ∀ (f i : Nat) (num old : List Int) (out : List (List Ar)), ∃ l, (Dl R f i num old out).1 = out ++ l := by
 intro f
 induction f with
 | zero => intro i num old out; exact ⟨[], by simp [Dl]⟩
 | succ f ih =>
  intro i num old out
  unfold Dl
  split
  ·exact ⟨[], by simp⟩
  obtain ⟨l, hl⟩ := ih (i + 1) (Ez (Cx (R.getD (Int.toNat ‹_›) [])) num old []).1 (Ez (Cx (R.getD (Int.toNat ‹_›) [])) num old []).2.1 (out ++ [(Ez (Cx (R.getD (Int.toNat ‹_›) [])) num old []).2.2])
  exact ⟨_ :: l, by rw [hl, List.append_assoc]; rfl⟩
theorem Lb (x y : List (List Ar)) : AN (x ++ y) = AN x + AN y := by simp [AN]
theorem Qd (r : List Ar) : AN [r] = r.length := by simp [AN]
def Yb (q : List (List Ar)) (r : AV) (o : List Ob) : Prop :=
 if AN q <= 262144 then o = [.r ⟨25, 1, false, [.t 1 (Ai q)]⟩] /\ r = .tup [.g [.t 1 (Ai q)], .c (.v (.bool true))]
 else o = [.r ⟨25, 1, false, [.v (.slice none 0 0)]⟩] /\ r = .tup [.g [.v (.slice none 0 0)], .c (.v (.bool false))]
set_option maxHeartbeats 8000000 in
theorem Ol (R : List (List Ar)) (h1 : 1 <= R.length) (hbd : ∀ r ∈ R, ∀ a ∈ r, 0 <= a.2 /\ a.2 < (R.length : Int)) (hn : R.length <= 1000000) (hr : ∀ r ∈ R, r.length <= 1000000) : FC Tryz.prog 80 [.a (.c (.t 1 (Ai R)))] [] (Yb (CH R).1) := by
 refine A9 Tryz.func80 rfl (by rw [Tryz.ntmps80]; simp) ?_
 rw [Tryz.ntmps80]
 simp only [Bz]
 (refine Wf @A4 ?_;(repeat clear hK K);repeat refine kq fun K hK=>?_)
 (refine Ad rfl ?_; intro K1 hK1; refine AX (ids := []) [1] (Gg (-1) R.length h1 hn) rfl rfl (by simp only [go_sem]) (by first | assumption | kernel_rfl) rfl rfl (by (simp only [List.map_append, List.append_nil, go_sem]) <;> rfl) (by (simp only [VC, Aw, A7, go_sem]) <;> rfl) ?_ ?_)
 ·rintro _ _ ⟨rfl, rfl⟩; rfl
 rintro _ _ ⟨rfl, rfl⟩
 (simp only [Aq, Bc, Aw, CT, List.append_nil, List.nil_append, List.length_map, go_sem]; refine hK1 _ ?_; clear hK1 K1)
 have g0 : 0 < (List.replicate R.length (-1 : Int)).length := by simp; omega
 (refine Cr (an @A5 (an @List.length_replicate.{0} @B3)) ?_;(repeat clear hK K);repeat refine kq fun K hK=>?_)
 refine Av (Nu 41 1) ?_
 simp only [List.cons_append, List.nil_append]
 refine Av (Js 4 0 5 (by decide) rfl rfl rfl) ?_
 simp only [List.set_cons_zero, List.set_cons_succ]
 refine Av (A8 [0, 2, 3, 4, 5] rfl rfl) ?_
 (try simp only [List.set_nil, List.take_nil, List.take_zero, List.map_append, go_sem])
 (try simp only [Ak])
 refine A6 (fun x : Nat × List Int × List Int × List (List Ar) => { tm := [(0, .a (.c (.t 1 (Ai R)))), (2, .a (.c (.p 0 0))), (4, .a (.c (.s 1 R.length))), (5, .a (.c (.s 2 x.2.2.1.length))), (6, .i (AN x.2.2.2)), (7, .a (.c (.p 3 0))), (8, .i x.1)], hp := [.r ⟨25, 1, false, [.v (.slice none 0 0)]⟩, .r ⟨3, 1, true, A7 x.2.1⟩, .r ⟨3, 1, true, A7 x.2.2.1⟩, .r ⟨25, 1, false, [.s 4 x.1]⟩, .r ⟨41, 1, true, AC x.2.2.2⟩], n := 87, pin := 0 }) (fun x => NumOk R.length x.2.1 x.2.2.1 /\ NumInj x.2.1 x.2.2.1 /\ Dl R (R.length - x.1) x.1 x.2.1 x.2.2.1 x.2.2.2 = CH R /\ x.1 <= x.2.2.1.length /\ x.2.2.2.length = x.1 /\ AN x.2.2.2 <= 262144) (fun x => R.length - x.1) (0, (List.replicate R.length (-1)).set 0 0, [0], []) ?_ ?_ ?_
 ·exact ⟨NumOk.start h1, NumInj.start h1, rfl, by simp, rfl, by simp [AN]⟩
 ·simp only [AN, List.map_nil, List.sum_nil]
  exact Wo
 rintro ⟨i, num, old, out⟩ ⟨hN, hI, hC, hio, hoi, hto⟩ K hK
 simp only at hN hI hC hio hoi hto
 have hlen := hN.len
 have hle := hN.le
 by_cases hlt : i < old.length
 rotate_left
 ·have d1 : decide ((i : Int) < (old.length : Int)) = false := by simpa using hlt
  have hfin : CH R = (out, old) := by rw [<- hC]; exact Lz (by omega)
  (refine Wf (an @d1 @A5) ?_;(repeat clear hK K);repeat refine kq fun K hK=>?_)
  refine Wm ?_
  (refine Wi ?_;repeat clear hK K)
  refine Av (AR (r := ⟨41, 1, true, AC out⟩) (ri := ⟨25, 1, false, [.s 4 i]⟩) (ts := Ai out) 3 0 4 i (by decide) rfl rfl rfl rfl (show 0 < 1 by omega) (by simp only [Af, hoi]; omega) (Ee _)) ?_
  simp only [go_sem]
  refine Av (CD 3 rfl) ?_
  simp only [VH, go_sem]
  (refine Oy ?_;(repeat clear hK K);repeat refine kq fun K hK=>?_)
  refine Wp [0] Tryz.results80 ?_
  rw [hfin]
  unfold Yb
  rw [if_pos hto]
  exact ⟨rfl, rfl⟩
 have d1 : decide ((i : Int) < (old.length : Int)) = true := by simpa using hlt
 have hs0 := hN.st _ (gE6 hlt)
 obtain ⟨sn, hsn⟩ : ∃ sn : Nat, old[i] = sn := ⟨old[i].toNat, by omega⟩
 have hsl : sn < R.length := by omega
 have go : (A7 old)[i]? = some (.v (.int .i64 sn)) := by rw [<- hsn]; exact Ax (gE1 hlt)
 have hgR := gE1 hsl
 have hrl := hr _ (gE6 hsl)
 have hst := LA (rows := R) (n := R.length) (i := i) (num := num) (old := old) (out := out) (s := (sn : Int)) (r := R[sn]) (by omega) (by rw [gE1 hlt, hsn]) (by simp [hgR]) rfl
 generalize hrr : R[sn] = r at *
 have hcl := GX (At r) (by rw [A3]; omega)
 rw [Kx, A3, Al] at hcl
 (refine Wf (an @d1 @A5) ?_;(repeat clear hK K);repeat refine kq fun K hK=>?_)
 refine Wl ?_
 (refine Wf (an @A4 (an (Ac hgR) (an @A5 @go))) ?_;(repeat clear hK K);repeat refine kq fun K hK=>?_)
 (refine Wj hcl ?_; intro K1 hK1)
 rintro _ _ ⟨rfl, rfl⟩
 (simp only [Aq, Bc, CI, List.append_nil, List.nil_append, List.length_map, go_sem]; refine hK1 _ ?_; clear hK1 K1)
 (refine We ?_;(repeat clear hK K);repeat refine kq fun K hK=>?_)
 (refine Ad rfl ?_; intro K1 hK1; refine AX (ids := []) [5] (Kw 95 (by kernel_rfl) Oi r (by omega)) rfl rfl (by simp only [go_sem]) (by first | assumption | kernel_rfl) rfl rfl (by (simp only [List.map_append, List.append_nil, go_sem]) <;> rfl) (by (simp only [VC, D6, go_sem]) <;> rfl) ?_ ?_)
 ·rintro _ _ ⟨rfl, L', _, _, rfl⟩; rfl
 rintro _ _ ⟨rfl, L', hperm, hsort, rfl⟩
 (simp only [Aq, Bc, CI, List.append_nil, List.nil_append, List.length_map, go_sem]; refine hK1 _ ?_; clear hK1 K1)
 have hLl := hperm.length_eq
 have hq : LI L' = Cx r := by rw [N3]; exact MI hperm hsort
 rw [<- hLl]
 (refine We ?_;(repeat clear hK K);repeat refine kq fun K hK=>?_)
 (refine Ad rfl ?_; intro K1 hK1; refine AX (ids := []) [5] (Ix L' (by omega)) rfl rfl (by simp only [go_sem]) (by first | assumption | kernel_rfl) rfl rfl (by (simp only [List.map_append, List.append_nil, go_sem]) <;> rfl) (by (simp only [VC, D6, go_sem]) <;> rfl) ?_ ?_)
 ·rintro _ _ ⟨rfl, rest, us, _, _, rfl⟩; rfl
 rintro _ _ ⟨rfl, rest, us, hrest, hr0, rfl⟩
 (simp only [Aq, Bc, CI, List.append_nil, List.nil_append, List.length_map, go_sem]; refine hK1 _ ?_; clear hK1 K1)
 (refine We ?_;(repeat clear hK K);repeat refine kq fun K hK=>?_)
 obtain ⟨q, hqd⟩ : ∃ q, q = Cx r := ⟨_, rfl⟩
 rw [<- hqd] at hq hst
 have hqs : SortA q := by rw [hqd]; exact AP r
 have hql : q.length <= 1000000 := by rw [hqd]; exact Nat.le_trans (Iq r) (by omega)
 have hqb : ∀ a ∈ q, 0 <= a.2 /\ a.2 < (R.length : Int) := fun a ha => by
  rw [hqd, C9] at ha
  exact hbd r (by rw [<- hrr]; exact gE6 hsl) a ha
 rw [hq]
 refine Av (Rr 5 (q.length * 2) rfl ?_) ?_
 ·intro _ h
  rw [Ky _ _ _ (CI _ _)] at h
  have hq0 : q = [] := by
   have := congrArg List.length h
   rw [Ah] at this
   exact List.length_eq_zero_iff.1 (by simp at this; omega)
  have hL0 : L' = [] := by
   cases L' with
   | nil => rfl
   | cons x xs =>
    have : LI (x :: xs) = [] := by rw [hq, hq0]
    simp [LI] at this
  rw [hr0 hL0, hq0]; rfl
 simp only [Ky _ _ _ (CI _ _), go_sem]
 refine A6 (fun x : Nat × List Int × List Int × List Ar => { tm := [(0, .a (.c (.t 1 (Ai R)))), (2, .a (.c (.p 0 0))), (4, .a (.c (.s 1 R.length))), (5, .a (.c (.s 2 x.2.2.1.length))), (6, .i (AN out)), (7, .a (.c (.p 3 0))), (8, .i i), (9, .a (.c (.s 5 q.length))), (37, .a (.c (.s 5 q.length))), (38, .i q.length), (39, .i x.1)], hp := [.r ⟨25, 1, false, [.v (.slice none 0 0)]⟩, .r ⟨3, 1, true, A7 x.2.1⟩, .r ⟨3, 1, true, A7 x.2.2.1⟩, .r ⟨25, 1, false, [.s 4 i]⟩, .r ⟨41, 1, true, AC out⟩, .r ⟨40, 2, true, As x.2.2.2⟩], n := 87, pin := 0 }) (fun x => x.1 <= q.length /\ x.2.2.2.length = q.length /\ NumOk R.length x.2.1 x.2.2.1 /\ old.length <= x.2.2.1.length /\ NL (CY q num old) x.2.2.2 q x.1 x.2.1 x.2.2.1) (fun x => q.length - x.1) (0, num, old, q) ?_ ?_ ?_
 ·exact ⟨by simp, rfl, hN, Nat.le_refl _, NL.start q num old⟩
 ·exact Wo
 rintro ⟨k, num1, old1, ya⟩ ⟨hk, hyl, hN1, hol, hNL⟩ K hK
 simp only at hk hyl hN1 hol hNL
 have hlen1 := hN1.len
 have hle1 := hN1.le
 by_cases hlt2 : k < q.length
 rotate_left
 ·have d2 : decide ((k : Int) < (q.length : Int)) = false := by simpa using hlt2
  obtain ⟨f1, f2, f3⟩ := hNL.fin (by omega) hyl
  have hnd : ya.Nodup := by rw [f1]; exact LD q hqs (fun a ha => by rw [hlen]; exact hqb a ha) hI
  have hI2 : NumInj num1 old1 := by rw [f2, f3]; exact Ht q (fun a ha => by rw [hlen]; exact hqb a ha) hI
  (refine Wf @d2 ?_;(repeat clear hK K);repeat refine kq fun K hK=>?_)
  refine Wm ?_
  (refine Wi ?_;repeat clear hK K)
  rw [<- hyl]
  (refine We ?_;(repeat clear hK K);repeat refine kq fun K hK=>?_)
  (refine Ad rfl ?_; intro K1 hK1; refine AX (ids := []) [5] (Kw 95 (by kernel_rfl) Oi ya (by omega)) rfl rfl (by simp only [go_sem]) (by first | assumption | kernel_rfl) rfl rfl (by (simp only [List.map_append, List.append_nil, go_sem]) <;> rfl) (by (simp only [VC, D6, go_sem]) <;> rfl) ?_ ?_)
  ·rintro _ _ ⟨rfl, L2, _, _, rfl⟩; rfl
  rintro _ _ ⟨rfl, L2, hp2, hs2, rfl⟩
  (simp only [Aq, Bc, CI, List.append_nil, List.nil_append, List.length_map, go_sem]; refine hK1 _ ?_; clear hK1 K1)
  have hL2 : L2 = Cx ya := LC hnd hp2 hs2
  have hL2l := hp2.length_eq
  rw [<- hL2l]
  (refine D4 (BA (r := ⟨40, 2, true, As L2⟩) 5 (At L2) rfl (DA _) (show 0 < (2 : Nat) by omega)) ?_; simp only [ST.frz, A0.frz, AV.frz, C.frz, Nat.le_refl, List.set_cons_zero, List.set_cons_succ, go_sem, A3, Al, Bl, List.take_length])
  have htt : AN (out ++ [L2]) = AN out + L2.length := by rw [Lb, Qd]
  have hCn : Dl R (R.length - (i + 1)) (i + 1) num1 old1 (out ++ [L2]) = CH R := by
   rw [<- hC, hst, GZ, f2, f3, hL2, f1]
   rfl
  by_cases htb : AN (out ++ [L2]) > 262144
  ·have d5 : decide ((AN out : Int) + (L2.length : Int) > 262144) = true := gEg (by omega)
   (refine Wf (an @A3 (an @Al @d5)) ?_;(repeat clear hK K);repeat refine kq fun K hK=>?_)
   refine Wl ?_
   (refine Oy ?_;(repeat clear hK K);repeat refine kq fun K hK=>?_)
   refine Wp [0] Tryz.results80 ?_
   obtain ⟨l, hl⟩ := Oj R (R.length - (i + 1)) (i + 1) num1 old1 (out ++ [L2])
   rw [hCn] at hl
   unfold Yb
   rw [if_neg (by rw [hl, Lb]; omega)]
   exact ⟨rfl, rfl⟩
  have d5 : decide ((AN out : Int) + (L2.length : Int) > 262144) = false := decide_eq_false (by omega)
  have crp := LK out L2 hoi
  have ett : (AN out : Int) + (L2.length : Int) = (AN (out ++ [L2]) : Int) := by omega
  (refine Wf (an @A3 (an @Al @d5)) ?_;(repeat clear hK K);repeat refine kq fun K hK=>?_)
  refine Wm ?_
  (refine Cr (an @crp (an @Af @hoi)) ?_;(repeat clear hK K);repeat refine kq fun K hK=>?_)
  refine Wn ?_
  refine hK _ (i + 1, num1, old1, out ++ [L2]) ⟨hN1, hI2, hCn, by simp only; omega, by simp [hoi], by simp only; omega⟩ (by simp only; omega) ?_
  refine Le.trans (A8 [0, 1, 2, 3, 7] rfl rfl) ?_
  (try simp only [List.set_nil, List.take_nil, List.take_zero, List.map_append, go_sem])
  (try simp only [Ak, Bp, ett])
  exact Wo
 have d2 : decide ((k : Int) < (q.length : Int)) = true := by simpa using hlt2
 have hky : k < ya.length := by omega
 have hyq : ya[k] = q[k] := by
  have := congrArg (fun l => l[0]?) hNL.2.2.2
  simp only [List.getElem?_drop, Nat.add_zero] at this
  rw [gE1 hky, gE1 hlt2] at this
  exact Option.some.inj this
 have hyb := hqb _ (gE6 hlt2)
 rw [<- hyq] at hyb
 obtain ⟨e, tn, hya⟩ : ∃ (e : Int) (tn : Nat), ya[k] = (e, (tn : Int)) := ⟨ya[k].1, ya[k].2.toNat, by
  have : (ya[k].2.toNat : Int) = ya[k].2 := by omega
  rw [this]⟩
 have hyk : ya[k]? = some (e, (tn : Int)) := by rw [gE1 hky, hya]
 have htl : tn < R.length := by rw [hya] at hyb; have := hyb.2; simp only at this; omega
 have hat := DT hky
 rw [hya] at hat
 have gn : (A7 num1)[tn]? = some (.v (.int .i64 num1[tn])) := Ax (gE1 (by omega))
 have gn2 : num1[tn]? = some num1[tn] := gE1 (by omega)
 (refine Wf @d2 ?_;(repeat clear hK K);repeat refine kq fun K hK=>?_)
 refine Wl ?_
 by_cases hx : num1[tn] < 0
 rotate_left
 ·have d3 : decide (num1[tn] < 0) = false := by simpa using hx
  have cs := F8 hyk num1[tn]
  (refine Cr (an @hat (an @Ah (an @hyl (an @gn (an @d3 (an @A5 @hlen1)))))) ?_;(repeat clear hK K);repeat refine kq fun K hK=>?_)
  refine Wm ?_
  (refine Cr (an @gn (an @cs (an @Ah (an @hyl (an @A5 @hlen1))))) ?_;(repeat clear hK K);repeat refine kq fun K hK=>?_)
  refine Wn ?_
  refine hK _ (k + 1, num1, old1, ya.set k (e, num1[tn])) ⟨hlt2, by simp [hyl], hN1, hol, hNL.pos hyk gn2 hx⟩ (by simp only; omega) ?_
  refine Le.trans (A8 [0, 1, 2, 3, 4, 5] rfl rfl) ?_
  (try simp only [List.set_nil, List.take_nil, List.take_zero, List.map_append, go_sem])
  (try simp only [Ak, D6, Bp])
  exact Wo
 have d3 : decide (num1[tn] < 0) = true := by simpa using hx
 have gs : (A7 (num1.set tn (old1.length : Int)))[tn]? = some (.v (.int .i64 (old1.length : Int))) := Ax (gEc (by omega))
 have op := Pg old1 (tn : Int)
 have cs := F8 hyk (old1.length : Int)
 (refine Cr (an @hat (an @Ah (an @hyl (an @gn (an @d3 (an @A5 @hlen1)))))) ?_;(repeat clear hK K);repeat refine kq fun K hK=>?_)
 refine Wl ?_
 (refine Cr (an @A5 (an @hlen1 (an @B3 (an @op (an @gs (an @cs (an @Ah (an @hyl @List.length_set.{0})))))))) ?_;(repeat clear hK K);repeat refine kq fun K hK=>?_)
 refine Wn ?_
 have hone : B7 num1 old1 (tn : Int) = (num1.set tn (old1.length : Int), old1 ++ [(tn : Int)]) := by
  simp only [B7, Int.toNat_natCast, List.getD, gn2, Option.getD_some, if_pos hx]
 have hN2 := hN1.one (t := (tn : Int)) (by omega) (by omega)
 rw [hone] at hN2
 refine hK _ (k + 1, num1.set tn (old1.length : Int), old1 ++ [(tn : Int)], ya.set k (e, (old1.length : Int))) ⟨hlt2, by simp [hyl], hN2, by simp; omega, hNL.neg hyk gn2 hx rfl⟩ (by simp only; omega) ?_
 refine Le.trans (A8 [0, 1, 8, 3, 4, 5] rfl rfl) ?_
 (try simp only [List.set_nil, List.take_nil, List.take_zero, List.map_append, go_sem])
 (try simp only [Ak, D6, Bp])
 simp only [List.length_append, List.length_cons, List.length_nil]
 exact Wo
end Go.Proofs.YthnkailnoobdoaaGreatDoor
