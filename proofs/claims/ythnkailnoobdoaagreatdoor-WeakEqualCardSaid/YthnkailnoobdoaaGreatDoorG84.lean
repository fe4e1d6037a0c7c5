/- Lemmas. -/
import Derived.Test.YthnkailnoobdoaaGreatDoorZk
import Derived.Test.YthnkailnoobdoaaGreatDoorG36
import Derived.Test.YthnkailnoobdoaaGreatDoorG37
import Derived.Test.YthnkailnoobdoaaGreatDoorG77
import Derived.Test.YthnkailnoobdoaaGreatDoorMF
namespace Go.Proofs.YthnkailnoobdoaaGreatDoor
set_option linter.unusedVariables false
set_option linter.unusedSimpArgs false
open Go.RowKit
set_option maxRecDepth 100000
attribute [local go_sem] lga C.pl C.one

def JH (R R' : List (List Ar)) : Prop := R'.length = R.length /\ ∀ q ∈ R', q.length <= 11 /\ ∀ x ∈ q, 0 <= x.1 /\ x.1 <= 1025 /\ 0 <= x.2 /\ x.2 < (R.length : Int)
set_option maxHeartbeats 4000000 in
theorem Hc (T : List Int) (hT : TpOk T) (a : Nat) (R : List (List Ar)) (ha : a <= 1000000) (h1 : 1 <= R.length) (hn : R.length <= 20) (hr : ∀ r ∈ R, r.length <= 10 /\ ∀ x ∈ r, 0 <= x.1 /\ x.1 <= 1025 /\ 0 <= x.2 /\ x.2 < (R.length : Int)) :
  FC Tryz.prog 10 [.a (.c (.p 0 0)), Bh R] [tape T a] (fun r o => ∃ (a' : Nat) (R' : List (List Ar)), (o = [tape T a', KN R'] /\ r = Bh R') /\ a' <= a + 6 /\ JH R R') := by
 refine A9 Tryz.func10 rfl (by rw [Tryz.ntmps10]; simp) ?_
 rw [Tryz.ntmps10]
 simp only [Bz, tape, Bh, KN]
 (refine We ?_;(repeat clear hK K);repeat refine kq fun K hK=>?_)
 (refine Wj (PE R (by omega) (fun q hq => by have := (hr q hq).1; omega)) ?_; intro K1 hK1)
 rintro _ _ ⟨rfl, rfl⟩
 (simp only [Aq, Bc, Nv, List.append_nil, List.nil_append, List.length_map, go_sem]; refine hK1 _ ?_; clear hK1 K1)
 (refine We ?_;(repeat clear hK K);repeat refine kq fun K hK=>?_)
 refine D4 (CD 3 rfl) ?_
 simp only [Gs, go_sem]
 (refine Ad rfl ?_; intro K1 hK1; refine ct [0] (BW T a R.length hT (by omega) (by omega)) ?_ ?_)
 ·rintro _ _ ⟨rfl, v, rfl, _⟩; rfl
 rintro _ _ ⟨rfl, s, rfl, hs⟩
 (simp only [Aq, Bc, tape, AL, List.append_nil, List.nil_append, List.length_map, go_sem]; refine hK1 _ ?_; clear hK1 K1)
 replace hs : s < R.length := by omega
 have hgs := gE1 hs
 have hrs := hr _ (gE6 hs)
 have hR1 : JH R R := ⟨rfl, fun q hq => ⟨Nat.le_trans (hr q hq).1 (by omega), (hr q hq).2⟩⟩
 generalize R[s] = row at *
 by_cases hpos : row.length = 0
 ·have d0 : decide ((row.length : Int) > 0) = false := decide_eq_false (by omega)
  (refine Wf (an @Af (an (B5 hgs) (an @A3 (an @Al @d0)))) ?_;(repeat clear hK K);repeat refine kq fun K hK=>?_)
  refine Wm ?_
  (refine We ?_;(repeat clear hK K);repeat refine kq fun K hK=>?_)
  (refine Ad rfl ?_; intro K1 hK1; refine ct [0] (BW T (a + 1) 3 hT (by omega) (by omega)) ?_ ?_)
  ·rintro _ _ ⟨rfl, v, rfl, _⟩; rfl
  rintro _ _ ⟨rfl, v, rfl, hv⟩
  (simp only [Aq, Bc, tape, AL, List.append_nil, List.nil_append, List.length_map, go_sem]; refine hK1 _ ?_; clear hK1 K1)
  by_cases hv0 : v = 0
  ·have d1 : decide ((v : Int) > 0) = false := decide_eq_false (by omega)
   (refine Wf @d1 ?_;(repeat clear hK K);repeat refine kq fun K hK=>?_)
   refine Wm ?_
   refine Av (AR (r := ⟨41, 1, true, AC (R)⟩) (ri := ⟨25, 1, false, [.s 3 R.length]⟩) (ts := Ai (R)) 5 0 3 R.length (by decide) rfl rfl rfl rfl (show 0 < 1 by omega) (by rw [Af, Nat.mul_one, (hR1).1]) (Ee _)) ?_
   simp only [go_sem]
   refine Av (CD 5 rfl) ?_
   simp only [VH, go_sem]
   (refine We ?_;(repeat clear hK K);repeat refine kq fun K hK=>?_)
   refine Wp [0, 2] Tryz.results10 ?_
   exact ⟨a + 1 + 1, R, ⟨rfl, rfl⟩, by omega, hR1⟩
  have d1 : decide ((v : Int) > 0) = true := gEg (by omega)
  (refine Wf @d1 ?_;(repeat clear hK K);repeat refine kq fun K hK=>?_)
  refine Wl ?_
  have hne : (AC (R)).isEmpty = false := by
   have h9 := (hR1).1
   cases h8 : (AC (R)) with
   | nil =>
    have h7 := congrArg List.length h8
    rw [Af, h9, List.length_nil] at h7
    omega
   | cons x xs => rfl
  (refine AD [5, 3] (.m 0 0 0 (.m 2 0 0 (.m 3 0 0 (.m 5 0 0 (.m 8 0 0 (.m 10 0 0 (.m 11 0 0 (.m 1 1 18 (.m 4 1 16 (.m 6 0 0 (.m 7 1 16 (.m 12 1 14 (.m 13 0 0 (.a 9 (.a 14 (.m 15 0 0 (.a 16 (.m 17 0 0 (.a 18 .e))))))))))))))))))) (by kernel_rfl) (by kernel_rfl) (by intro c st h; simp [Ae, AJ, VD] at h) ?_)
  (refine Wh (an @Af (an (B5 hgs) ((hR1).1))) ?_; repeat clear hK K)
  (refine EY rfl rfl rfl ?_; intro K1 hK1; refine yX [0] ?_; refine xy [0] (DU T hT (a + 1 + 1) (by omega)) ?_ ?_)
  ·rintro _ _ ⟨rfl, v, rfl, _⟩; exact C8 rfl
  rintro _ _ ⟨rfl, e, rfl, he⟩
  (simp only [Aq, Bc, tape, AL, List.append_nil, List.nil_append, List.length_map, go_sem]; refine hK1 _ ?_; clear hK1 K1)
  (refine Wg ?_; repeat clear hK K)
  (refine EY rfl rfl rfl ?_; intro K1 hK1; refine yX [0] ?_; refine xy [0] (BW T (a + 1 + 1 + 1) R.length hT (by omega) (by omega)) ?_ ?_)
  ·rintro _ _ ⟨rfl, v, rfl, _⟩; exact C8 rfl
  rintro _ _ ⟨rfl, t, rfl, ht⟩
  (simp only [Aq, Bc, tape, AL, List.append_nil, List.nil_append, List.length_map, go_sem]; refine hK1 _ ?_; clear hK1 K1)
  (refine Wg ?_; repeat clear hK K)
  (refine W4 rfl rfl ?_; intro K1 hK1; refine StpC.f (B1 (ids := []) (F4 row (e, (t : Int)) (by omega)) rfl rfl (by simp only [go_sem]) (by kernel_rfl) (by (simp only [List.append_nil, go_sem]) <;> rfl) ?_))
  rintro _ _ ⟨rfl, rfl⟩
  simp only [Dx]
  (simp only [Aq, Bc, AL, List.append_nil, List.nil_append, List.length_map, go_sem]; refine hK1 _ ?_; clear hK1 K1)
  dsimp only
  have hcs : ∀ q : List Ar, (AC (R)).set s (.t 2 (At q)) = AC ((R).set s q) := fun q => by simp [AC, List.map_set]
  have hR2 : JH R ((R).set s (CK (e, (t : Int)) row)) := ⟨by rw [List.length_set, (hR1).1], fun q hq => by
   rcases List.mem_or_eq_of_mem_set hq with hq | rfl
   ·exact (hR1).2 q hq
   ·refine ⟨by have := Dj (e, (t : Int)) row; have := (hrs).1; omega, fun x hx => ?_⟩
    rcases (Di _ _ _).1 hx with rfl | hx
    ·simp only; omega
    ·exact (hrs).2 x hx⟩
  (refine Wh (an @Af ((hR1).1)) ?_; repeat clear hK K)
  (refine W5 rfl rfl rfl rfl ?_; intro K1 hK1; refine B4 rfl ?_; simp only [go_sem, Af, hcs, List.length_set, (hR1).1]; (first | refine hK1 _ ?_ | refine AE (hK1 _ ?_)); clear hK1 K1)
  refine Cg ⟨by simp, by simp, ?_⟩
  (try simp only [Ae, AJ])
  refine hK _ ?_
  clear hK K
  refine Av (AR (r := ⟨41, 1, true, AC ((R).set s (CK (e, (t : Int)) row))⟩) (ri := ⟨25, 1, false, [.s 3 R.length]⟩) (ts := Ai ((R).set s (CK (e, (t : Int)) row))) 5 0 3 R.length (by decide) rfl rfl rfl rfl (show 0 < 1 by omega) (by rw [Af, Nat.mul_one, (hR2).1]) (Ee _)) ?_
  simp only [go_sem]
  refine Av (CD 5 rfl) ?_
  simp only [VH, go_sem]
  (refine We ?_;(repeat clear hK K);repeat refine kq fun K hK=>?_)
  refine Wp [0, 2] Tryz.results10 ?_
  exact ⟨a + 1 + 1 + 1 + 1, (R).set s (CK (e, (t : Int)) row), ⟨rfl, rfl⟩, by omega, hR2⟩
 have d0 : decide ((row.length : Int) > 0) = true := gEg (by omega)
 (refine Wf (an @Af (an (B5 hgs) (an @A3 (an @Al @d0)))) ?_;(repeat clear hK K);repeat refine kq fun K hK=>?_)
 (refine Cn rfl rfl (by simp only [go_sem] <;> rfl) ?_; intro K1 hK1; refine ct [0] (BW T (a + 1) 2 hT (by omega) (by omega)) ?_ ?_)
 ·rintro _ _ ⟨rfl, v, rfl, _⟩; rfl
 rintro _ _ ⟨rfl, v, rfl, hv⟩
 (simp only [Aq, Bc, tape, AL, List.append_nil, List.nil_append, List.length_map, go_sem]; refine hK1 _ ?_; clear hK1 K1)
 by_cases hv0 : v = 0
 rotate_left
 ·have d2 : ((v : Int) == 0) = false := by simp [hv0]
  (refine Wf @d2 ?_;(repeat clear hK K);repeat refine kq fun K hK=>?_)
  refine Wm ?_
  (refine We ?_;(repeat clear hK K);repeat refine kq fun K hK=>?_)
  (refine Ad rfl ?_; intro K1 hK1; refine ct [0] (BW T (a + 1 + 1) 3 hT (by omega) (by omega)) ?_ ?_)
  ·rintro _ _ ⟨rfl, v, rfl, _⟩; rfl
  rintro _ _ ⟨rfl, v, rfl, hv⟩
  (simp only [Aq, Bc, tape, AL, List.append_nil, List.nil_append, List.length_map, go_sem]; refine hK1 _ ?_; clear hK1 K1)
  by_cases hv0 : v = 0
  ·have d1 : decide ((v : Int) > 0) = false := decide_eq_false (by omega)
   (refine Wf @d1 ?_;(repeat clear hK K);repeat refine kq fun K hK=>?_)
   refine Wm ?_
   refine Av (AR (r := ⟨41, 1, true, AC (R)⟩) (ri := ⟨25, 1, false, [.s 3 R.length]⟩) (ts := Ai (R)) 5 0 3 R.length (by decide) rfl rfl rfl rfl (show 0 < 1 by omega) (by rw [Af, Nat.mul_one, (hR1).1]) (Ee _)) ?_
   simp only [go_sem]
   refine Av (CD 5 rfl) ?_
   simp only [VH, go_sem]
   (refine We ?_;(repeat clear hK K);repeat refine kq fun K hK=>?_)
   refine Wp [0, 2] Tryz.results10 ?_
   exact ⟨a + 1 + 1 + 1, R, ⟨rfl, rfl⟩, by omega, hR1⟩
  have d1 : decide ((v : Int) > 0) = true := gEg (by omega)
  (refine Wf @d1 ?_;(repeat clear hK K);repeat refine kq fun K hK=>?_)
  refine Wl ?_
  have hne : (AC (R)).isEmpty = false := by
   have h9 := (hR1).1
   cases h8 : (AC (R)) with
   | nil =>
    have h7 := congrArg List.length h8
    rw [Af, h9, List.length_nil] at h7
    omega
   | cons x xs => rfl
  (refine AD [5, 3] (.m 0 0 0 (.m 2 0 0 (.m 3 0 0 (.m 5 0 0 (.m 8 0 0 (.m 10 0 0 (.m 11 0 0 (.m 1 1 18 (.m 4 1 16 (.m 6 0 0 (.m 7 1 16 (.m 12 1 14 (.m 13 0 0 (.a 9 (.a 14 (.m 15 0 0 (.a 16 (.m 17 0 0 (.a 18 .e))))))))))))))))))) (by kernel_rfl) (by kernel_rfl) (by intro c st h; simp [Ae, AJ, VD] at h) ?_)
  (refine Wh (an @Af (an (B5 hgs) ((hR1).1))) ?_; repeat clear hK K)
  (refine EY rfl rfl rfl ?_; intro K1 hK1; refine yX [0] ?_; refine xy [0] (DU T hT (a + 1 + 1 + 1) (by omega)) ?_ ?_)
  ·rintro _ _ ⟨rfl, v, rfl, _⟩; exact C8 rfl
  rintro _ _ ⟨rfl, e, rfl, he⟩
  (simp only [Aq, Bc, tape, AL, List.append_nil, List.nil_append, List.length_map, go_sem]; refine hK1 _ ?_; clear hK1 K1)
  (refine Wg ?_; repeat clear hK K)
  (refine EY rfl rfl rfl ?_; intro K1 hK1; refine yX [0] ?_; refine xy [0] (BW T (a + 1 + 1 + 1 + 1) R.length hT (by omega) (by omega)) ?_ ?_)
  ·rintro _ _ ⟨rfl, v, rfl, _⟩; exact C8 rfl
  rintro _ _ ⟨rfl, t, rfl, ht⟩
  (simp only [Aq, Bc, tape, AL, List.append_nil, List.nil_append, List.length_map, go_sem]; refine hK1 _ ?_; clear hK1 K1)
  (refine Wg ?_; repeat clear hK K)
  (refine W4 rfl rfl ?_; intro K1 hK1; refine StpC.f (B1 (ids := []) (F4 row (e, (t : Int)) (by omega)) rfl rfl (by simp only [go_sem]) (by kernel_rfl) (by (simp only [List.append_nil, go_sem]) <;> rfl) ?_))
  rintro _ _ ⟨rfl, rfl⟩
  simp only [Dx]
  (simp only [Aq, Bc, AL, List.append_nil, List.nil_append, List.length_map, go_sem]; refine hK1 _ ?_; clear hK1 K1)
  dsimp only
  have hcs : ∀ q : List Ar, (AC (R)).set s (.t 2 (At q)) = AC ((R).set s q) := fun q => by simp [AC, List.map_set]
  have hR2 : JH R ((R).set s (CK (e, (t : Int)) row)) := ⟨by rw [List.length_set, (hR1).1], fun q hq => by
   rcases List.mem_or_eq_of_mem_set hq with hq | rfl
   ·exact (hR1).2 q hq
   ·refine ⟨by have := Dj (e, (t : Int)) row; have := (hrs).1; omega, fun x hx => ?_⟩
    rcases (Di _ _ _).1 hx with rfl | hx
    ·simp only; omega
    ·exact (hrs).2 x hx⟩
  (refine Wh (an @Af ((hR1).1)) ?_; repeat clear hK K)
  (refine W5 rfl rfl rfl rfl ?_; intro K1 hK1; refine B4 rfl ?_; simp only [go_sem, Af, hcs, List.length_set, (hR1).1]; (first | refine hK1 _ ?_ | refine AE (hK1 _ ?_)); clear hK1 K1)
  refine Cg ⟨by simp, by simp, ?_⟩
  (try simp only [Ae, AJ])
  refine hK _ ?_
  clear hK K
  refine Av (AR (r := ⟨41, 1, true, AC ((R).set s (CK (e, (t : Int)) row))⟩) (ri := ⟨25, 1, false, [.s 3 R.length]⟩) (ts := Ai ((R).set s (CK (e, (t : Int)) row))) 5 0 3 R.length (by decide) rfl rfl rfl rfl (show 0 < 1 by omega) (by rw [Af, Nat.mul_one, (hR2).1]) (Ee _)) ?_
  simp only [go_sem]
  refine Av (CD 5 rfl) ?_
  simp only [VH, go_sem]
  (refine We ?_;(repeat clear hK K);repeat refine kq fun K hK=>?_)
  refine Wp [0, 2] Tryz.results10 ?_
  exact ⟨a + 1 + 1 + 1 + 1 + 1, (R).set s (CK (e, (t : Int)) row), ⟨rfl, rfl⟩, by omega, hR2⟩
 have d2 : ((v : Int) == 0) = true := by simp [hv0]
 (refine Wf @d2 ?_;(repeat clear hK K);repeat refine kq fun K hK=>?_)
 refine Wl ?_
 (refine We ?_;(repeat clear hK K);repeat refine kq fun K hK=>?_)
 (refine Ad rfl ?_; intro K1 hK1; refine ct [0] (BW T (a + 1 + 1) row.length hT (by omega) (by omega)) ?_ ?_)
 ·rintro _ _ ⟨rfl, v, rfl, _⟩; rfl
 rintro _ _ ⟨rfl, k, rfl, hk⟩
 (simp only [Aq, Bc, tape, AL, List.append_nil, List.nil_append, List.length_map, go_sem]; refine hK1 _ ?_; clear hK1 K1)
 (refine We ?_;(repeat clear hK K);repeat refine kq fun K hK=>?_)
 have hk2 : k < row.length := by omega
 have hne : (AC R).isEmpty = false := by
  cases h8 : AC R with
  | nil =>
   have h7 := congrArg List.length h8
   rw [Af, List.length_nil] at h7
   omega
  | cons x xs => rfl
 have hk1 : ((k : Int) + 1).toNat = k + 1 := by omega
 have hT1 : (At row).take (k * 2) = At (row.take k) := by rw [Bl]
 have hT2 : (At row).drop ((k + 1) * 2) = At (row.drop (k + 1)) := by
  have h := List.take_append_drop ((k + 1) * 2) (At row)
  have h2 : At row = At (row.take (k + 1)) ++ At (row.drop (k + 1)) := by unfold At; rw [<- List.flatMap_append, List.take_append_drop]
  rw [h2, List.drop_append_of_le_length (by rw [A3, List.length_take]; omega), List.drop_eq_nil_of_le (by rw [A3, List.length_take]; omega), List.nil_append]
 have hl1 : (row.take k).length = k := by rw [List.length_take]; omega
 have hl2 : (row.drop (k + 1)).length <= 10 := by rw [List.length_drop]; have := hrs.1; omega
 (refine AD [5, 3] (.m 0 0 0 (.m 2 0 0 (.m 4 0 0 (.m 6 0 0 (.m 9 0 0 (.m 12 0 0 (.m 14 0 0 (.m 17 0 0 (.m 18 0 0 (.m 1 1 22 (.m 5 1 11 (.m 7 0 0 (.m 8 1 11 (.m 10 0 0 (.m 13 1 20 (.m 15 0 0 (.m 16 1 20 (.m 19 0 0 (.a 3 (.a 11 (.a 20 (.m 21 0 0 (.a 22 .e))))))))))))))))))))))) (by kernel_rfl) (by kernel_rfl) (by intro c st h; simp [Ae, AJ, VD] at h) ?_)
 (refine Wh (an @Af (an (B5 hgs) (an @A3 (an @Al (an @hk1 (an @hT1 @hT2)))))) ?_; repeat clear hK K)
 generalize hq1 : row.take k = q1 at *
 generalize hq2 : row.drop (k + 1) = q2 at *
 (refine W4 rfl rfl ?_; intro K1 hK1; refine BF rfl ?_; simp only [go_sem]; (first | refine hK1 _ ?_ | refine AE (hK1 _ ?_)); clear hK1 K1)
 (refine EY rfl rfl rfl ?_; intro K1 hK1; refine CF rfl rfl rfl rfl (by first | rfl | simp only [CM, List.getD_cons_zero, List.getD_cons_succ, hne, List.isEmpty_cons, Bool.not_false, Bool.true_and, Bool.and_true, Bool.and_self]) rfl ?_; simp only [go_sem, Co, A3, Al, Cm, hl1]; (first | refine hK1 _ ?_ | refine AE (hK1 _ ?_)); clear hK1 K1)
 have hct : (As q1).take (k * 2) = As q1 := gE7 (by rw [Ah, hl1]; exact Nat.le_refl _)
 (refine EY rfl rfl rfl ?_; intro K1 hK1; refine CF rfl rfl rfl rfl (by first | rfl | simp only [CM, List.getD_cons_zero, List.getD_cons_succ, hne, List.isEmpty_cons, Bool.not_false, Bool.true_and, Bool.and_true, Bool.and_self]) rfl ?_; simp only [go_sem, Co, A3, Al, Ah, hl1, hct, Cm]; (first | refine hK1 _ ?_ | refine AE (hK1 _ ?_)); clear hK1 K1)
 (refine Wh @Af ?_; repeat clear hK K)
 (refine W5 rfl rfl rfl rfl ?_; intro K1 hK1; refine B4 rfl ?_; simp only [go_sem, Af, List.length_set]; (first | refine hK1 _ ?_ | refine AE (hK1 _ ?_)); clear hK1 K1)
 refine Cg ⟨by simp, by simp, ?_⟩
 (try simp only [Ae, AJ])
 refine hK _ ?_
 clear hK K
 have hj6 : ((AC R).set s (C.s 8 (k + q2.length)))[s]? = some (.s 8 (k + q2.length)) := by rw [gEc (by rw [Af]; exact hs)]
 refine Av (AR (r := ⟨40, 2, true, As (q1 ++ q2)⟩) (ri := ⟨41, 1, true, (AC R).set s (C.s 8 (k + q2.length))⟩) (ts := At (q1 ++ q2)) 3 s 8 (k + q2.length) (by decide) rfl hj6 rfl rfl (show 0 < 2 by omega) (by rw [Ah, List.length_append, hl1]) (DA _)) ?_
 simp only [go_sem]
 refine Av (CD 3 rfl) ?_
 have hos : (((AC R).set s (C.s 8 (k + q2.length))).set s (.o (2, 40) (At (q1 ++ q2)))).map VH = AC (R.set s (q1 ++ q2)) := by
  rw [List.set_set]; simp [AC, List.map_set, VH, Function.comp_def]
 simp only [hos, go_sem]
 have hsub : ∀ x ∈ q1 ++ q2, x ∈ row := fun x hx => by
  rcases List.mem_append.1 hx with hx | hx
  ·rw [<- hq1] at hx; exact List.mem_of_mem_take hx
  rw [<- hq2] at hx; exact List.mem_of_mem_drop hx
 have hl3 : (q1 ++ q2).length <= 10 /\ ∀ x ∈ q1 ++ q2, 0 <= x.1 /\ x.1 <= 1025 /\ 0 <= x.2 /\ x.2 < (R.length : Int) := ⟨by rw [List.length_append, hl1, <- hq2, List.length_drop]; have := hrs.1; omega, fun x hx => hrs.2 x (hsub x hx)⟩
 have hv3 : JH R (R.set s (q1 ++ q2)) := ⟨by rw [List.length_set], fun q hq => by
  rcases List.mem_or_eq_of_mem_set hq with hq | rfl
  ·exact hR1.2 q hq
  ·exact ⟨by have := hl3.1; omega, hl3.2⟩⟩
 have hg3 : (R.set s (q1 ++ q2))[s]? = some (q1 ++ q2) := gEc hs
 generalize R.set s (q1 ++ q2) = R3 at *
 generalize q1 ++ q2 = q3 at *
 (refine We ?_;(repeat clear hK K);repeat refine kq fun K hK=>?_)
 (refine Ad rfl ?_; intro K1 hK1; refine ct [0] (BW T (a + 1 + 1 + 1) 3 hT (by omega) (by omega)) ?_ ?_)
 ·rintro _ _ ⟨rfl, v, rfl, _⟩; rfl
 rintro _ _ ⟨rfl, v, rfl, hv⟩
 (simp only [Aq, Bc, tape, AL, List.append_nil, List.nil_append, List.length_map, go_sem]; refine hK1 _ ?_; clear hK1 K1)
 by_cases hv0 : v = 0
 ·have d1 : decide ((v : Int) > 0) = false := decide_eq_false (by omega)
  (refine Wf @d1 ?_;(repeat clear hK K);repeat refine kq fun K hK=>?_)
  refine Wm ?_
  refine Av (AR (r := ⟨41, 1, true, AC (R3)⟩) (ri := ⟨25, 1, false, [.s 3 R.length]⟩) (ts := Ai (R3)) 5 0 3 R.length (by decide) rfl rfl rfl rfl (show 0 < 1 by omega) (by rw [Af, Nat.mul_one, (hv3).1]) (Ee _)) ?_
  simp only [go_sem]
  refine Av (CD 5 rfl) ?_
  simp only [VH, go_sem]
  (refine We ?_;(repeat clear hK K);repeat refine kq fun K hK=>?_)
  refine Wp [0, 2] Tryz.results10 ?_
  exact ⟨a + 1 + 1 + 1 + 1, R3, ⟨rfl, rfl⟩, by omega, hv3⟩
 have d1 : decide ((v : Int) > 0) = true := gEg (by omega)
 (refine Wf @d1 ?_;(repeat clear hK K);repeat refine kq fun K hK=>?_)
 refine Wl ?_
 have hne : (AC (R3)).isEmpty = false := by
  have h9 := (hv3).1
  cases h8 : (AC (R3)) with
  | nil =>
   have h7 := congrArg List.length h8
   rw [Af, h9, List.length_nil] at h7
   omega
  | cons x xs => rfl
 (refine AD [5, 3] (.m 0 0 0 (.m 2 0 0 (.m 3 0 0 (.m 5 0 0 (.m 8 0 0 (.m 10 0 0 (.m 11 0 0 (.m 1 1 18 (.m 4 1 16 (.m 6 0 0 (.m 7 1 16 (.m 12 1 14 (.m 13 0 0 (.a 9 (.a 14 (.m 15 0 0 (.a 16 (.m 17 0 0 (.a 18 .e))))))))))))))))))) (by kernel_rfl) (by kernel_rfl) (by intro c st h; simp [Ae, AJ, VD] at h) ?_)
 (refine Wh (an @Af (an (B5 hg3) ((hv3).1))) ?_; repeat clear hK K)
 (refine EY rfl rfl rfl ?_; intro K1 hK1; refine yX [0] ?_; refine xy [0] (DU T hT (a + 1 + 1 + 1 + 1) (by omega)) ?_ ?_)
 ·rintro _ _ ⟨rfl, v, rfl, _⟩; exact C8 rfl
 rintro _ _ ⟨rfl, e, rfl, he⟩
 (simp only [Aq, Bc, tape, AL, List.append_nil, List.nil_append, List.length_map, go_sem]; refine hK1 _ ?_; clear hK1 K1)
 (refine Wg ?_; repeat clear hK K)
 (refine EY rfl rfl rfl ?_; intro K1 hK1; refine yX [0] ?_; refine xy [0] (BW T (a + 1 + 1 + 1 + 1 + 1) R.length hT (by omega) (by omega)) ?_ ?_)
 ·rintro _ _ ⟨rfl, v, rfl, _⟩; exact C8 rfl
 rintro _ _ ⟨rfl, t, rfl, ht⟩
 (simp only [Aq, Bc, tape, AL, List.append_nil, List.nil_append, List.length_map, go_sem]; refine hK1 _ ?_; clear hK1 K1)
 (refine Wg ?_; repeat clear hK K)
 (refine W4 rfl rfl ?_; intro K1 hK1; refine StpC.f (B1 (ids := []) (F4 q3 (e, (t : Int)) (by omega)) rfl rfl (by simp only [go_sem]) (by kernel_rfl) (by (simp only [List.append_nil, go_sem]) <;> rfl) ?_))
 rintro _ _ ⟨rfl, rfl⟩
 simp only [Dx]
 (simp only [Aq, Bc, AL, List.append_nil, List.nil_append, List.length_map, go_sem]; refine hK1 _ ?_; clear hK1 K1)
 dsimp only
 have hcs : ∀ q : List Ar, (AC (R3)).set s (.t 2 (At q)) = AC ((R3).set s q) := fun q => by simp [AC, List.map_set]
 have hR2 : JH R ((R3).set s (CK (e, (t : Int)) q3)) := ⟨by rw [List.length_set, (hv3).1], fun q hq => by
  rcases List.mem_or_eq_of_mem_set hq with hq | rfl
  ·exact (hv3).2 q hq
  ·refine ⟨by have := Dj (e, (t : Int)) q3; have := (hl3).1; omega, fun x hx => ?_⟩
   rcases (Di _ _ _).1 hx with rfl | hx
   ·simp only; omega
   ·exact (hl3).2 x hx⟩
 (refine Wh (an @Af ((hv3).1)) ?_; repeat clear hK K)
 (refine W5 rfl rfl rfl rfl ?_; intro K1 hK1; refine B4 rfl ?_; simp only [go_sem, Af, hcs, List.length_set, (hv3).1]; (first | refine hK1 _ ?_ | refine AE (hK1 _ ?_)); clear hK1 K1)
 refine Cg ⟨by simp, by simp, ?_⟩
 (try simp only [Ae, AJ])
 refine hK _ ?_
 clear hK K
 refine Av (AR (r := ⟨41, 1, true, AC ((R3).set s (CK (e, (t : Int)) q3))⟩) (ri := ⟨25, 1, false, [.s 3 R.length]⟩) (ts := Ai ((R3).set s (CK (e, (t : Int)) q3))) 5 0 3 R.length (by decide) rfl rfl rfl rfl (show 0 < 1 by omega) (by rw [Af, Nat.mul_one, (hR2).1]) (Ee _)) ?_
 simp only [go_sem]
 refine Av (CD 5 rfl) ?_
 simp only [VH, go_sem]
 (refine We ?_;(repeat clear hK K);repeat refine kq fun K hK=>?_)
 refine Wp [0, 2] Tryz.results10 ?_
 exact ⟨a + 1 + 1 + 1 + 1 + 1 + 1, (R3).set s (CK (e, (t : Int)) q3), ⟨rfl, rfl⟩, by omega, hR2⟩
attribute [local go_sem] List.set_cons_zero List.set_cons_succ List.map_cons List.map_nil List.take_succ_cons List.take_zero List.drop_zero List.drop_succ_cons C.pl C.one List.all_cons List.all_nil Bool.and_true
def HO (R : List (List Ar)) : Bool := decide (R.length > 12) || decide (AN R > 60)
theorem SD (R : List (List Ar)) (hn : R.length <= 140737488355328) (hr : ∀ r ∈ R, r.length <= 140737488355328) : FC Tryz.prog 14 [Bh R] [] (fun r o => o = [] /\ r = .b (HO R)) := by
 refine A9 Tryz.func14 rfl (by rw [Tryz.ntmps14]; simp) ?_
 rw [Tryz.ntmps14]
 simp only [Bz, Bh]
 (refine We ?_;(repeat clear hK K);repeat refine kq fun K hK=>?_)
 refine A6 (fun k : Nat => { tm := [(1, .a (.c (.p 0 0))), (3, .i (AN (R.take k) : Int)), (4, .i k)], hp := [.r ⟨25, 1, false, [.t 1 (Ai R)]⟩], n := 32, pin := 0 }) (fun k => k <= R.length) (fun k => R.length - k) 0 ?_ ?_ ?_
 ·omega
 ·(refine BP ?_; simp only [Dq, go_sem, List.take_zero, AN, List.map_nil, List.sum_nil, Int.natCast_zero]; try simp)
 rintro k hk K hK
 have hle := Gc R k
 have hfull : k = R.length -> AN (R.take k) = AN R := fun e => by rw [e, List.take_length]
 by_cases hlt : k < R.length
 ·have hl1 : decide ((k : Int) < (R.length : Int)) = true := by simpa using hlt
  have hgk := gE1 hlt
  have hrk := hr _ (gE6 hlt)
  have htk := BX hlt
  generalize hW : AN (R.take k) = W at *
  by_cases h60 : W <= 60
  ·have d2 : decide ((W : Int) <= 60) = true := by simp; omega
   have e3 : ((W : Int) + (R[k].length : Int)) = (AN (R.take (k + 1)) : Int) := by omega
   (refine Wf (an @hl1 (an @d2 @A4)) ?_;(repeat clear hK K);repeat refine kq fun K hK=>?_)
   refine Wl ?_
   (refine Wf (an (Ac hgk) (an @A4 (an @A3 (an @Al @e3)))) ?_;(repeat clear hK K);repeat refine kq fun K hK=>?_)
   refine Wn ?_
   refine hK _ (k + 1) (by omega) (by omega) ?_
   exact Wo
  have d2 : decide ((W : Int) <= 60) = false := by simp; omega
  have d3 : decide ((W : Int) > 60) = true := by simp; omega
  have t60 : decide (AN R > 60) = true := by simp; omega
  (refine Wf (an @hl1 (an @d2 @A4)) ?_;(repeat clear hK K);repeat refine kq fun K hK=>?_)
  refine Wm ?_
  (refine Wi ?_;repeat clear hK K)
  cases t12 : decide (R.length > 12) with
  | true =>
   have d4 : decide ((R.length : Int) > 12) = true := by simp at t12; simp; omega
   (refine Wf (an @d3 (an @d4 @A4)) ?_;(repeat clear hK K);repeat refine kq fun K hK=>?_)
   refine Wp [] Tryz.results14 ?_
   rw [HO, t12]; rfl
  | false =>
   have d4 : decide ((R.length : Int) > 12) = false := by simp at t12; simp; omega
   (refine Wf (an @d3 (an @d4 @A4)) ?_;(repeat clear hK K);repeat refine kq fun K hK=>?_)
   refine Wp [] Tryz.results14 ?_
   rw [HO, t12, t60]; rfl
 have hl1 : decide ((k : Int) < (R.length : Int)) = false := by simpa using hlt
 have hke : k = R.length := by omega
 have hf := hfull hke
 generalize hW : AN (R.take k) = W at *
 cases t60 : decide (AN R > 60) with
 | true =>
  have d3 : decide ((W : Int) > 60) = true := by simp at t60; simp; omega
  (refine Wf (an @hl1 @A4) ?_;(repeat clear hK K);repeat refine kq fun K hK=>?_)
  refine Wm ?_
  (refine Wi ?_;repeat clear hK K)
  cases t12 : decide (R.length > 12) with
  | true =>
   have d4 : decide ((R.length : Int) > 12) = true := by simp at t12; simp; omega
   (refine Wf (an @d3 (an @d4 @A4)) ?_;(repeat clear hK K);repeat refine kq fun K hK=>?_)
   refine Wp [] Tryz.results14 ?_
   rw [HO, t12]; rfl
  | false =>
   have d4 : decide ((R.length : Int) > 12) = false := by simp at t12; simp; omega
   (refine Wf (an @d3 (an @d4 @A4)) ?_;(repeat clear hK K);repeat refine kq fun K hK=>?_)
   refine Wp [] Tryz.results14 ?_
   rw [HO, t12, t60]; rfl
 | false =>
  have d3 : decide ((W : Int) > 60) = false := by simp at t60; simp; omega
  (refine Wf (an @hl1 @A4) ?_;(repeat clear hK K);repeat refine kq fun K hK=>?_)
  refine Wm ?_
  (refine Wi ?_;repeat clear hK K)
  cases t12 : decide (R.length > 12) with
  | true =>
   have d4 : decide ((R.length : Int) > 12) = true := by simp at t12; simp; omega
   (refine Wf (an @d3 (an @d4 @A4)) ?_;(repeat clear hK K);repeat refine kq fun K hK=>?_)
   refine Wp [] Tryz.results14 ?_
   rw [HO, t12]; rfl
  | false =>
   have d4 : decide ((R.length : Int) > 12) = false := by simp at t12; simp; omega
   (refine Wf (an @d3 (an @d4 @A4)) ?_;(repeat clear hK K);repeat refine kq fun K hK=>?_)
   refine Wp [] Tryz.results14 ?_
   rw [HO, t12, t60]; rfl

theorem IJ (f : List Nat) (L : List Ar) : (As L).map (C.ren f) = As L := by
 unfold As
 rw [List.map_flatMap]
 rfl
theorem OkRow.filter {k m : Nat} {r : List Ar} (h : OkRow k m r) (p : Ar -> Bool) : OkRow k m (r.filter p) :=
 ⟨List.Pairwise.filter p h.1, Nat.le_trans (List.length_filter_le p r) h.2.1, fun a ha => h.2.2 a (List.mem_filter.1 ha).1⟩
def kp (s : Nat) (a : Ar) : Bool := a.1 != 0 || decide (a.2 > (s : Int))
theorem SE {s : Nat} {r : List Ar} {i : Nat} (h : i < r.length) : (r.take (i + 1)).filter (kp s) = (r.take i).filter (kp s) ++ (if kp s r[i] then [r[i]] else []) := by
 rw [gE8 h, List.filter_append]
 congr 1
 simp [List.filter_cons]
set_option maxHeartbeats 1000000 in
theorem SF (T : List Int) (hT : TpOk T) (a0 n : Nat) (ha : a0 <= 500000) (hn1 : 1 <= n) (hn : n <= 20) :
  FC Tryz.prog 8 [.a (.c (.p 0 0)), .i n] [tape T a0] (fun r o => ∃ (a' : Nat) (R : List (List Ar)), (o = [tape T a', KN R] /\ r = Bh R) /\ a' <= a0 + 1 + 8 * n /\ 1 <= R.length /\ R.length <= n /\ OkSys 4 R.length R) := by
 refine A9 Tryz.func8 rfl (by rw [Tryz.ntmps8]; simp) ?_
 rw [Tryz.ntmps8]
 simp only [Bz, tape, KN, Bh]
 (refine We ?_;(repeat clear hK K);repeat refine kq fun K hK=>?_)
 (refine Ad rfl ?_; intro K1 hK1; refine ct [0] (O8 T hT a0 n (by omega) hn1 hn) ?_ ?_)
 ·rintro _ _ ⟨_, _, rfl, rfl, _⟩; rfl
 rintro _ _ ⟨a1, R0, rfl, rfl, ha1, hl1, hl2, hok⟩
 (simp only [Aq, Bc, tape, AL, List.append_nil, List.nil_append, List.length_map, go_sem]; refine hK1 _ ?_; clear hK1 K1)
 (refine We ?_;(repeat clear hK K);repeat refine kq fun K hK=>?_)
 refine Av (A8 [0, 1, 2, 4] rfl rfl) ?_
 (try simp only [List.set_nil, List.take_nil, List.take_zero, List.map_append, go_sem])
 (try simp only [Bp])
 obtain ⟨m, hm⟩ : ∃ m, m = R0.length := ⟨_, rfl⟩
 rw [<- hm] at hl1 hl2 hok
 (try rw [<- hm])
 refine A6 (fun p : Nat × List (List Ar) => { tm := [(0, .a (.c (.p 0 0))), (4, .a (.c (.p 1 0))), (5, .a (.c (.p 3 0))), (6, .i p.1)], hp := [.r ⟨43, 2, false, [.t 1 (Aa T), .v (.int .i64 a1)]⟩, .r ⟨25, 1, false, [.v (.slice none 0 0)]⟩, .r ⟨41, 1, true, AC p.2⟩, .r ⟨25, 1, false, [.s 2 m]⟩], n := 69, pin := 1 })
  (fun p => p.1 <= m /\ OkSys 4 m p.2) (fun p => m - p.1) (0, R0) ?_ ?_ ?_
 ·exact ⟨by simp, hok⟩
 ·exact Wo
 rintro ⟨s, R⟩ ⟨hs, hR⟩ K hK
 simp only at hs hR ⊢
 have hRl := hR.1
 by_cases hlt : s < m
 rotate_left
 ·have hl0 : decide ((s : Int) < (m : Int)) = false := by simp; omega
  (refine Wf @hl0 ?_;(repeat clear hK K);repeat refine kq fun K hK=>?_)
  refine Wm ?_
  (refine Wi ?_;repeat clear hK K)
  refine Av (AR (r := ⟨41, 1, true, AC R⟩) (ri := ⟨25, 1, false, [.s 2 m]⟩) (ts := Ai R) 3 0 2 m (by decide) rfl rfl rfl rfl (show 0 < 1 by omega) (by simp only [Af, hRl]; omega) (Ee R)) ?_
  refine Av (CD 3 rfl) ?_
  simp only [VH, List.map_cons, List.map_nil, go_sem]
  (refine We ?_;(repeat clear hK K);repeat refine kq fun K hK=>?_)
  refine Wp [0, 1] Tryz.results8 ?_
  exact ⟨a1, R, ⟨rfl, rfl⟩, by omega, by omega, by omega, by rw [hRl]; exact hR⟩
 have hl0 : decide ((s : Int) < (m : Int)) = true := by simp; omega
 have hl2' : s < R.length := by omega
 have hg2 := gE1 hl2'
 have hrow := hR.2 _ (gE6 hl2')
 (refine Wf @hl0 ?_;(repeat clear hK K);repeat refine kq fun K hK=>?_)
 refine Wl ?_
 (refine We ?_;(repeat clear hK K);repeat refine kq fun K hK=>?_)
 refine Av (Dt 7 40 2 ?_) ?_
 ·simp only [go_sem]
 refine A6 (fun i : Nat => { tm := [(0, .a (.c (.p 0 0))), (4, .a (.c (.p 1 0))), (5, .a (.c (.p 3 0))), (6, .i s), (7, .a (.c (.s 4 ((R[s].take i).filter (kp s)).length))), (8, .i i)], hp := [.r ⟨43, 2, false, [.t 1 (Aa T), .v (.int .i64 a1)]⟩, .r ⟨25, 1, false, [.v (.slice none 0 0)]⟩, .r ⟨41, 1, true, AC R⟩, .r ⟨25, 1, false, [.s 2 m]⟩, .r ⟨40, 2, true, As ((R[s].take i).filter (kp s))⟩], n := 69, pin := 1 })
  (fun i => i <= R[s].length) (fun i => R[s].length - i) 0 ?_ ?_ ?_
 ·omega
 ·(refine BP ?_; simp only [Dq, go_sem, List.take_zero, List.filter_nil, List.length_nil, As, List.flatMap_nil]; try simp)
 rintro i hi K hK
 by_cases hlti : i < R[s].length
 rotate_left
 ·have hl3 : decide ((i : Int) < (R[s].length : Int)) = false := by simpa using hlti
  have hie : i = R[s].length := by omega
  (refine Wf (an @hl3 (an @Af (an (B5 hg2) (an @A3 @Al)))) ?_;(repeat clear hK K);repeat refine kq fun K hK=>?_)
  refine Wm ?_
  (refine Wi ?_;repeat clear hK K)
  rw [hie, List.take_length]
  (refine Av (BA (r := ⟨40, 2, true, As (R[s].filter (kp s))⟩) 4 (At (R[s].filter (kp s))) rfl (DA _) (show 0 < (2 : Nat) by omega)) ?_; simp only [ST.frz, A0.frz, AV.frz, C.frz, Nat.le_refl, List.set_cons_zero, List.set_cons_succ, go_sem, A3, Al, Bl, List.take_length])
  (refine Cr (an @Af @Ey) ?_;(repeat clear hK K);repeat refine kq fun K hK=>?_)
  refine Wn ?_
  refine hK _ (s + 1, R.set s (R[s].filter (kp s))) ⟨by simp only; omega, hR.set (hrow.filter _) s⟩ (by simp only; omega) ?_
  refine Le.trans (A8 [0, 1, 2, 3] rfl rfl) ?_
  (try simp only [List.set_nil, List.take_nil, List.take_zero, List.map_append, go_sem])
  (try simp only [Bp])
  exact Wo
 have hl3 : decide ((i : Int) < (R[s].length : Int)) = true := by simpa using hlti
 have ha0 := CQ hlti
 have ha1' := Dk hlti
 have hat := Be hlti
 have hkt := SE (s := s) hlti
 have hrl := hrow.2.1
 have hfl : ((R[s].take i).filter (kp s)).length <= 4 := Nat.le_trans (List.length_filter_le _ _) (by simp; omega)
 (refine Wf (an @hl3 (an @Af (an (B5 hg2) (an @A3 @Al)))) ?_;(repeat clear hK K);repeat refine kq fun K hK=>?_)
 refine Wl ?_
 cases q1 : (R[s][i].1 != 0) with
 | true =>
  have hk1 : kp s R[s][i] = true := by rw [kp, q1, Bool.true_or]
  rw [if_pos hk1] at hkt
  (refine Wf (an @q1 (an @ha0 (an @ha1' (an @Af (an (B5 hg2) (an @A3 @Al)))))) ?_;(repeat clear hK K);repeat refine kq fun K hK=>?_)
  refine Wl ?_
  have hlc := gE7 (Nat.le_of_eq (Ah ((R[s].take i).filter (kp s))))
  (refine Wf (an @Af (an (B5 hg2) (an @A3 (an @Al (an @hat (an @Ah (an @Dz (an @Br @hlc)))))))) ?_;(repeat clear hK K);repeat refine kq fun K hK=>?_)
  refine Wn ?_
  refine hK _ (i + 1) (by omega) (by omega) ?_
  refine Le.trans (A8 [0, 1, 2, 3, 6] rfl rfl) ?_
  (try simp only [List.set_nil, List.take_nil, List.take_zero, List.map_append, go_sem])
  rw [hkt]
  (try simp only [Bp, IJ])
  (refine BP ?_; simp only [Dq, go_sem, List.length_append, List.length_cons, List.length_nil]; try simp)
 | false =>
  cases q2 : decide (R[s][i].2 > (s : Int)) with
  | true =>
   have hk1 : kp s R[s][i] = true := by rw [kp, q1, q2]; rfl
   rw [if_pos hk1] at hkt
   (refine Wf (an @q1 (an @q2 (an @ha0 (an @ha1' (an @Af (an (B5 hg2) (an @A3 @Al))))))) ?_;(repeat clear hK K);repeat refine kq fun K hK=>?_)
   refine Wl ?_
   have hlc := gE7 (Nat.le_of_eq (Ah ((R[s].take i).filter (kp s))))
   (refine Wf (an @Af (an (B5 hg2) (an @A3 (an @Al (an @hat (an @Ah (an @Dz (an @Br @hlc)))))))) ?_;(repeat clear hK K);repeat refine kq fun K hK=>?_)
   refine Wn ?_
   refine hK _ (i + 1) (by omega) (by omega) ?_
   refine Le.trans (A8 [0, 1, 2, 3, 6] rfl rfl) ?_
   (try simp only [List.set_nil, List.take_nil, List.take_zero, List.map_append, go_sem])
   rw [hkt]
   (try simp only [Bp, IJ])
   (refine BP ?_; simp only [Dq, go_sem, List.length_append, List.length_cons, List.length_nil]; try simp)
  | false =>
   have hk1 : ¬ kp s R[s][i] = true := by rw [kp, q1, q2]; simp
   rw [if_neg hk1, List.append_nil] at hkt
   (refine Wf (an @q1 (an @q2 (an @ha0 (an @ha1' (an @Af (an (B5 hg2) (an @A3 @Al))))))) ?_;(repeat clear hK K);repeat refine kq fun K hK=>?_)
   refine Wm ?_
   (refine We ?_;(repeat clear hK K);repeat refine kq fun K hK=>?_)
   refine Wn ?_
   refine hK _ (i + 1) (by omega) (by omega) ?_
   rw [hkt]
   exact Wo
end Go.Proofs.YthnkailnoobdoaaGreatDoor
