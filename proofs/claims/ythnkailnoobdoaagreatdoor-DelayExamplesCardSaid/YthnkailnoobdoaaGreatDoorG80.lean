/- Lemmas. -/
import Derived.Test.YthnkailnoobdoaaGreatDoorZk
import Derived.Test.YthnkailnoobdoaaGreatDoorOd1
import Derived.Test.YthnkailnoobdoaaGreatDoorG77
import Derived.Test.YthnkailnoobdoaaGreatDoorMda
import Derived.Test.YthnkailnoobdoaaGreatDoorMG
import Derived.Test.YthnkailnoobdoaaGreatDoorMnt
namespace Go.Proofs.YthnkailnoobdoaaGreatDoor
set_option linter.unusedVariables false
set_option linter.unusedSimpArgs false
open Go.RowKit
set_option maxRecDepth 100000
attribute [local go_sem] lga C.pl C.one

def ZG (A : List (List Ar)) (cm oq : List Int) (dv : List Bool) : Row := ⟨58, 4, false, [.t 1 (Ai A), .t 1 (Aa cm), .t 1 (Aa oq), .t 1 (Xl dv)]⟩
def ZH (xs : List (List Ar)) : List C := xs.map fun r => .o (2, 83) (At r)
theorem B0 (xs : List (List Ar)) : (ZH xs).length = xs.length := by simp [ZH]
theorem B2 {xs : List (List Ar)} {i : Nat} {x : List Ar} (h : xs[i]? = some x) : (ZH xs)[i]? = some (.o (2, 83) (At x)) := by simp [ZH, h]
theorem R2 (xs : List (List Ar)) (i : Nat) (x : List Ar) : (ZH xs).set i (.o (2, 83) (At x)) = ZH (xs.set i x) := by simp [ZH, List.map_set]
theorem Pl (f : List Nat) (L : List (List Ar)) : (ZH L).map (C.ren f) = ZH L := by simp [ZH, C.ren, Function.comp_def]
theorem Zj (L : List (List Ar)) : (ZH L).map VH = AC L := by simp [ZH, AC, VH, Function.comp_def]
theorem R0 (f : Nat -> Nat) (L : List Ar) : (As L).map (C.up f) = As L := by
 rw [Gi, List.map_map]
 simp [C.up, Function.comp_def]
theorem T0 (q : List Ar) (ys : List C) (f : C -> C) (hf : (As q).map f = As q) : ((As q ++ ys).map f).take (q.length * 2) = As q := by
 rw [List.map_append, hf, List.take_append_of_le_length (by rw [Ah]; exact Nat.le_refl _), gE7 (by rw [Ah]; exact Nat.le_refl _)]
set_option maxHeartbeats 8000000 in
theorem Zk (X : List (List Ar)) (D cl : List Int) (Q : List Nat) (dv : List Bool) (hv : BL X = true) (hn : X.length <= 100) (ht : AN X <= 1000) (hr : ∀ r ∈ X, r.length <= 1000000) (hD : CpOk X D) (hQ : HB (Xa (Xh D) X X.length) X.length (Xh D) Q) (hcl : cl.length = X.length) : FC Tryz.prog 56 [.a (.c (.p 0 0)), Aq cl] [.r (ZG X D (Q.map Int.ofNat) dv)] (fun r o => ∃ O, P3 (Xh D) cl X Q Q.length O /\ r = .a (.c (.s 1 X.length)) /\ o = [.r (ZG X D (Q.map Int.ofNat) dv), .r ⟨81, 1, true, AC O⟩]) := by
 refine A9 Tryz.func56 rfl (by rw [Tryz.ntmps56]; simp) ?_
 rw [Tryz.ntmps56]
 have hlo : BK X = true := gEg (gE4 hv).1
 have hbd := (gE4 hlo).2.2.2
 have hDl := hD.1
 simp only [Bz, Aq, ZG]
 (refine Wf (an @A4 (an @Yi @hDl)) ?_;(repeat clear hK K);repeat refine kq fun K hK=>?_)
 have e0 : List.replicate X.length (C.o (2, 83) []) = ZH (Xy (Xh D) cl X 0) := by rw [YP]; simp [ZH, At]
 rw [e0]
 refine A6 (fun k : Nat => { tm := [(0, .a (.c (.p 0 0))), (1, .a (.c (.t 1 (Aa cl)))), (5, .a (.c (.s 1 X.length))), (30, .a (.c (.t 1 (Aa D)))), (31, .i X.length), (32, .i k)], hp := [.r (ZG X D (Q.map Int.ofNat) dv), .r ⟨81, 1, true, ZH (Xy (Xh D) cl X k)⟩], n := 190, pin := 1 }) (fun k => k <= X.length) (fun k => X.length - k) 0 ?_ ?_ ?_
 ·omega
 ·simp only [ZG]
  exact Wo
 rintro k hk K hK
 simp only [ZG]
 by_cases hlt : k < X.length
 ·have d1 : decide ((k : Int) < (X.length : Int)) = true := by simpa using hlt
  have hgX := gE1 hlt
  have hgd : X.getD k [] = X[k] := by rw [gE2, hgX]; rfl
  have hrl := hr _ (gE6 hlt)
  have hb := hbd _ (gE6 hlt)
  obtain ⟨gD0, hfk, _⟩ := BR hv hD hlt
  have gD := Aj gD0
  have hkc : k < cl.length := by omega
  have gc := Aj (gE1 hkc)
  have hcd : cl.getD k 0 = cl[k] := by rw [gE2, gE1 hkc]; rfl
  have hgo := RN (f := Xh D) (cl := cl) (k := k) hfk
  have hcl2 := ND (Xh D) cl X (Xh D k) k hk
  have htk := Gc X k
  have hsu := YQ (cl := cl) (k := k) hfk
  have hLl := NC (Xh D) cl X k
  have hS : Xw cl X k = (0, cl[k]) :: Xv cl X[k] := by unfold Xw; rw [hgd, hcd]
  rw [hS] at hsu
  generalize X[k] = row at *
  generalize cl[k] = ck at *
  generalize Xx (Xh D) cl X k (Xh D k) = oc at *
  generalize Xy (Xh D) cl X k = B at *
  generalize Xh D k = fk at *
  (refine Wf @d1 ?_;(repeat clear hK K);repeat refine kq fun K hK=>?_)
  refine Wl ?_
  (refine Wf (an @Yi (an @gD @hDl)) ?_;(repeat clear hK K);repeat refine kq fun K hK=>?_)
  (refine AD [] (.m 0 0 0 (.m 1 0 0 (.m 2 0 0 (.m 3 0 0 (.m 4 0 0 (.m 5 1 12 (.m 6 0 0 (.m 7 0 0 (.m 8 0 0 (.m 9 1 11 (.m 10 0 0 (.a 11 (.a 12 (.m 13 0 0 (.a 14 .e))))))))))))))) (by kernel_rfl) (by kernel_rfl) (by intro c st h; simp [Ae, AJ, VD] at h) ?_)
  have hgo' := B2 hgo
  (refine Wh (an @B0 (an (B2 hgo) (an @hLl (an @Yi (an @hcl (an @gc (an @A3 @Al))))))) ?_; repeat clear hK K)
  (refine W4 rfl rfl ?_; intro K1 hK1; refine BF rfl ?_; simp only [go_sem]; (first | refine hK1 _ ?_ | refine AE (hK1 _ ?_)); clear hK1 K1)
  (refine EY rfl rfl rfl ?_; intro K1 hK1; refine CF rfl rfl rfl rfl (by first | rfl | simp only [CM, List.getD_cons_zero, List.getD_cons_succ, hne, List.isEmpty_cons, Bool.not_false, Bool.true_and, Bool.and_true, Bool.and_self]) rfl ?_; simp only [go_sem, Co, A3, Al, Br, B2 hgo]; (first | refine hK1 _ ?_ | refine AE (hK1 _ ?_)); clear hK1 K1)
  (refine Wh (an @B0 @hLl) ?_; repeat clear hK K)
  (refine W5 rfl rfl rfl rfl ?_; intro K1 hK1; refine B4 rfl ?_; simp only [go_sem, B0, List.length_set, CU, hLl]; (first | refine hK1 _ ?_ | refine AE (hK1 _ ?_)); clear hK1 K1)
  refine Cg ⟨by simp, by simp, ?_⟩
  (try simp only [Ae, AJ])
  refine hK _ ?_
  clear hK K
  have hfB : fk < B.length := by omega
  have hj6 : ((ZH (B)).set fk (C.s 3 ((oc).length + 1)))[fk]? = some (.s 3 ((oc).length + 1)) := by rw [gEc (by rw [B0]; first | assumption | omega)]
  have hset6 : ((ZH (B)).set fk (C.s 3 ((oc).length + 1))).set fk (.o (2, 83) (At (oc ++ [(0, ck)]))) = ZH ((B).set fk (oc ++ [(0, ck)])) := by rw [CU, R2]
  refine Av (AR (r := ⟨83, 2, true, As (oc ++ [(0, ck)])⟩) (ri := ⟨81, 1, true, (ZH (B)).set fk (C.s 3 ((oc).length + 1))⟩) (ts := At (oc ++ [(0, ck)])) 1 fk 3 ((oc).length + 1) (by decide) rfl hj6 rfl rfl (show 0 < 2 by omega) (by rw [Ah]; simp) (DA _)) ?_
  simp only [hset6, go_sem]
  refine Av (A8 [0, 1] rfl rfl) ?_
  (try simp only [List.set_nil, List.take_nil, List.take_zero, List.map_append, go_sem])
  (try simp only [Pl])
  (refine Wf (an @A4 (an (Ac hgX) (an @A3 @Al))) ?_;(repeat clear hK K);repeat refine kq fun K hK=>?_)
  refine A6 (fun j : Nat => { tm := [(0, .a (.c (.p 0 0))), (1, .a (.c (.t 1 (Aa cl)))), (5, .a (.c (.s 1 X.length))), (7, .i fk), (30, .a (.c (.t 1 (Aa D)))), (31, .i X.length), (32, .i k), (58, .a (.c (.t 2 (At row)))), (59, .i row.length), (60, .i j)], hp := [.r (ZG X D (Q.map Int.ofNat) dv), .r ⟨81, 1, true, ZH (B.set fk (oc ++ (0, ck) :: Xv cl (row.take j)))⟩], n := 190, pin := 1 }) (fun j => j <= row.length) (fun j => row.length - j) 0 ?_ ?_ ?_
  ·omega
  ·simp only [ZG, List.take_zero, Xv, List.filterMap_nil]
   exact Wo
  rintro j hj K hK
  simp only [ZG]
  by_cases hlt2 : j < row.length
  rotate_left
  ·have d2 : decide ((j : Int) < (row.length : Int)) = false := by simpa using hlt2
   have htr : row.take j = row := gE7 (by omega)
   rw [htr, hsu]
   (refine Wf @d2 ?_;(repeat clear hK K);repeat refine kq fun K hK=>?_)
   refine Wm ?_
   (refine Wi ?_;repeat clear hK K)
   (refine We ?_;(repeat clear hK K);repeat refine kq fun K hK=>?_)
   refine Wn ?_
   refine hK _ (k + 1) (by omega) (by omega) ?_
   simp only [ZG]
   exact Wo
  have d2 : decide ((j : Int) < (row.length : Int)) = true := by simpa using hlt2
  have hat := Be hlt2
  have hba := hb _ (gE6 hlt2)
  have hsn := YO cl (row.take j) row[j]
  rw [<- gE8 hlt2] at hsn
  have hol := RM cl (row.take j)
  generalize row[j] = a at *
  obtain ⟨e, t⟩ := a
  simp only at hat hba
  obtain ⟨tn, rfl⟩ : ∃ tn : Nat, t = (tn : Int) := ⟨t.toNat, by omega⟩
  have htn : tn < cl.length := by omega
  have gt := Aj (gE1 htn)
  have hdef : Xu cl (e, (tn : Int)) = if e ≠ 0 then some (e, cl[tn]) else none := by unfold Xu; simp only [Int.toNat_natCast]; rw [gE2, gE1 htn]; rfl
  have hol2 : (oc ++ (0, ck) :: Xv cl (row.take j)).length <= 3000000 := by
   rw [List.length_append, List.length_cons]; have := List.length_take_le j row; omega
  have hnx : oc ++ (0, ck) :: Xv cl (row.take (j + 1)) = (oc ++ (0, ck) :: Xv cl (row.take j)) ++ (Xu cl (e, (tn : Int))).toList := by rw [hsn]; simp
  generalize oc ++ (0, ck) :: Xv cl (row.take j) = o1 at *
  generalize cl[tn] = ct at *
  have hsl : (B.set fk o1).length = X.length := by simp [hLl]
  have hg1 : (B.set fk o1)[fk]? = some o1 := gEc (by omega)
  (refine Wf @d2 ?_;(repeat clear hK K);repeat refine kq fun K hK=>?_)
  refine Wl ?_
  by_cases he : e = 0
  ·have d3 : (e != 0) = false := by simp [he]
   rw [if_neg (by simp [he])] at hdef
   (refine Cr (an @hat (an @A3 (an @Al @d3))) ?_;(repeat clear hK K);repeat refine kq fun K hK=>?_)
   refine Wm ?_
   (refine We ?_;(repeat clear hK K);repeat refine kq fun K hK=>?_)
   refine Wn ?_
   refine hK _ (j + 1) (by omega) (by omega) ?_
   refine Le.trans (A8 [0, 1] rfl rfl) ?_
   (try simp only [List.set_nil, List.take_nil, List.take_zero, List.map_append, go_sem])
   (try simp only [Pl])
   rw [hnx, hdef]
   simp only [Option.toList, List.append_nil, ZG]
   exact Wo
  have d3 : (e != 0) = true := by simpa using he
  rw [if_pos he] at hdef
  (refine Cr (an @hat (an @A3 (an @Al @d3))) ?_;(repeat clear hK K);repeat refine kq fun K hK=>?_)
  refine Wl ?_
  (refine AD [] (.m 0 0 0 (.m 1 0 0 (.m 2 0 0 (.m 3 0 0 (.m 4 0 0 (.m 5 1 15 (.m 6 0 0 (.m 7 1 14 (.m 8 0 0 (.m 9 0 0 (.m 10 1 14 (.m 11 0 0 (.m 12 1 14 (.m 13 0 0 (.a 14 (.a 15 (.m 16 0 0 (.a 17 .e)))))))))))))))))) (by kernel_rfl) (by kernel_rfl) (by intro c st h; simp [Ae, AJ, VD] at h) ?_)
  (refine Wh (an @B0 (an (B2 hg1) (an @hsl (an @hLl (an @Yi (an @hcl (an @gt (an @A3 @Al)))))))) ?_; repeat clear hK K)
  (refine W4 rfl rfl ?_; intro K1 hK1; refine BF rfl ?_; simp only [go_sem]; (first | refine hK1 _ ?_ | refine AE (hK1 _ ?_)); clear hK1 K1)
  (refine EY rfl rfl rfl ?_; intro K1 hK1; refine CF rfl rfl rfl rfl (by first | rfl | simp only [CM, List.getD_cons_zero, List.getD_cons_succ, hne, List.isEmpty_cons, Bool.not_false, Bool.true_and, Bool.and_true, Bool.and_self]) rfl ?_; simp only [go_sem, Co, A3, Al, Br, B2 hg1]; (first | refine hK1 _ ?_ | refine AE (hK1 _ ?_)); clear hK1 K1)
  (refine Wh (an @B0 @hsl) ?_; repeat clear hK K)
  (refine W5 rfl rfl rfl rfl ?_; intro K1 hK1; refine B4 rfl ?_; simp only [go_sem, B0, List.length_set, CU, hsl]; (first | refine hK1 _ ?_ | refine AE (hK1 _ ?_)); clear hK1 K1)
  refine Cg ⟨by simp, by simp, ?_⟩
  (try simp only [Ae, AJ])
  refine hK _ ?_
  clear hK K
  have hfB1 : fk < (B.set fk o1).length := by omega
  have hj6 : ((ZH (B.set fk o1)).set fk (C.s 4 ((o1).length + 1)))[fk]? = some (.s 4 ((o1).length + 1)) := by rw [gEc (by rw [B0]; first | assumption | omega)]
  have hset6 : ((ZH (B.set fk o1)).set fk (C.s 4 ((o1).length + 1))).set fk (.o (2, 83) (At (o1 ++ [(e, ct)]))) = ZH ((B.set fk o1).set fk (o1 ++ [(e, ct)])) := by rw [CU, R2]
  refine Av (AR (r := ⟨83, 2, true, As (o1 ++ [(e, ct)])⟩) (ri := ⟨81, 1, true, (ZH (B.set fk o1)).set fk (C.s 4 ((o1).length + 1))⟩) (ts := At (o1 ++ [(e, ct)])) 1 fk 4 ((o1).length + 1) (by decide) rfl hj6 rfl rfl (show 0 < 2 by omega) (by rw [Ah]; simp) (DA _)) ?_
  simp only [hset6, go_sem]
  refine Av (A8 [0, 1] rfl rfl) ?_
  (try simp only [List.set_nil, List.take_nil, List.take_zero, List.map_append, go_sem])
  (try simp only [Pl])
  (refine We ?_;(repeat clear hK K);repeat refine kq fun K hK=>?_)
  refine Wn ?_
  refine hK _ (j + 1) (by omega) (by omega) ?_
  rw [hnx, hdef]
  simp only [Option.toList, List.set_set, ZG]
  exact Wo
 have d1 : decide ((k : Int) < (X.length : Int)) = false := by simpa using hlt
 have hke : k = X.length := by omega
 rw [hke] at d1
 rw [hke]
 (refine Wf @d1 ?_;(repeat clear hK K);repeat refine kq fun K hK=>?_)
 refine Wm ?_
 (refine Wi ?_;repeat clear hK K)
 (refine Wf (an @A4 (an @Yi @hDl)) ?_;(repeat clear hK K);repeat refine kq fun K hK=>?_)
 have e1 : List.replicate X.length (C.o (1, 3) []) = B9 (XA X.length (Xa (Xh D) X 0)) := by
  have : Xa (Xh D) X 0 = [] := rfl
  rw [this, YS]; simp [B9, Aa]
 rw [e1]
 refine A6 (fun k : Nat => { tm := [(0, .a (.c (.p 0 0))), (5, .a (.c (.s 1 X.length))), (10, .a (.c (.s 2 X.length))), (96, .a (.c (.t 1 (Aa D)))), (97, .i X.length), (98, .i k)], hp := [.r (ZG X D (Q.map Int.ofNat) dv), .r ⟨81, 1, true, ZH (Xy (Xh D) cl X X.length)⟩, .r ⟨22, 1, true, B9 (XA X.length (Xa (Xh D) X k))⟩], n := 190, pin := 1 }) (fun k => k <= X.length) (fun k => X.length - k) 0 ?_ ?_ ?_
 ·omega
 ·simp only [ZG]
  exact Wo
 clear hk hlt d1 hke
 rintro k hk K hK
 simp only [ZG]
 by_cases hlt : k < X.length
 ·have d1 : decide ((k : Int) < (X.length : Int)) = true := by simpa using hlt
  have hgX := gE1 hlt
  have hgd : X.getD k [] = X[k] := by rw [gE2, hgX]; rfl
  have hrl := hr _ (gE6 hlt)
  have hb := hbd _ (gE6 hlt)
  have hel := Nl (Xh D) X k hk
  have hto := Gc X k
  have hsu : Xa (Xh D) X (k + 1) = Xa (Xh D) X k ++ X9 (Xh D) k X[k] := by rw [KH, hgd]
  obtain ⟨gDk0, hfk, _⟩ := BR hv hD hlt
  have gDk := Aj gDk0
  generalize X[k] = row at *
  generalize Xa (Xh D) X k = E0 at *
  (refine Wf @d1 ?_;(repeat clear hK K);repeat refine kq fun K hK=>?_)
  refine Wl ?_
  (refine Wf (an @Yi (an @hDl (an @gDk (an @A4 (an (Ac hgX) (an @A3 @Al)))))) ?_;(repeat clear hK K);repeat refine kq fun K hK=>?_)
  refine A6 (fun j : Nat => { tm := [(0, .a (.c (.p 0 0))), (5, .a (.c (.s 1 X.length))), (10, .a (.c (.s 2 X.length))), (12, .i (Xh D k)), (96, .a (.c (.t 1 (Aa D)))), (97, .i X.length), (98, .i k), (110, .a (.c (.t 2 (At row)))), (111, .i row.length), (112, .i j)], hp := [.r (ZG X D (Q.map Int.ofNat) dv), .r ⟨81, 1, true, ZH (Xy (Xh D) cl X X.length)⟩, .r ⟨22, 1, true, B9 (XA X.length (E0 ++ X9 (Xh D) k (row.take j)))⟩], n := 190, pin := 1 }) (fun j => j <= row.length) (fun j => row.length - j) 0 ?_ ?_ ?_
  ·omega
  ·simp only [List.take_zero, X9, List.filterMap_nil, List.append_nil, ZG]
   exact Wo
  rintro j hj K hK
  simp only [ZG]
  by_cases hlt2 : j < row.length
  rotate_left
  ·have d2 : decide ((j : Int) < (row.length : Int)) = false := by simpa using hlt2
   have hje : row.take j = row := gE7 (by omega)
   rw [hje, <- hsu]
   (refine Wf @d2 ?_;(repeat clear hK K);repeat refine kq fun K hK=>?_)
   refine Wm ?_
   (refine Wi ?_;repeat clear hK K)
   (refine We ?_;(repeat clear hK K);repeat refine kq fun K hK=>?_)
   refine Wn ?_
   refine hK _ (k + 1) (by omega) (by omega) ?_
   simp only [ZG]
   exact Wo
  have d2 : decide ((j : Int) < (row.length : Int)) = true := by simpa using hlt2
  have hat := Be hlt2
  have hba := hb _ (gE6 hlt2)
  have hsn := Pu (Xh D) k (row.take j) row[j]
  rw [<- gE8 hlt2] at hsn
  have hrl2 := List.length_filterMap_le (X8 (Xh D) k) (row.take j)
  have hrl3 : (X9 (Xh D) k (row.take j)).length <= j := by have := List.length_take_le j row; unfold X9; omega
  generalize row[j] = a at *
  obtain ⟨e, t⟩ := a
  simp only at hat hba
  obtain ⟨tn, rfl⟩ : ∃ tn : Nat, t = (tn : Int) := ⟨t.toNat, by omega⟩
  have htn : tn < X.length := by omega
  obtain ⟨gDt0, hft, _⟩ := BR hv hD htn
  have gDt := Aj gDt0
  have hEl : (E0 ++ X9 (Xh D) k (row.take j)).length <= 2000000 := by rw [List.length_append]; omega
  have hdef : X8 (Xh D) k (e, (tn : Int)) = if e = 0 /\ Xh D k ≠ Xh D tn then some (Xh D k, Xh D tn) else none := rfl
  have hnx : E0 ++ X9 (Xh D) k (row.take (j + 1)) = (E0 ++ X9 (Xh D) k (row.take j)) ++ (X8 (Xh D) k (e, (tn : Int))).toList := by rw [hsn, List.append_assoc]
  generalize E0 ++ X9 (Xh D) k (row.take j) = E at *
  have hbl := YG E (Xh D k)
  have hnl := YF X.length E
  have gN := DV (RO (E := E) hfk)
  have hns := YR (E := E) (t := Xh D tn) hfk
  generalize hfk' : Xh D k = fk at *
  generalize hft' : Xh D tn = ft at *
  generalize Xz E fk = oc at *
  (refine Wf @d2 ?_;(repeat clear hK K);repeat refine kq fun K hK=>?_)
  refine Wl ?_
  (refine Cr (an @hat (an @A3 @Al)) ?_;(repeat clear hK K);repeat refine kq fun K hK=>?_)
  (refine Ao 8 [(0, 0), (1, 0), (2, 0), (3, 1), (4, 0), (5, 1), (6, 0), (7, 1), (8, 2)] (by kernel_rfl) (by kernel_rfl) (by intro c st h; simp [Ae, AJ, VD] at h) ?_)
  (refine Wb (an @Yi (an @hDl @gDt)) ?_; repeat clear hK K)
  by_cases hq : e = 0 /\ fk ≠ ft
  rotate_left
  ·rw [if_neg hq] at hdef
   rw [hdef] at hnx
   have hnx : E0 ++ X9 (Xh D) k (row.take (j + 1)) = E := by rw [hnx]; simp
   by_cases he : e = 0
   rotate_left
   ·have d3 : (e == 0) = false := by simpa using he
    (refine Wf @d3 ?_;(repeat clear hK K);repeat refine kq fun K hK=>?_)
    refine Wm ?_
    (refine We ?_;(repeat clear hK K);repeat refine kq fun K hK=>?_)
    refine Wn ?_
    refine hK _ (j + 1) (by omega) (by omega) ?_
    refine Le.trans (A8 [0, 1, 2] rfl rfl) ?_
    (try simp only [List.set_nil, List.take_nil, List.take_zero, List.map_append, go_sem])
    (try simp only [Pl, D7])
    rw [hnx]
    simp only [ZG]
    exact Wo
   have d3 : (e == 0) = true := by simpa using he
   have hff : fk = ft := Decidable.not_not.1 fun h => hq ⟨he, h⟩
   have d4 : ((ft : Int) != (fk : Int)) = false := by simp [hff]
   (refine Wf (an @d3 @d4) ?_;(repeat clear hK K);repeat refine kq fun K hK=>?_)
   refine Wm ?_
   (refine We ?_;(repeat clear hK K);repeat refine kq fun K hK=>?_)
   refine Wn ?_
   refine hK _ (j + 1) (by omega) (by omega) ?_
   refine Le.trans (A8 [0, 1, 2] rfl rfl) ?_
   (try simp only [List.set_nil, List.take_nil, List.take_zero, List.map_append, go_sem])
   (try simp only [Pl, D7])
   rw [hnx]
   simp only [ZG]
   exact Wo
  obtain ⟨he, hff⟩ := hq
  have d3 : (e == 0) = true := by simpa using he
  have d4 : ((ft : Int) != (fk : Int)) = true := by simp; omega
  rw [if_pos ⟨he, hff⟩] at hdef
  rw [hdef] at hnx
  have hnx : E0 ++ X9 (Xh D) k (row.take (j + 1)) = E ++ [(fk, ft)] := hnx
  (refine Wf (an @d3 @d4) ?_;(repeat clear hK K);repeat refine kq fun K hK=>?_)
  refine Wl ?_
  (refine Wf (an @Bs (an @gN (an @hnl (an @CU (an @List.length_set.{0} (an @List.set_cons_zero.{0} (an @List.set_cons_succ.{0} (an @List.take_succ_cons.{0} (an @List.take_zero.{0} (an @List.drop_zero.{0} (an @List.length_take.{0} (an @List.length_drop.{0} (an @List.length_append.{0} (an @Yi (an @Az (an @AZ (an @BC (an @A5 (an @B6 (an @AH (an @Bd (an @AM @AY)))))))))))))))))))))) ?_;(repeat clear hK K);repeat refine kq fun K hK=>?_)
  have hj6 : ((B9 (XA X.length E)).set fk (C.s 5 (oc.length + 1)))[fk]? = some (.s 5 (oc.length + 1)) := by rw [gEc (by rw [Bs]; omega)]
  have hset6 : ((B9 (XA X.length E)).set fk (C.s 5 (oc.length + 1))).set fk (.o (1, 3) (Aa (oc ++ [(ft : Int)]))) = B9 (XA X.length (E ++ [(fk, ft)])) := by rw [CU, F9, hns]
  refine Wn ?_
  refine hK _ (j + 1) (by omega) (by omega) ?_
  refine Le.trans (AR (r := ⟨3, 1, true, A7 (oc ++ [(ft : Int)])⟩) (ri := ⟨22, 1, true, (B9 (XA X.length E)).set fk (C.s 5 (oc.length + 1))⟩) (ts := Aa (oc ++ [(ft : Int)])) 2 fk 5 (oc.length + 1) (by decide) rfl hj6 rfl rfl (show 0 < 1 by omega) (by rw [A5]; simp) (Gd _)) ?_
  simp only [hset6, go_sem]
  refine Le.trans (A8 [0, 1, 2] rfl rfl) ?_
  (try simp only [List.set_nil, List.take_nil, List.take_zero, List.map_append, go_sem])
  (try simp only [Pl, D7])
  rw [hnx]
  simp only [ZG]
  exact Wo
 have d1 : decide ((k : Int) < (X.length : Int)) = false := by simpa using hlt
 have hke : k = X.length := by omega
 have hel := Nl (Xh D) X X.length (Nat.le_refl _)
 rw [List.take_length] at hel
 have hP0 := P3.start (Xh D) cl X Q
 rw [hke] at d1
 rw [hke]
 obtain ⟨E, hEe⟩ : ∃ E, E = Xa (Xh D) X X.length := ⟨_, rfl⟩
 rw [<- hEe] at hel hQ ⊢
 have hnl := YF X.length E
 (refine Wf @d1 ?_;(repeat clear hK K);repeat refine kq fun K hK=>?_)
 refine Wm ?_
 (refine Wi ?_;repeat clear hK K)
 refine Av (CD 2 rfl) ?_
 simp only [Fg, go_sem]
 have htk : (Cw (XA X.length E)).take X.length = Cw (XA X.length E) := gE7 (by rw [BQ]; omega)
 have hif : (if X.length <= (Cw (XA X.length E)).length then C.t 1 (Cw (XA X.length E)) else C.u) = C.t 1 (Cw (XA X.length E)) := if_pos (by rw [BQ]; omega)
 (refine Av (BA (r := ⟨22, 1, true, Cz (XA X.length E)⟩) 2 (Cw (XA X.length E)) rfl (PF _) (show 0 < (1 : Nat) by omega)) ?_; simp only [ST.frz, A0.frz, AV.frz, C.frz, Nat.le_refl, List.set_cons_zero, List.set_cons_succ, go_sem, htk, hif])
 have hQm : (Q.map Int.ofNat).length = Q.length := by simp
 (refine Wf (an @Yi @hQm) ?_;(repeat clear hK K);repeat refine kq fun K hK=>?_)
 refine Av (A8 [0, 1] rfl rfl) ?_
 (try simp only [List.set_nil, List.take_nil, List.take_zero, List.map_append, go_sem])
 (try simp only [Pl])
 have hQn : Q.length <= X.length := Kz X.length Q hQ.1 (fun u hu => ((hQ.2.1 u).1 hu).1)
 refine A6 (fun x : Nat × List (List Ar) => { tm := [(5, .a (.c (.s 1 X.length))), (10, .a (.c (.t 1 (Cw (XA X.length E))))), (147, .a (.c (.t 1 (Aa (Q.map Int.ofNat))))), (148, .i Q.length), (149, .i x.1)], hp := [.r (ZG X D (Q.map Int.ofNat) dv), .r ⟨81, 1, true, ZH x.2⟩], n := 190, pin := 1 }) (fun x => x.1 <= Q.length /\ P3 (Xh D) cl X Q x.1 x.2) (fun x => Q.length - x.1) (0, Xy (Xh D) cl X X.length) ?_ ?_ ?_
 ·exact ⟨Nat.zero_le _, hP0⟩
 ·simp only [ZG]
  exact Wo
 clear hk hlt d1 hke hP0
 rintro ⟨i, O⟩ ⟨hi, hP⟩ K hK
 simp only at hi hP
 simp only [ZG]
 have hOl := hP.len
 by_cases hlt : i < Q.length
 rotate_left
 ·have d1 : decide ((i : Int) < (Q.length : Int)) = false := by simpa using hlt
  have hie : i = Q.length := by omega
  rw [hie] at hP
  (refine Wf @d1 ?_;(repeat clear hK K);repeat refine kq fun K hK=>?_)
  refine Wm ?_
  (refine Wi ?_;repeat clear hK K)
  refine Av (CD 1 rfl) ?_
  simp only [Zj, go_sem]
  (refine We ?_;(repeat clear hK K);repeat refine kq fun K hK=>?_)
  refine Wq [0, 1] Tryz.results56 @Bp ?_
  exact ⟨O, hP, rfl⟩
 have d1 : decide ((i : Int) < (Q.length : Int)) = true := by simpa using hlt
 have gQ : (Aa (Q.map Int.ofNat))[i]? = some (.v (.int .i64 ((Q[i] : Nat) : Int))) := Aj (by rw [List.getElem?_map, gE1 hlt]; rfl)
 have hQi := gE1 hlt
 have hst := P3.step hv hD (by rw [<- hEe]; exact hQ) hP hQi
 rw [<- hEe] at hst
 have hcX := ((hQ.2.1 _).1 (gE6 hlt)).1
 generalize hcq : Q[i] = c at *
 have hE2 : ∀ x ∈ Xz E c, ∃ t : Nat, x = (t : Int) /\ t < X.length /\ t ≠ c := fun x hx => by
  obtain ⟨t, e, h1⟩ := NE.1 hx
  rw [hEe] at h1
  refine ⟨t, e, (PA hv hD _ h1).2.1, ?_⟩
  obtain ⟨s, _, a, _, _, h5, h6⟩ := Fc.1 h1
  rintro rfl
  injection h6 with h6 h7
  exact h5 (h6.symm.trans h7)
 have hNg : (XA X.length E).getD c [] = Xz E c := by rw [gE2, RO hcX]; rfl
 have gN := Dy (RO (E := E) hcX)
 have hxl := YG E c
 unfold XD at hst
 rw [hNg] at hst
 generalize Xz E c = nx at *
 have hBd := hP.sz
 have hOc : O[c]? = some (O.getD c []) := by rw [gE2, gE1 (by omega)]; rfl
 have hocl := hBd c
 generalize hoc : O.getD c [] = oc at *
 (refine Wf @d1 ?_;(repeat clear hK K);repeat refine kq fun K hK=>?_)
 refine Wl ?_
 (refine Wf (an @Yi (an @hQm (an @gQ (an @BQ (an @hnl @gN))))) ?_;(repeat clear hK K);repeat refine kq fun K hK=>?_)
 refine A6 (fun m : Nat => { tm := [(5, .a (.c (.s 1 X.length))), (10, .a (.c (.t 1 (Cw (XA X.length E))))), (17, .i c), (147, .a (.c (.t 1 (Aa (Q.map Int.ofNat))))), (148, .i Q.length), (149, .i i), (156, .a (.c (.t 1 (Aa nx)))), (157, .i nx.length), (158, .i m)], hp := [.r (ZG X D (Q.map Int.ofNat) dv), .r ⟨81, 1, true, ZH (O.set c (oc ++ XC O (nx.take m)))⟩], n := 190, pin := 1 }) (fun m => m <= nx.length) (fun m => nx.length - m) 0 ?_ ?_ ?_
 ·omega
 ·have e2 : O.set c oc = O := by
   refine List.ext_getElem (by simp) fun q h1 h2 => ?_
   rw [List.getElem_set]
   split
   ·rename_i e; subst e; rw [gE1 h2] at hOc; exact (Option.some.inj hOc).symm
   rfl
  simp only [List.take_zero, XC, List.flatMap_nil, List.append_nil, e2, ZG]
  exact Wo
 rintro m hm K hK
 simp only [ZG]
 have hpl := Z5 hBd (nx.take m)
 have hml : (nx.take m).length <= 1000 := by rw [List.length_take]; omega
 have hpl2 := Nat.le_trans hpl (Nat.mul_le_mul hml (show X.length + AN X <= 1100 by omega))
 by_cases hlm : m < nx.length
 ·have d2 : decide ((m : Int) < (nx.length : Int)) = true := by simpa using hlm
  have gx := Aj (gE1 hlm)
  obtain ⟨to, hto, htl, htn⟩ := hE2 _ (gE6 hlm)
  have hsn := YT O (nx.take m) nx[m]
  rw [<- gE8 hlm, hto] at hsn
  rw [hto] at gx
  simp only [Int.toNat_natCast] at hsn
  have hOt : O[to]? = some (O.getD to []) := by rw [gE2, gE1 (by omega)]; rfl
  have hotl := hBd to
  generalize O.getD to [] = ot at *
  have hol : (oc ++ XC O (nx.take m)).length <= 1200000 := by rw [List.length_append]; omega
  have hnx : oc ++ XC O (nx.take (m + 1)) = (oc ++ XC O (nx.take m)) ++ ot := by rw [hsn, List.append_assoc]
  generalize oc ++ XC O (nx.take m) = o1 at *
  have hsl : (O.set c o1).length = X.length := by simp [hOl]
  have hg1 : (O.set c o1)[c]? = some o1 := gEc (by omega)
  have hg2 : (O.set c o1)[to]? = some ot := by rw [gE5 (Ne.symm htn)]; exact hOt
  (refine Wf @d2 ?_;(repeat clear hK K);repeat refine kq fun K hK=>?_)
  refine Wl ?_
  (refine Wf (an @Yi @gx) ?_;(repeat clear hK K);repeat refine kq fun K hK=>?_)
  (refine AD [] (.m 0 0 0 (.m 1 0 0 (.m 2 0 0 (.m 3 0 0 (.m 4 0 0 (.m 5 1 10 (.m 6 0 0 (.m 7 0 0 (.m 8 0 0 (.m 9 1 10 (.a 10 (.m 11 0 0 (.a 12 .e))))))))))))) (by kernel_rfl) (by kernel_rfl) (by intro c st h; simp [Ae, AJ, VD] at h) ?_)
  (refine Wh (an @B0 (an (B2 hg1) (an (B2 hg2) (an @hsl (an @A3 @Al))))) ?_; repeat clear hK K)
  (refine EY rfl rfl rfl ?_; intro K1 hK1; refine CF rfl rfl rfl rfl (by first | rfl | simp only [CM, List.getD_cons_zero, List.getD_cons_succ, hne, List.isEmpty_cons, Bool.not_false, Bool.true_and, Bool.and_true, Bool.and_self]) rfl ?_; simp only [go_sem, Co, A3, Al, Cm, B2 hg1, B2 hg2]; (first | refine hK1 _ ?_ | refine AE (hK1 _ ?_)); clear hK1 K1)
  (refine Wh (an @B0 @hsl) ?_; repeat clear hK K)
  (refine W5 rfl rfl rfl rfl ?_; intro K1 hK1; refine B4 rfl ?_; simp only [go_sem, B0, List.length_set, CU, hsl]; (first | refine hK1 _ ?_ | refine AE (hK1 _ ?_)); clear hK1 K1)
  refine Cg ⟨by simp, by simp, ?_⟩
  (try simp only [Ae, AJ])
  refine hK _ ?_
  clear hK K
  have hj6 : ((ZH (O.set c o1)).set c (C.s 2 (o1.length + ot.length)))[c]? = some (.s 2 (o1.length + ot.length)) := by rw [gEc (by rw [B0]; omega)]
  have hset6 : ((ZH (O.set c o1)).set c (C.s 2 (o1.length + ot.length))).set c (.o (2, 83) (At (o1 ++ ot))) = ZH (O.set c (o1 ++ ot)) := by rw [CU, R2, List.set_set]
  refine Av (AR (r := ⟨83, 2, true, As (o1 ++ ot)⟩) (ri := ⟨81, 1, true, (ZH (O.set c o1)).set c (C.s 2 (o1.length + ot.length))⟩) (ts := At (o1 ++ ot)) 1 c 2 (o1.length + ot.length) (by decide) rfl hj6 rfl rfl (show 0 < 2 by omega) (by rw [Ah, List.length_append]) (DA _)) ?_
  simp only [hset6, go_sem]
  (refine We ?_;(repeat clear hK K);repeat refine kq fun K hK=>?_)
  refine Wn ?_
  refine hK _ (m + 1) (by omega) (by omega) ?_
  refine Le.trans (A8 [0, 1] rfl rfl) ?_
  (try simp only [List.set_nil, List.take_nil, List.take_zero, List.map_append, go_sem])
  (try simp only [Pl])
  rw [hnx]
  simp only [ZG]
  exact Wo
 have d2 : decide ((m : Int) < (nx.length : Int)) = false := by simpa using hlm
 have hmx : nx.take m = nx := gE7 (by omega)
 rw [hmx] at hpl2 ⊢
 (refine Wf @d2 ?_;(repeat clear hK K);repeat refine kq fun K hK=>?_)
 refine Wm ?_
 (refine Wi ?_;repeat clear hK K)
 have hLl : (oc ++ XC O nx).length <= 1200000 := by rw [List.length_append]; omega
 generalize oc ++ XC O nx = L at *
 have hgc : (ZH (O.set c L))[c]? = some (.o (2, 83) (At L)) := B2 (gEc (by omega))
 refine Av (YW 1 c L.length rfl hgc (by rw [A3]) (show 0 < 2 by omega)) ?_
 have hgs : ∀ n, ((ZH (O.set c L)).set c (C.s 2 n))[c]? = some (.s 2 n) := fun n => by rw [gEc (by rw [B0, List.length_set]; omega)]
 simp only [Co, go_sem]
 have hsl : (O.set c L).length = X.length := by simp [hOl]
 (refine Wf (an @B0 (an @List.length_set.{0} (an @hOl @hgs))) ?_;(repeat clear hK K);repeat refine kq fun K hK=>?_)
 (refine Ad rfl ?_; intro K1 hK1; refine AX (ids := []) [2] (YV 82 (by kernel_rfl) Z8 L (by omega)) rfl rfl (by simp only [go_sem]) (by first | assumption | kernel_rfl) rfl rfl (by (simp only [List.map_append, List.append_nil, go_sem]) <;> rfl) (by (simp only [VC, F6, go_sem]) <;> rfl) ?_ ?_)
 ·rintro _ _ ⟨rfl, L', _, _, rfl⟩; rfl
 rintro _ _ ⟨rfl, L', hperm, hsort, rfl⟩
 (simp only [Aq, Bc, R0, List.append_nil, List.nil_append, List.length_map, go_sem]; refine hK1 _ ?_; clear hK1 K1)
 have hL2 := hperm.length_eq
 have hq : LI L' = Cx L := by rw [N3]; exact MI hperm hsort
 (refine Wf (an @B0 (an @List.length_set.{0} (an @hOl @hgs))) ?_;(repeat clear hK K);repeat refine kq fun K hK=>?_)
 rw [<- hL2]
 (refine Ad rfl ?_; intro K1 hK1; refine AX (ids := []) [2] (R3 L' (by omega)) rfl rfl (by simp only [go_sem]) (by first | assumption | kernel_rfl) rfl rfl (by (simp only [List.map_append, List.append_nil, go_sem]) <;> rfl) (by (simp only [VC, F6, go_sem]) <;> rfl) ?_ ?_)
 ·rintro _ _ ⟨rfl, rest, us, _, _, rfl⟩; rfl
 rintro _ _ ⟨rfl, rest, us, hrest, hr0, rfl⟩
 (simp only [Aq, Bc, R0, List.append_nil, List.nil_append, List.length_map, go_sem]; refine hK1 _ ?_; clear hK1 K1)
 obtain ⟨q, hqd⟩ : ∃ q, q = Cx L := ⟨_, rfl⟩
 rw [<- hqd] at hq hst
 have hql : q.length <= 1200000 := by rw [hqd]; exact Nat.le_trans (Iq L) (by omega)
 rw [hq]
 (refine Wf (an @B0 (an @List.length_set.{0} (an @hOl @List.set_set.{0}))) ?_;(repeat clear hK K);repeat refine kq fun K hK=>?_)
 have hj6 : ((ZH (O.set c L)).set c (C.s 2 q.length))[c]? = some (.s 2 q.length) := hgs _
 have hset6 : ((ZH (O.set c L)).set c (C.s 2 q.length)).set c (.o (2, 83) (At q)) = ZH (O.set c q) := by rw [CU, R2, List.set_set]
 refine Wn ?_
 refine hK _ (i + 1, O.set c q) ⟨by simp only; omega, hst⟩ (by simp only; omega) ?_
 refine Le.trans (Rr 2 (q.length * 2) rfl ?_) ?_
 ·intro _ h
  rw [T0 _ _ _ (R0 _ _)] at h
  have hq0 : q = [] := by
   have := congrArg List.length h
   rw [Ah] at this
   exact List.length_eq_zero_iff.1 (by simp at this; omega)
  have hL0 : L' = [] := by
   cases L' with
   | nil => rfl
   | cons x xs =>
    have : LI (x :: xs) = [] := by rw [hq, hq0]
    simp [LI] at this
  rw [hr0 hL0, hq0]; rfl
 simp only [T0 _ _ _ (R0 _ _), go_sem]
 refine Le.trans (AR (r := ⟨83, 2, true, As q⟩) (ri := ⟨81, 1, true, (ZH (O.set c L)).set c (C.s 2 q.length)⟩) (ts := At q) 1 c 2 q.length (by decide) rfl hj6 rfl rfl (show 0 < 2 by omega) (by rw [Ah]) (DA _)) ?_
 simp only [hset6, go_sem]
 refine Le.trans (A8 [0, 1] rfl rfl) ?_
 (try simp only [List.set_nil, List.take_nil, List.take_zero, List.map_append, go_sem])
 (try simp only [Pl])
 simp only [ZG]
 exact Wo
end Go.Proofs.YthnkailnoobdoaaGreatDoor
