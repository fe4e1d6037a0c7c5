/- side.arrows. side.classes. delay.Classes. delay.Equal. Delay classes exist: equality is decided by them. -/
import Derived.Test.YtahnebicgbjonaaZk
import Derived.Test.YtahnebicgbjonaaSd2
import Derived.Test.YtahnebicgbjonaaMob
import Derived.Test.YtahnebicgbjonaaMG
import Derived.Test.YtahnebicgbjonaaMnil
import Derived.Test.YtahnebicgbjonaaG11
import Derived.Test.YtahnebicgbjonaaOd1
namespace Go.Proofs.Ytahnebicgbjonaa
set_option linter.unusedVariables false
set_option linter.unusedSimpArgs false
open Go.RowKit
set_option maxRecDepth 100000
attribute [local go_sem] List.set_cons_zero List.set_cons_succ List.map_cons List.map_nil List.take_succ_cons List.take_zero List.drop_zero List.drop_succ_cons C.pl C.one List.all_cons List.all_nil Bool.and_true Nat.mul_one Int.toNat_natCast

def sdT (A : List (List Ar)) (cm oq : List Int) (dv : List Bool) : Row := ⟨48, 4, false, [.t 1 (tRows A), .t 1 (tInts cm), .t 1 (tInts oq), .t 1 (tBs dv)]⟩
def cDO (xs : List (List Ar)) : List C := xs.map fun r => .o (2, 66) (tArcs r)
theorem cDO_len (xs : List (List Ar)) : (cDO xs).length = xs.length := by simp [cDO]
theorem cDO_get {xs : List (List Ar)} {i : Nat} {x : List Ar} (h : xs[i]? = some x) : (cDO xs)[i]? = some (.o (2, 66) (tArcs x)) := by simp [cDO, h]
theorem cDO_set (xs : List (List Ar)) (i : Nat) (x : List Ar) : (cDO xs).set i (.o (2, 66) (tArcs x)) = cDO (xs.set i x) := by simp [cDO, List.map_set]
theorem cDO_ren (f : List Nat) (L : List (List Ar)) : (cDO L).map (C.ren f) = cDO L := by simp [cDO, C.ren, Function.comp_def]
theorem cDO_ot (L : List (List Ar)) : (cDO L).map otC = cRows L := by simp [cDO, cRows, otC, Function.comp_def]
theorem cArcs_up4 (f : Nat → Nat) (L : List Ar) : (cArcs L).map (C.up f) = cArcs L := by
 rw [cpA_cells, List.map_map]
 simp [C.up, Function.comp_def]
theorem cut_arcs4 (q : List Ar) (ys : List C) (f : C → C) (hf : (cArcs q).map f = cArcs q) : ((cArcs q ++ ys).map f).take (q.length * 2) = cArcs q := by
 rw [List.map_append, hf, List.take_append_of_le_length (by rw [cArcs_len]; exact Nat.le_refl _), List.take_of_length_le (by rw [cArcs_len]; exact Nat.le_refl _)]
set_option maxHeartbeats 8000000 in
theorem arr_fc (X : List (List Ar)) (D cl : List Int) (Q : List Nat) (dv : List Bool) (hv : valB X = true) (hn : X.length ≤ 100) (ht : totA X ≤ 1000) (hr : ∀ r ∈ X, r.length ≤ 1000000) (hD : CpOk X D) (hQ : OrdOk (edL (cpF D) X X.length) X.length (cpF D) Q) (hcl : cl.length = X.length) : FC Try.prog 29 [.a (.c (.p 0 0)), aInts cl] [.r (sdT X D (Q.map Int.ofNat) dv)] (fun r o => ∃ O, P3 (cpF D) cl X Q Q.length O ∧ r = .a (.c (.s 1 X.length)) ∧ o = [.r (sdT X D (Q.map Int.ofNat) dv), .r ⟨64, 1, true, cRows O⟩]) := by
 refine fc_intro Try.func29 rfl (by rw [Try.ntmps29]; simp) ?_
 rw [Try.ntmps29]
 have hlo : looB X = true := decide_eq_true (of_decide_eq_true hv).1
 have hbd := (of_decide_eq_true hlo).2.2.2
 have hDl := hD.1
 simp only [enum, aInts, sdT]
 (refine wk1 (an @tRows_len (an @tInts_len @hDl)) ?_;(repeat clear hK K);repeat refine kq fun K hK=>?_)
 have e0 : List.replicate X.length (C.o (2, 66) []) = cDO (arL (cpF D) cl X 0) := by rw [arL_zero]; simp [cDO, tArcs]
 rw [e0]
 refine aw_loop (fun k : Nat => { tm := [(0, .a (.c (.p 0 0))), (1, .a (.c (.t 1 (tInts cl)))), (5, .a (.c (.s 1 X.length))), (30, .a (.c (.t 1 (tInts D)))), (31, .i X.length), (32, .i k)], hp := [.r (sdT X D (Q.map Int.ofNat) dv), .r ⟨64, 1, true, cDO (arL (cpF D) cl X k)⟩], n := 190, pin := 1 }) (fun k => k ≤ X.length) (fun k => X.length - k) 0 ?_ ?_ ?_
 ·omega
 ·simp only [sdT]
  exact lmz
 ·rintro k hk K hK
  simp only [sdT]
  by_cases hlt : k < X.length
  ·have d1 : decide ((k : Int) < (X.length : Int)) = true := by simpa using hlt
   have hgX := List.getElem?_eq_getElem hlt
   have hgd : X.getD k [] = X[k] := by rw [List.getD_eq_getElem?_getD, hgX]; rfl
   have hrl := hr _ (List.getElem_mem hlt)
   have hb := hbd _ (List.getElem_mem hlt)
   obtain ⟨gD0, hfk, _⟩ := cpF_ok hv hD hlt
   have gD := tInts_get gD0
   have hkc : k < cl.length := by omega
   have gc := tInts_get (List.getElem?_eq_getElem hkc)
   have hcd : cl.getD k 0 = cl[k] := by rw [List.getD_eq_getElem?_getD, List.getElem?_eq_getElem hkc]; rfl
   have hgo := arL_get (f := cpF D) (cl := cl) (k := k) hfk
   have hcl2 := arC_len (cpF D) cl X (cpF D k) k hk
   have htk := totA_le X k
   have hsu := arL_succ (cl := cl) (k := k) hfk
   have hLl := arL_len (cpF D) cl X k
   have hS : arS cl X k = (0, cl[k]) :: arN cl X[k] := by unfold arS; rw [hgd, hcd]
   rw [hS] at hsu
   generalize X[k] = row at *
   generalize cl[k] = ck at *
   generalize arC (cpF D) cl X k (cpF D k) = oc at *
   generalize arL (cpF D) cl X k = B at *
   generalize cpF D k = fk at *
   (refine wk1 @d1 ?_;(repeat clear hK K);repeat refine kq fun K hK=>?_)
   refine cxz ?_
   (refine wk1 (an @tInts_len (an @gD @hDl)) ?_;(repeat clear hK K);repeat refine kq fun K hK=>?_)
   (refine aw_regionZ [] (.m 0 0 0 (.m 1 0 0 (.m 2 0 0 (.m 3 0 0 (.m 4 0 0 (.m 5 1 12 (.m 6 0 0 (.m 7 0 0 (.m 8 0 0 (.m 9 1 11 (.m 10 0 0 (.a 11 (.a 12 (.m 13 0 0 (.a 14 .e))))))))))))))) (by kernel_rfl) (by kernel_rfl) (by intro c st h; simp [ThenA, InBl, Ret] at h) ?_)
   have hgo' := cDO_get hgo
   (refine zk1 (an @cDO_len (an (cDO_get hgo) (an @hLl (an @tInts_len (an @hcl (an @gc (an @tArcs_len @half2))))))) ?_; repeat clear hK K)
   (refine z_2 rfl rfl ?_; intro K1 hK1; refine stpF_a rfl ?_; simp only [go_sem]; (first | refine hK1 _ ?_ | refine andk (hK1 _ ?_)); clear hK1 K1)
   (refine z_2y rfl rfl rfl ?_; intro K1 hK1; refine stpY_ap rfl rfl rfl rfl (by first | rfl | simp only [rowsB, List.getD_cons_zero, List.getD_cons_succ, hne, List.isEmpty_cons, Bool.not_false, Bool.true_and, Bool.and_true, Bool.and_self]) rfl ?_; simp only [go_sem, tArcs_c, tArcs_len, half2, cArcs_snoc, cDO_get hgo]; (first | refine hK1 _ ?_ | refine andk (hK1 _ ?_)); clear hK1 K1)
   (refine zk1 (an @cDO_len @hLl) ?_; repeat clear hK K)
   (refine z_3 rfl rfl rfl rfl ?_; intro K1 hK1; refine stp_ev rfl ?_; simp only [go_sem, cDO_len, List.length_set, set_two3, hLl]; (first | refine hK1 _ ?_ | refine andk (hK1 _ ?_)); clear hK1 K1)
   refine z_nil ⟨by simp, by simp, ?_⟩
   (try simp only [ThenA, InBl])
   refine hK _ ?_
   clear hK K
   have hfB : fk < B.length := by omega
   have hj6 : ((cDO (B)).set fk (C.s 3 ((oc).length + 1)))[fk]? = some (.s 3 ((oc).length + 1)) := by rw [List.getElem?_set_self (by rw [cDO_len]; first | assumption | omega)]
   have hset6 : ((cDO (B)).set fk (C.s 3 ((oc).length + 1))).set fk (.o (2, 66) (tArcs (oc ++ [(0, ck)]))) = cDO ((B).set fk (oc ++ [(0, ck)])) := by rw [set_two3, cDO_set]
   refine aw_le (le_sink (r := ⟨66, 2, true, cArcs (oc ++ [(0, ck)])⟩) (ri := ⟨64, 1, true, (cDO (B)).set fk (C.s 3 ((oc).length + 1))⟩) (ts := tArcs (oc ++ [(0, ck)])) 1 fk 3 ((oc).length + 1) (by decide) rfl hj6 rfl rfl (show 0 < 2 by omega) (by rw [cArcs_len]; simp) (fz_ca _)) ?_
   simp only [hset6, go_sem]
   refine aw_le (le_pick [0, 1] rfl rfl) ?_
   (try simp only [List.set_nil, List.take_nil, List.take_zero, List.map_append, go_sem])
   (try simp only [cDO_ren])
   (refine wk1 (an @tRows_len (an (tRows_get hgX) (an @tArcs_len @half2))) ?_;(repeat clear hK K);repeat refine kq fun K hK=>?_)
   refine aw_loop (fun j : Nat => { tm := [(0, .a (.c (.p 0 0))), (1, .a (.c (.t 1 (tInts cl)))), (5, .a (.c (.s 1 X.length))), (7, .i fk), (30, .a (.c (.t 1 (tInts D)))), (31, .i X.length), (32, .i k), (58, .a (.c (.t 2 (tArcs row)))), (59, .i row.length), (60, .i j)], hp := [.r (sdT X D (Q.map Int.ofNat) dv), .r ⟨64, 1, true, cDO (B.set fk (oc ++ (0, ck) :: arN cl (row.take j)))⟩], n := 190, pin := 1 }) (fun j => j ≤ row.length) (fun j => row.length - j) 0 ?_ ?_ ?_
   ·omega
   ·simp only [sdT, List.take_zero, arN, List.filterMap_nil]
    exact lmz
   ·rintro j hj K hK
    simp only [sdT]
    by_cases hlt2 : j < row.length
    ·have d2 : decide ((j : Int) < (row.length : Int)) = true := by simpa using hlt2
     have hat := tArcs_at hlt2
     have hba := hb _ (List.getElem_mem hlt2)
     have hsn := arN_snoc cl (row.take j) row[j]
     rw [← List.take_succ_eq_append_getElem hlt2] at hsn
     have hol := arN_len cl (row.take j)
     generalize row[j] = a at *
     obtain ⟨e, t⟩ := a
     simp only at hat hba
     obtain ⟨tn, rfl⟩ : ∃ tn : Nat, t = (tn : Int) := ⟨t.toNat, by omega⟩
     have htn : tn < cl.length := by omega
     have gt := tInts_get (List.getElem?_eq_getElem htn)
     have hdef : arA cl (e, (tn : Int)) = if e ≠ 0 then some (e, cl[tn]) else none := by unfold arA; simp only [Int.toNat_natCast]; rw [List.getD_eq_getElem?_getD, List.getElem?_eq_getElem htn]; rfl
     have hol2 : (oc ++ (0, ck) :: arN cl (row.take j)).length ≤ 3000000 := by
      rw [List.length_append, List.length_cons]; have := List.length_take_le j row; omega
     have hnx : oc ++ (0, ck) :: arN cl (row.take (j + 1)) = (oc ++ (0, ck) :: arN cl (row.take j)) ++ (arA cl (e, (tn : Int))).toList := by rw [hsn]; simp
     generalize oc ++ (0, ck) :: arN cl (row.take j) = o1 at *
     generalize cl[tn] = ct at *
     have hsl : (B.set fk o1).length = X.length := by simp [hLl]
     have hg1 : (B.set fk o1)[fk]? = some o1 := List.getElem?_set_self (by omega)
     (refine wk1 @d2 ?_;(repeat clear hK K);repeat refine kq fun K hK=>?_)
     refine cxz ?_
     by_cases he : e = 0
     ·have d3 : (e != 0) = false := by simp [he]
      rw [if_neg (by simp [he])] at hdef
      (refine wks1 (an @hat (an @tArcs_len (an @half2 @d3))) ?_;(repeat clear hK K);repeat refine kq fun K hK=>?_)
      refine cyz ?_
      (refine wk0 ?_;(repeat clear hK K);repeat refine kq fun K hK=>?_)
      refine rnz ?_
      refine hK _ (j + 1) (by omega) (by omega) ?_
      refine Le.trans (le_pick [0, 1] rfl rfl) ?_
      (try simp only [List.set_nil, List.take_nil, List.take_zero, List.map_append, go_sem])
      (try simp only [cDO_ren])
      rw [hnx, hdef]
      simp only [Option.toList, List.append_nil, sdT]
      exact lmz
     ·have d3 : (e != 0) = true := by simpa using he
      rw [if_pos he] at hdef
      (refine wks1 (an @hat (an @tArcs_len (an @half2 @d3))) ?_;(repeat clear hK K);repeat refine kq fun K hK=>?_)
      refine cxz ?_
      (refine aw_regionZ [] (.m 0 0 0 (.m 1 0 0 (.m 2 0 0 (.m 3 0 0 (.m 4 0 0 (.m 5 1 15 (.m 6 0 0 (.m 7 1 14 (.m 8 0 0 (.m 9 0 0 (.m 10 1 14 (.m 11 0 0 (.m 12 1 14 (.m 13 0 0 (.a 14 (.a 15 (.m 16 0 0 (.a 17 .e)))))))))))))))))) (by kernel_rfl) (by kernel_rfl) (by intro c st h; simp [ThenA, InBl, Ret] at h) ?_)
      (refine zk1 (an @cDO_len (an (cDO_get hg1) (an @hsl (an @hLl (an @tInts_len (an @hcl (an @gt (an @tArcs_len @half2)))))))) ?_; repeat clear hK K)
      (refine z_2 rfl rfl ?_; intro K1 hK1; refine stpF_a rfl ?_; simp only [go_sem]; (first | refine hK1 _ ?_ | refine andk (hK1 _ ?_)); clear hK1 K1)
      (refine z_2y rfl rfl rfl ?_; intro K1 hK1; refine stpY_ap rfl rfl rfl rfl (by first | rfl | simp only [rowsB, List.getD_cons_zero, List.getD_cons_succ, hne, List.isEmpty_cons, Bool.not_false, Bool.true_and, Bool.and_true, Bool.and_self]) rfl ?_; simp only [go_sem, tArcs_c, tArcs_len, half2, cArcs_snoc, cDO_get hg1]; (first | refine hK1 _ ?_ | refine andk (hK1 _ ?_)); clear hK1 K1)
      (refine zk1 (an @cDO_len @hsl) ?_; repeat clear hK K)
      (refine z_3 rfl rfl rfl rfl ?_; intro K1 hK1; refine stp_ev rfl ?_; simp only [go_sem, cDO_len, List.length_set, set_two3, hsl]; (first | refine hK1 _ ?_ | refine andk (hK1 _ ?_)); clear hK1 K1)
      refine z_nil ⟨by simp, by simp, ?_⟩
      (try simp only [ThenA, InBl])
      refine hK _ ?_
      clear hK K
      have hfB1 : fk < (B.set fk o1).length := by omega
      have hj6 : ((cDO (B.set fk o1)).set fk (C.s 4 ((o1).length + 1)))[fk]? = some (.s 4 ((o1).length + 1)) := by rw [List.getElem?_set_self (by rw [cDO_len]; first | assumption | omega)]
      have hset6 : ((cDO (B.set fk o1)).set fk (C.s 4 ((o1).length + 1))).set fk (.o (2, 66) (tArcs (o1 ++ [(e, ct)]))) = cDO ((B.set fk o1).set fk (o1 ++ [(e, ct)])) := by rw [set_two3, cDO_set]
      refine aw_le (le_sink (r := ⟨66, 2, true, cArcs (o1 ++ [(e, ct)])⟩) (ri := ⟨64, 1, true, (cDO (B.set fk o1)).set fk (C.s 4 ((o1).length + 1))⟩) (ts := tArcs (o1 ++ [(e, ct)])) 1 fk 4 ((o1).length + 1) (by decide) rfl hj6 rfl rfl (show 0 < 2 by omega) (by rw [cArcs_len]; simp) (fz_ca _)) ?_
      simp only [hset6, go_sem]
      refine aw_le (le_pick [0, 1] rfl rfl) ?_
      (try simp only [List.set_nil, List.take_nil, List.take_zero, List.map_append, go_sem])
      (try simp only [cDO_ren])
      (refine wk0 ?_;(repeat clear hK K);repeat refine kq fun K hK=>?_)
      refine rnz ?_
      refine hK _ (j + 1) (by omega) (by omega) ?_
      rw [hnx, hdef]
      simp only [Option.toList, List.set_set, sdT]
      exact lmz
    ·have d2 : decide ((j : Int) < (row.length : Int)) = false := by simpa using hlt2
     have htr : row.take j = row := List.take_of_length_le (by omega)
     rw [htr, hsu]
     (refine wk1 @d2 ?_;(repeat clear hK K);repeat refine kq fun K hK=>?_)
     refine cyz ?_
     (refine ekz ?_;repeat clear hK K)
     (refine wk0 ?_;(repeat clear hK K);repeat refine kq fun K hK=>?_)
     refine rnz ?_
     refine hK _ (k + 1) (by omega) (by omega) ?_
     simp only [sdT]
     exact lmz
  ·have d1 : decide ((k : Int) < (X.length : Int)) = false := by simpa using hlt
   have hke : k = X.length := by omega
   rw [hke] at d1
   rw [hke]
   (refine wk1 @d1 ?_;(repeat clear hK K);repeat refine kq fun K hK=>?_)
   refine cyz ?_
   (refine ekz ?_;repeat clear hK K)
   (refine wk1 (an @tRows_len (an @tInts_len @hDl)) ?_;(repeat clear hK K);repeat refine kq fun K hK=>?_)
   have e1 : List.replicate X.length (C.o (1, 3) []) = cSetsO (nxE X.length (edL (cpF D) X 0)) := by
    have : edL (cpF D) X 0 = [] := rfl
    rw [this, nxE_zero]; simp [cSetsO, tInts]
   rw [e1]
   refine aw_loop (fun k : Nat => { tm := [(0, .a (.c (.p 0 0))), (5, .a (.c (.s 1 X.length))), (10, .a (.c (.s 2 X.length))), (96, .a (.c (.t 1 (tInts D)))), (97, .i X.length), (98, .i k)], hp := [.r (sdT X D (Q.map Int.ofNat) dv), .r ⟨64, 1, true, cDO (arL (cpF D) cl X X.length)⟩, .r ⟨22, 1, true, cSetsO (nxE X.length (edL (cpF D) X k))⟩], n := 190, pin := 1 }) (fun k => k ≤ X.length) (fun k => X.length - k) 0 ?_ ?_ ?_
   ·omega
   ·simp only [sdT]
    exact lmz
   ·clear hk hlt d1 hke
    rintro k hk K hK
    simp only [sdT]
    by_cases hlt : k < X.length
    ·have d1 : decide ((k : Int) < (X.length : Int)) = true := by simpa using hlt
     have hgX := List.getElem?_eq_getElem hlt
     have hgd : X.getD k [] = X[k] := by rw [List.getD_eq_getElem?_getD, hgX]; rfl
     have hrl := hr _ (List.getElem_mem hlt)
     have hb := hbd _ (List.getElem_mem hlt)
     have hel := edL_len (cpF D) X k hk
     have hto := totA_le X k
     have hsu : edL (cpF D) X (k + 1) = edL (cpF D) X k ++ edR (cpF D) k X[k] := by rw [edL_succ, hgd]
     obtain ⟨gDk0, hfk, _⟩ := cpF_ok hv hD hlt
     have gDk := tInts_get gDk0
     generalize X[k] = row at *
     generalize edL (cpF D) X k = E0 at *
     (refine wk1 @d1 ?_;(repeat clear hK K);repeat refine kq fun K hK=>?_)
     refine cxz ?_
     (refine wk1 (an @tInts_len (an @hDl (an @gDk (an @tRows_len (an (tRows_get hgX) (an @tArcs_len @half2)))))) ?_;(repeat clear hK K);repeat refine kq fun K hK=>?_)
     refine aw_loop (fun j : Nat => { tm := [(0, .a (.c (.p 0 0))), (5, .a (.c (.s 1 X.length))), (10, .a (.c (.s 2 X.length))), (12, .i (cpF D k)), (96, .a (.c (.t 1 (tInts D)))), (97, .i X.length), (98, .i k), (110, .a (.c (.t 2 (tArcs row)))), (111, .i row.length), (112, .i j)], hp := [.r (sdT X D (Q.map Int.ofNat) dv), .r ⟨64, 1, true, cDO (arL (cpF D) cl X X.length)⟩, .r ⟨22, 1, true, cSetsO (nxE X.length (E0 ++ edR (cpF D) k (row.take j)))⟩], n := 190, pin := 1 }) (fun j => j ≤ row.length) (fun j => row.length - j) 0 ?_ ?_ ?_
     ·omega
     ·simp only [List.take_zero, edR, List.filterMap_nil, List.append_nil, sdT]
      exact lmz
     ·rintro j hj K hK
      simp only [sdT]
      by_cases hlt2 : j < row.length
      ·have d2 : decide ((j : Int) < (row.length : Int)) = true := by simpa using hlt2
       have hat := tArcs_at hlt2
       have hba := hb _ (List.getElem_mem hlt2)
       have hsn := edR_snoc (cpF D) k (row.take j) row[j]
       rw [← List.take_succ_eq_append_getElem hlt2] at hsn
       have hrl2 := List.length_filterMap_le (edA (cpF D) k) (row.take j)
       have hrl3 : (edR (cpF D) k (row.take j)).length ≤ j := by have := List.length_take_le j row; unfold edR; omega
       generalize row[j] = a at *
       obtain ⟨e, t⟩ := a
       simp only at hat hba
       obtain ⟨tn, rfl⟩ : ∃ tn : Nat, t = (tn : Int) := ⟨t.toNat, by omega⟩
       have htn : tn < X.length := by omega
       obtain ⟨gDt0, hft, _⟩ := cpF_ok hv hD htn
       have gDt := tInts_get gDt0
       have hEl : (E0 ++ edR (cpF D) k (row.take j)).length ≤ 2000000 := by rw [List.length_append]; omega
       have hdef : edA (cpF D) k (e, (tn : Int)) = if e = 0 ∧ cpF D k ≠ cpF D tn then some (cpF D k, cpF D tn) else none := rfl
       have hnx : E0 ++ edR (cpF D) k (row.take (j + 1)) = (E0 ++ edR (cpF D) k (row.take j)) ++ (edA (cpF D) k (e, (tn : Int))).toList := by rw [hsn, List.append_assoc]
       generalize E0 ++ edR (cpF D) k (row.take j) = E at *
       have hbl := nxC_len E (cpF D k)
       have hnl := nxE_len X.length E
       have gN := cSetsO_get (nxE_get (E := E) hfk)
       have hns := nxE_snoc (E := E) (t := cpF D tn) hfk
       generalize hfk' : cpF D k = fk at *
       generalize hft' : cpF D tn = ft at *
       generalize nxC E fk = oc at *
       (refine wk1 @d2 ?_;(repeat clear hK K);repeat refine kq fun K hK=>?_)
       refine cxz ?_
       (refine wks1 (an @hat (an @tArcs_len @half2)) ?_;(repeat clear hK K);repeat refine kq fun K hK=>?_)
       (refine aw_regionU 8 [(0, 0), (1, 0), (2, 0), (3, 1), (4, 0), (5, 1), (6, 0), (7, 1), (8, 2)] (by kernel_rfl) (by kernel_rfl) (by intro c st h; simp [ThenA, InBl, Ret] at h) ?_)
       (refine uk1 (an @tInts_len (an @hDl @gDt)) ?_; repeat clear hK K)
       by_cases hq : e = 0 ∧ fk ≠ ft
       ·obtain ⟨he, hff⟩ := hq
        have d3 : (e == 0) = true := by simpa using he
        have d4 : ((ft : Int) != (fk : Int)) = true := by simp; omega
        rw [if_pos ⟨he, hff⟩] at hdef
        rw [hdef] at hnx
        have hnx : E0 ++ edR (cpF D) k (row.take (j + 1)) = E ++ [(fk, ft)] := hnx
        (refine wk1 (an @d3 @d4) ?_;(repeat clear hK K);repeat refine kq fun K hK=>?_)
        refine cxz ?_
        (refine wk1 (an @cSetsO_len (an @gN (an @hnl (an @set_two3 (an @List.length_set.{0} (an @List.set_cons_zero.{0} (an @List.set_cons_succ.{0} (an @List.take_succ_cons.{0} (an @List.take_zero.{0} (an @List.drop_zero.{0} (an @List.length_take.{0} (an @List.length_drop.{0} (an @List.length_append.{0} (an @tInts_len (an @tInts_take (an @tInts_drop (an @tInts_c (an @cInts_len (an @cInts_one (an @cInts_snoc (an @cInts_app (an @cInts_take @cInts_drop)))))))))))))))))))))) ?_;(repeat clear hK K);repeat refine kq fun K hK=>?_)
        have hj6 : ((cSetsO (nxE X.length E)).set fk (C.s 5 (oc.length + 1)))[fk]? = some (.s 5 (oc.length + 1)) := by rw [List.getElem?_set_self (by rw [cSetsO_len]; omega)]
        have hset6 : ((cSetsO (nxE X.length E)).set fk (C.s 5 (oc.length + 1))).set fk (.o (1, 3) (tInts (oc ++ [(ft : Int)]))) = cSetsO (nxE X.length (E ++ [(fk, ft)])) := by rw [set_two3, cSetsO_set, hns]
        refine rnz ?_
        refine hK _ (j + 1) (by omega) (by omega) ?_
        refine Le.trans (le_sink (r := ⟨3, 1, true, cInts (oc ++ [(ft : Int)])⟩) (ri := ⟨22, 1, true, (cSetsO (nxE X.length E)).set fk (C.s 5 (oc.length + 1))⟩) (ts := tInts (oc ++ [(ft : Int)])) 2 fk 5 (oc.length + 1) (by decide) rfl hj6 rfl rfl (show 0 < 1 by omega) (by rw [cInts_len]; simp) (fz_c _)) ?_
        simp only [hset6, go_sem]
        refine Le.trans (le_pick [0, 1, 2] rfl rfl) ?_
        (try simp only [List.set_nil, List.take_nil, List.take_zero, List.map_append, go_sem])
        (try simp only [cDO_ren, cSetsO_ren])
        rw [hnx]
        simp only [sdT]
        exact lmz
       ·rw [if_neg hq] at hdef
        rw [hdef] at hnx
        have hnx : E0 ++ edR (cpF D) k (row.take (j + 1)) = E := by rw [hnx]; simp
        by_cases he : e = 0
        ·have d3 : (e == 0) = true := by simpa using he
         have hff : fk = ft := Decidable.not_not.1 fun h => hq ⟨he, h⟩
         have d4 : ((ft : Int) != (fk : Int)) = false := by simp [hff]
         (refine wk1 (an @d3 @d4) ?_;(repeat clear hK K);repeat refine kq fun K hK=>?_)
         refine cyz ?_
         (refine wk0 ?_;(repeat clear hK K);repeat refine kq fun K hK=>?_)
         refine rnz ?_
         refine hK _ (j + 1) (by omega) (by omega) ?_
         refine Le.trans (le_pick [0, 1, 2] rfl rfl) ?_
         (try simp only [List.set_nil, List.take_nil, List.take_zero, List.map_append, go_sem])
         (try simp only [cDO_ren, cSetsO_ren])
         rw [hnx]
         simp only [sdT]
         exact lmz
        ·have d3 : (e == 0) = false := by simpa using he
         (refine wk1 @d3 ?_;(repeat clear hK K);repeat refine kq fun K hK=>?_)
         refine cyz ?_
         (refine wk0 ?_;(repeat clear hK K);repeat refine kq fun K hK=>?_)
         refine rnz ?_
         refine hK _ (j + 1) (by omega) (by omega) ?_
         refine Le.trans (le_pick [0, 1, 2] rfl rfl) ?_
         (try simp only [List.set_nil, List.take_nil, List.take_zero, List.map_append, go_sem])
         (try simp only [cDO_ren, cSetsO_ren])
         rw [hnx]
         simp only [sdT]
         exact lmz
      ·have d2 : decide ((j : Int) < (row.length : Int)) = false := by simpa using hlt2
       have hje : row.take j = row := List.take_of_length_le (by omega)
       rw [hje, ← hsu]
       (refine wk1 @d2 ?_;(repeat clear hK K);repeat refine kq fun K hK=>?_)
       refine cyz ?_
       (refine ekz ?_;repeat clear hK K)
       (refine wk0 ?_;(repeat clear hK K);repeat refine kq fun K hK=>?_)
       refine rnz ?_
       refine hK _ (k + 1) (by omega) (by omega) ?_
       simp only [sdT]
       exact lmz
    ·have d1 : decide ((k : Int) < (X.length : Int)) = false := by simpa using hlt
     have hke : k = X.length := by omega
     have hel := edL_len (cpF D) X X.length (Nat.le_refl _)
     rw [List.take_length] at hel
     have hP0 := P3.start (cpF D) cl X Q
     rw [hke] at d1
     rw [hke]
     obtain ⟨E, hEe⟩ : ∃ E, E = edL (cpF D) X X.length := ⟨_, rfl⟩
     rw [← hEe] at hel hQ ⊢
     have hnl := nxE_len X.length E
     (refine wk1 @d1 ?_;(repeat clear hK K);repeat refine kq fun K hK=>?_)
     refine cyz ?_
     (refine ekz ?_;repeat clear hK K)
     refine aw_le (le_ot 2 rfl) ?_
     simp only [cSetsO_ot2, go_sem]
     have htk : (tSets (nxE X.length E)).take X.length = tSets (nxE X.length E) := List.take_of_length_le (by rw [tSets_len]; omega)
     have hif : (if X.length ≤ (tSets (nxE X.length E)).length then C.t 1 (tSets (nxE X.length E)) else C.u) = C.t 1 (tSets (nxE X.length E)) := if_pos (by rw [tSets_len]; omega)
     (refine aw_le (le_frz (r := ⟨22, 1, true, cSets (nxE X.length E)⟩) 2 (tSets (nxE X.length E)) rfl (fz_st _) (show 0 < (1 : Nat) by omega)) ?_; simp only [ST.frz, A0.frz, AV.frz, C.frz, Nat.le_refl, List.set_cons_zero, List.set_cons_succ, go_sem, htk, hif])
     have hQm : (Q.map Int.ofNat).length = Q.length := by simp
     (refine wk1 (an @tInts_len @hQm) ?_;(repeat clear hK K);repeat refine kq fun K hK=>?_)
     refine aw_le (le_pick [0, 1] rfl rfl) ?_
     (try simp only [List.set_nil, List.take_nil, List.take_zero, List.map_append, go_sem])
     (try simp only [cDO_ren])
     have hQn : Q.length ≤ X.length := nodup_le X.length Q hQ.1 (fun u hu => ((hQ.2.1 u).1 hu).1)
     refine aw_loop (fun x : Nat × List (List Ar) => { tm := [(5, .a (.c (.s 1 X.length))), (10, .a (.c (.t 1 (tSets (nxE X.length E))))), (147, .a (.c (.t 1 (tInts (Q.map Int.ofNat))))), (148, .i Q.length), (149, .i x.1)], hp := [.r (sdT X D (Q.map Int.ofNat) dv), .r ⟨64, 1, true, cDO x.2⟩], n := 190, pin := 1 }) (fun x => x.1 ≤ Q.length ∧ P3 (cpF D) cl X Q x.1 x.2) (fun x => Q.length - x.1) (0, arL (cpF D) cl X X.length) ?_ ?_ ?_
     ·exact ⟨Nat.zero_le _, hP0⟩
     ·simp only [sdT]
      exact lmz
     ·clear hk hlt d1 hke hP0
      rintro ⟨i, O⟩ ⟨hi, hP⟩ K hK
      simp only at hi hP
      simp only [sdT]
      have hOl := hP.len
      by_cases hlt : i < Q.length
      ·have d1 : decide ((i : Int) < (Q.length : Int)) = true := by simpa using hlt
       have gQ : (tInts (Q.map Int.ofNat))[i]? = some (.v (.int .i64 ((Q[i] : Nat) : Int))) := tInts_get (by rw [List.getElem?_map, List.getElem?_eq_getElem hlt]; rfl)
       have hQi := List.getElem?_eq_getElem hlt
       have hst := P3.step hv hD (by rw [← hEe]; exact hQ) hP hQi
       rw [← hEe] at hst
       have hcX := ((hQ.2.1 _).1 (List.getElem_mem hlt)).1
       generalize hcq : Q[i] = c at *
       have hE2 : ∀ x ∈ nxC E c, ∃ t : Nat, x = (t : Int) ∧ t < X.length ∧ t ≠ c := fun x hx => by
        obtain ⟨t, e, h1⟩ := mem_nxC.1 hx
        rw [hEe] at h1
        refine ⟨t, e, (edL_down hv hD _ h1).2.1, ?_⟩
        obtain ⟨s, _, a, _, _, h5, h6⟩ := mem_edL.1 h1
        rintro rfl
        injection h6 with h6 h7
        exact h5 (h6.symm.trans h7)
       have hNg : (nxE X.length E).getD c [] = nxC E c := by rw [List.getD_eq_getElem?_getD, nxE_get hcX]; rfl
       have gN := tSets_get (nxE_get (E := E) hcX)
       have hxl := nxC_len E c
       unfold p3S at hst
       rw [hNg] at hst
       generalize nxC E c = nx at *
       have hBd := hP.sz
       have hOc : O[c]? = some (O.getD c []) := by rw [List.getD_eq_getElem?_getD, List.getElem?_eq_getElem (by omega)]; rfl
       have hocl := hBd c
       generalize hoc : O.getD c [] = oc at *
       (refine wk1 @d1 ?_;(repeat clear hK K);repeat refine kq fun K hK=>?_)
       refine cxz ?_
       (refine wk1 (an @tInts_len (an @hQm (an @gQ (an @tSets_len (an @hnl @gN))))) ?_;(repeat clear hK K);repeat refine kq fun K hK=>?_)
       refine aw_loop (fun m : Nat => { tm := [(5, .a (.c (.s 1 X.length))), (10, .a (.c (.t 1 (tSets (nxE X.length E))))), (17, .i c), (147, .a (.c (.t 1 (tInts (Q.map Int.ofNat))))), (148, .i Q.length), (149, .i i), (156, .a (.c (.t 1 (tInts nx)))), (157, .i nx.length), (158, .i m)], hp := [.r (sdT X D (Q.map Int.ofNat) dv), .r ⟨64, 1, true, cDO (O.set c (oc ++ p3A O (nx.take m)))⟩], n := 190, pin := 1 }) (fun m => m ≤ nx.length) (fun m => nx.length - m) 0 ?_ ?_ ?_
       ·omega
       ·have e2 : O.set c oc = O := by
         refine List.ext_getElem (by simp) fun q h1 h2 => ?_
         rw [List.getElem_set]
         split
         ·rename_i e; subst e; rw [List.getElem?_eq_getElem h2] at hOc; exact (Option.some.inj hOc).symm
         ·rfl
        simp only [List.take_zero, p3A, List.flatMap_nil, List.append_nil, e2, sdT]
        exact lmz
       ·rintro m hm K hK
        simp only [sdT]
        have hpl := p3A_len hBd (nx.take m)
        have hml : (nx.take m).length ≤ 1000 := by rw [List.length_take]; omega
        have hpl2 := Nat.le_trans hpl (Nat.mul_le_mul hml (show X.length + totA X ≤ 1100 by omega))
        by_cases hlm : m < nx.length
        ·have d2 : decide ((m : Int) < (nx.length : Int)) = true := by simpa using hlm
         have gx := tInts_get (List.getElem?_eq_getElem hlm)
         obtain ⟨to, hto, htl, htn⟩ := hE2 _ (List.getElem_mem hlm)
         have hsn := p3A_snoc O (nx.take m) nx[m]
         rw [← List.take_succ_eq_append_getElem hlm, hto] at hsn
         rw [hto] at gx
         simp only [Int.toNat_natCast] at hsn
         have hOt : O[to]? = some (O.getD to []) := by rw [List.getD_eq_getElem?_getD, List.getElem?_eq_getElem (by omega)]; rfl
         have hotl := hBd to
         generalize O.getD to [] = ot at *
         have hol : (oc ++ p3A O (nx.take m)).length ≤ 1200000 := by rw [List.length_append]; omega
         have hnx : oc ++ p3A O (nx.take (m + 1)) = (oc ++ p3A O (nx.take m)) ++ ot := by rw [hsn, List.append_assoc]
         generalize oc ++ p3A O (nx.take m) = o1 at *
         have hsl : (O.set c o1).length = X.length := by simp [hOl]
         have hg1 : (O.set c o1)[c]? = some o1 := List.getElem?_set_self (by omega)
         have hg2 : (O.set c o1)[to]? = some ot := by rw [List.getElem?_set_ne (Ne.symm htn)]; exact hOt
         (refine wk1 @d2 ?_;(repeat clear hK K);repeat refine kq fun K hK=>?_)
         refine cxz ?_
         (refine wk1 (an @tInts_len @gx) ?_;(repeat clear hK K);repeat refine kq fun K hK=>?_)
         (refine aw_regionZ [] (.m 0 0 0 (.m 1 0 0 (.m 2 0 0 (.m 3 0 0 (.m 4 0 0 (.m 5 1 10 (.m 6 0 0 (.m 7 0 0 (.m 8 0 0 (.m 9 1 10 (.a 10 (.m 11 0 0 (.a 12 .e))))))))))))) (by kernel_rfl) (by kernel_rfl) (by intro c st h; simp [ThenA, InBl, Ret] at h) ?_)
         (refine zk1 (an @cDO_len (an (cDO_get hg1) (an (cDO_get hg2) (an @hsl (an @tArcs_len @half2))))) ?_; repeat clear hK K)
         (refine z_2y rfl rfl rfl ?_; intro K1 hK1; refine stpY_ap rfl rfl rfl rfl (by first | rfl | simp only [rowsB, List.getD_cons_zero, List.getD_cons_succ, hne, List.isEmpty_cons, Bool.not_false, Bool.true_and, Bool.and_true, Bool.and_self]) rfl ?_; simp only [go_sem, tArcs_c, tArcs_len, half2, cArcs_app, cDO_get hg1, cDO_get hg2]; (first | refine hK1 _ ?_ | refine andk (hK1 _ ?_)); clear hK1 K1)
         (refine zk1 (an @cDO_len @hsl) ?_; repeat clear hK K)
         (refine z_3 rfl rfl rfl rfl ?_; intro K1 hK1; refine stp_ev rfl ?_; simp only [go_sem, cDO_len, List.length_set, set_two3, hsl]; (first | refine hK1 _ ?_ | refine andk (hK1 _ ?_)); clear hK1 K1)
         refine z_nil ⟨by simp, by simp, ?_⟩
         (try simp only [ThenA, InBl])
         refine hK _ ?_
         clear hK K
         have hj6 : ((cDO (O.set c o1)).set c (C.s 2 (o1.length + ot.length)))[c]? = some (.s 2 (o1.length + ot.length)) := by rw [List.getElem?_set_self (by rw [cDO_len]; omega)]
         have hset6 : ((cDO (O.set c o1)).set c (C.s 2 (o1.length + ot.length))).set c (.o (2, 66) (tArcs (o1 ++ ot))) = cDO (O.set c (o1 ++ ot)) := by rw [set_two3, cDO_set, List.set_set]
         refine aw_le (le_sink (r := ⟨66, 2, true, cArcs (o1 ++ ot)⟩) (ri := ⟨64, 1, true, (cDO (O.set c o1)).set c (C.s 2 (o1.length + ot.length))⟩) (ts := tArcs (o1 ++ ot)) 1 c 2 (o1.length + ot.length) (by decide) rfl hj6 rfl rfl (show 0 < 2 by omega) (by rw [cArcs_len, List.length_append]) (fz_ca _)) ?_
         simp only [hset6, go_sem]
         (refine wk0 ?_;(repeat clear hK K);repeat refine kq fun K hK=>?_)
         refine rnz ?_
         refine hK _ (m + 1) (by omega) (by omega) ?_
         refine Le.trans (le_pick [0, 1] rfl rfl) ?_
         (try simp only [List.set_nil, List.take_nil, List.take_zero, List.map_append, go_sem])
         (try simp only [cDO_ren])
         rw [hnx]
         simp only [sdT]
         exact lmz
        ·have d2 : decide ((m : Int) < (nx.length : Int)) = false := by simpa using hlm
         have hmx : nx.take m = nx := List.take_of_length_le (by omega)
         rw [hmx] at hpl2 ⊢
         (refine wk1 @d2 ?_;(repeat clear hK K);repeat refine kq fun K hK=>?_)
         refine cyz ?_
         (refine ekz ?_;repeat clear hK K)
         have hLl : (oc ++ p3A O nx).length ≤ 1200000 := by rw [List.length_append]; omega
         generalize oc ++ p3A O nx = L at *
         have hgc : (cDO (O.set c L))[c]? = some (.o (2, 66) (tArcs L)) := cDO_get (List.getElem?_set_self (by omega))
         refine aw_le (le_raise 1 c L.length rfl hgc (by rw [tArcs_len]) (show 0 < 2 by omega)) ?_
         have hgs : ∀ n, ((cDO (O.set c L)).set c (C.s 2 n))[c]? = some (.s 2 n) := fun n => by rw [List.getElem?_set_self (by rw [cDO_len, List.length_set]; omega)]
         simp only [tArcs_c, go_sem]
         have hsl : (O.set c L).length = X.length := by simp [hOl]
         (refine wk1 (an @cDO_len (an @List.length_set.{0} (an @hOl @hgs))) ?_;(repeat clear hK K);repeat refine kq fun K hK=>?_)
         (refine lst_cons rfl ?_; intro K1 hK1; refine stp_callσ (ids := []) [2] (sortD_fc 43 (by kernel_rfl) dcmp_fc L (by omega)) rfl rfl (by simp only [go_sem]) (by first | assumption | kernel_rfl) rfl rfl (by (simp only [List.map_append, List.append_nil, go_sem]) <;> rfl) (by (simp only [pkh, cArcs_ren2, go_sem]) <;> rfl) ?_ ?_)
         ·rintro _ _ ⟨rfl, L', _, _, rfl⟩; rfl
         rintro _ _ ⟨rfl, L', hperm, hsort, rfl⟩
         (simp only [aInts, aSets, cArcs_up4, List.append_nil, List.nil_append, List.length_map, go_sem]; refine hK1 _ ?_; clear hK1 K1)
         have hL2 := hperm.length_eq
         have hq : cmpA L' = rowOf L := by rw [cmpA_comp]; exact comp_sort hperm hsort
         (refine wk1 (an @cDO_len (an @List.length_set.{0} (an @hOl @hgs))) ?_;(repeat clear hK K);repeat refine kq fun K hK=>?_)
         rw [← hL2]
         (refine lst_cons rfl ?_; intro K1 hK1; refine stp_callσ (ids := []) [2] (compact_arrs L' (by omega)) rfl rfl (by simp only [go_sem]) (by first | assumption | kernel_rfl) rfl rfl (by (simp only [List.map_append, List.append_nil, go_sem]) <;> rfl) (by (simp only [pkh, cArcs_ren2, go_sem]) <;> rfl) ?_ ?_)
         ·rintro _ _ ⟨rfl, rest, us, _, _, rfl⟩; rfl
         rintro _ _ ⟨rfl, rest, us, hrest, hr0, rfl⟩
         (simp only [aInts, aSets, cArcs_up4, List.append_nil, List.nil_append, List.length_map, go_sem]; refine hK1 _ ?_; clear hK1 K1)
         obtain ⟨q, hqd⟩ : ∃ q, q = rowOf L := ⟨_, rfl⟩
         rw [← hqd] at hq hst
         have hql : q.length ≤ 1200000 := by rw [hqd]; exact Nat.le_trans (len_rowOf L) (by omega)
         rw [hq]
         (refine wk1 (an @cDO_len (an @List.length_set.{0} (an @hOl @List.set_set.{0}))) ?_;(repeat clear hK K);repeat refine kq fun K hK=>?_)
         have hj6 : ((cDO (O.set c L)).set c (C.s 2 q.length))[c]? = some (.s 2 q.length) := hgs _
         have hset6 : ((cDO (O.set c L)).set c (C.s 2 q.length)).set c (.o (2, 66) (tArcs q)) = cDO (O.set c q) := by rw [set_two3, cDO_set, List.set_set]
         refine rnz ?_
         refine hK _ (i + 1, O.set c q) ⟨by simp only; omega, hst⟩ (by simp only; omega) ?_
         refine Le.trans (le_take 2 (q.length * 2) rfl ?_) ?_
         ·intro _ h
          rw [cut_arcs4 _ _ _ (cArcs_up4 _ _)] at h
          have hq0 : q = [] := by
           have := congrArg List.length h
           rw [cArcs_len] at this
           exact List.length_eq_zero_iff.1 (by simp at this; omega)
          have hL0 : L' = [] := by
           cases L' with
           | nil => rfl
           | cons x xs =>
            have : cmpA (x :: xs) = [] := by rw [hq, hq0]
            simp [cmpA] at this
          rw [hr0 hL0, hq0]; rfl
         simp only [cut_arcs4 _ _ _ (cArcs_up4 _ _), go_sem]
         refine Le.trans (le_sink (r := ⟨66, 2, true, cArcs q⟩) (ri := ⟨64, 1, true, (cDO (O.set c L)).set c (C.s 2 q.length)⟩) (ts := tArcs q) 1 c 2 q.length (by decide) rfl hj6 rfl rfl (show 0 < 2 by omega) (by rw [cArcs_len]) (fz_ca _)) ?_
         simp only [hset6, go_sem]
         refine Le.trans (le_pick [0, 1] rfl rfl) ?_
         (try simp only [List.set_nil, List.take_nil, List.take_zero, List.map_append, go_sem])
         (try simp only [cDO_ren])
         simp only [sdT]
         exact lmz
      ·have d1 : decide ((i : Int) < (Q.length : Int)) = false := by simpa using hlt
       have hie : i = Q.length := by omega
       rw [hie] at hP
       (refine wk1 @d1 ?_;(repeat clear hK K);repeat refine kq fun K hK=>?_)
       refine cyz ?_
       (refine ekz ?_;repeat clear hK K)
       refine aw_le (le_ot 1 rfl) ?_
       simp only [cDO_ot, go_sem]
       (refine wk0 ?_;(repeat clear hK K);repeat refine kq fun K hK=>?_)
       refine rp1 [0, 1] Try.results29 @cRows_ren ?_
       exact ⟨O, hP, rfl⟩
def keD : Value := .string { data := #[100, 105, 118, 101, 114, 103, 101, 110, 116] }
def ke0 : Value := .string { data := #[] }
theorem cKy_up (ky : List Value) (f : Nat → Nat) : (cKy ky).map (C.up f) = cKy ky := by simp [cKy, C.up, Function.comp_def]
def kyM (nk ky : List Value) (k : Nat) : List Value := nk.take k ++ ky.drop k
theorem kyM_len {nk ky : List Value} (h : nk.length = ky.length) {k : Nat} (hk : k ≤ nk.length) : (kyM nk ky k).length = nk.length := by unfold kyM; rw [List.length_append, List.length_take, List.length_drop]; omega
theorem kyM_set {nk ky : List Value} (h : nk.length = ky.length) {k : Nat} {v : Value} (hv : nk[k]? = some v) : (kyM nk ky k).set k v = kyM nk ky (k + 1) := by
 have hk := (List.getElem?_eq_some_iff.1 hv).1
 have hv2 := (List.getElem?_eq_some_iff.1 hv).2
 unfold kyM
 rw [List.set_append_right _ _ (by rw [List.length_take]; omega), List.length_take, show k - min k nk.length = 0 from by omega, List.drop_eq_getElem_cons (by omega : k < ky.length), List.set_cons_zero, List.take_succ_eq_append_getElem hk, hv2, List.append_assoc]
 rfl
theorem le_then {a b c : ST} (h : Le a b) (k : Le b c) : Le a c := h.trans k
theorem cI2 (L : List Int) (x y : Int) : (cInts L).take L.length ++ [C.v (.int .i64 x), C.v (.int .i64 y)] = cInts (L ++ [x, y]) := by
 rw [List.take_of_length_le (by rw [cInts_len]; exact Nat.le_refl _)]; simp [cInts]
set_option maxHeartbeats 8000000 in
theorem cls_fc (X : List (List Ar)) (D : List Int) (Q : List Nat) (dv : List Bool) (hv : valB X = true) (hn : X.length ≤ 100) (ht : totA X ≤ 1000) (hr : ∀ r ∈ X, r.length ≤ 1000000) (hD : CpOk X D) (hQ : OrdOk (edL (cpF D) X X.length) X.length (cpF D) Q) (hB : DvL X dv) : FC Try.prog 16 [.a (.c (.p 0 0))] [.r (sdT X D (Q.map Int.ofNat) dv)] (fun r o => ∃ c, DlC X c ∧ Nrm X.length c ∧ r = aInts c ∧ o = [.r (sdT X D (Q.map Int.ofNat) dv)]) := by
 refine fc_intro Try.func16 rfl (by rw [Try.ntmps16]; simp) ?_
 rw [Try.ntmps16]
 have hlo : looB X = true := decide_eq_true (of_decide_eq_true hv).1
 have h1 : 1 ≤ X.length := (of_decide_eq_true hlo).1
 have hDl := hD.1
 have hBl := hB.1
 simp only [enum, sdT]
 (refine wk1 (an @tRows_len (an @tBs_len @hBl)) ?_;(repeat clear hK K);repeat refine kq fun K hK=>?_)
 have e0 : List.replicate X.length (C.v (.string { data := #[] })) = cKy (kyD keD ke0 dv X.length 0) := by rw [kyD_zero]; simp [cKy, ke0]
 rw [e0]
 refine aw_loop (fun k : Nat => { tm := [(0, .a (.c (.p 0 0))), (3, .a (.c (.s 1 X.length))), (25, .a (.c (.t 1 (tBs dv)))), (26, .i X.length), (27, .i k)], hp := [.r (sdT X D (Q.map Int.ofNat) dv), .r ⟨9, 1, true, cKy (kyD keD ke0 dv X.length k)⟩], n := 93, pin := 1 }) (fun k => k ≤ X.length) (fun k => X.length - k) 0 ?_ ?_ ?_
 ·omega
 ·simp only [sdT]
  exact lmz
 ·rintro k hk K hK
  simp only [sdT]
  by_cases hlt : k < X.length
  ·have d1 : decide ((k : Int) < (X.length : Int)) = true := by simpa using hlt
   have gB : (tBs dv)[k]? = some (.v (.bool (dv.getD k false))) := tBs_get (by rw [List.getD_eq_getElem?_getD, List.getElem?_eq_getElem (by omega)]; rfl)
   have hkt := kyD_true (kd := keD) (ke := ke0) (B := dv) (n := X.length) (k := k)
   have hkf := kyD_false (kd := keD) (ke := ke0) (B := dv) (n := X.length) (k := k)
   have hkl := kyD_len keD ke0 dv X.length k
   generalize dv.getD k false = b at *
   (refine wk1 @d1 ?_;(repeat clear hK K);repeat refine kq fun K hK=>?_)
   refine cxz ?_
   (refine wk1 (an @tBs_len (an @hBl @gB)) ?_;(repeat clear hK K);repeat refine kq fun K hK=>?_)
   cases b with
   | true =>
    have hkt := hkt rfl
    refine cxz ?_
    have hks : (cKy (kyD keD ke0 dv X.length k)).set k (C.v (Value.string { data := #[100, 105, 118, 101, 114, 103, 101, 110, 116] })) = cKy (kyD keD ke0 dv X.length (k + 1)) := by rw [← hkt]; exact cKy_set _ _ _
    (refine wks1 (an @cKy_len (an @hkl @hks)) ?_;(repeat clear hK K);repeat refine kq fun K hK=>?_)
    refine rnz ?_
    refine hK _ (k + 1) (by omega) (by omega) ?_
    simp only [sdT]
    exact lmz
   | false =>
    have hkf := hkf rfl
    refine cyz ?_
    (refine wk0 ?_;(repeat clear hK K);repeat refine kq fun K hK=>?_)
    refine rnz ?_
    refine hK _ (k + 1) (by omega) (by omega) ?_
    rw [hkf]
    simp only [sdT]
    exact lmz
  ·have d1 : decide ((k : Int) < (X.length : Int)) = false := by simpa using hlt
   have hke : k = X.length := by omega
   rw [hke] at d1
   rw [hke]
   have hko := kyD_ok (kd := keD) (ke := ke0) (by kernel_rfl) (by kernel_rfl) (by kernel_rfl) (by kernel_rfl) dv X.length
   have hkl := kyD_len keD ke0 dv X.length X.length
   have hpf := part_fc (kyD keD ke0 dv X.length X.length) (fun s => dv.getD s false) hko (by omega)
   obtain ⟨hnm, _⟩ := dv_nm (B := dv) X.length h1
   have hN0 := dvC_nrm dv h1
   have hc0 : cntC X.length (dvC dv X.length) = (nmG (fun s => dv.getD s false) X.length).2 := by rw [← hnm, cnt_nm]
   have hc1 : 1 ≤ (nmG (fun s => dv.getD s false) X.length).2 := by
    have := (nmG_ok (fun s => dv.getD s false) X.length).rng 0 (by omega)
    omega
   rw [hkl, hnm, ← hc0] at hpf
   rw [← hc0] at hc1
   clear hnm hc0
   generalize kyD keD ke0 dv X.length X.length = ky0 at *
   generalize hc00 : dvC dv X.length = c0 at *
   have hN0l := hN0.len
   (refine wk1 @d1 ?_;(repeat clear hK K);repeat refine kq fun K hK=>?_)
   refine cyz ?_
   (refine ekz ?_;repeat clear hK K)
   (refine wk0 ?_;(repeat clear hK K);repeat refine kq fun K hK=>?_)
   (refine lst_cons rfl ?_; intro K1 hK1; refine stp_callσ (ids := []) [1] (hpf) rfl rfl (by simp only [go_sem]) (by first | assumption | kernel_rfl) rfl rfl (by (simp only [List.map_append, List.append_nil, go_sem]) <;> rfl) (by (simp only [pkh, cKy_ren, go_sem]) <;> rfl) ?_ ?_)
   ·rintro _ _ ⟨rfl, rfl⟩; rfl
   rintro _ _ ⟨rfl, rfl⟩
   simp only [rInts]
   (simp only [aInts, aSets, cInts_up, cKy_up, List.append_nil, List.nil_append, List.length_map, go_sem]; refine hK1 _ ?_; clear hK1 K1)
   (refine wk0 ?_;(repeat clear hK K);repeat refine kq fun K hK=>?_)
   have hSb := satR_bd hv hn
   have hSl := hSb.1
   have hf0 : (if X.length ≤ (tInts c0).length then C.t 1 ((tInts c0).take X.length) else C.u) = C.t 1 (tInts c0) := by rw [if_pos (by rw [tInts_len]; omega), List.take_of_length_le (by rw [tInts_len]; omega)]
   (refine aw_le (le_frz (r := ⟨3, 1, true, cInts c0⟩) 2 (tInts c0) rfl (fz_c _) (show 0 < (1 : Nat) by omega)) ?_; simp only [ST.frz, A0.frz, AV.frz, C.frz, Nat.le_refl, List.set_cons_zero, List.set_cons_succ, go_sem, hf0])
   refine aw_loop (fun x : Nat × Nat × List Int × List Value => { tm := [(0, .a (.c (.p 0 0))), (3, .a (.c (.s 1 X.length))), (6, .a (.c (.t 1 (tInts x.2.2.1)))), (7, .i (cntC X.length x.2.2.1)), (8, .i x.2.1)], hp := [.r (sdT X D (Q.map Int.ofNat) dv), .r ⟨9, 1, true, cKy x.2.2.2⟩], n := 93, pin := 1 }) (fun x => x.2.2.1 = itS (satR X) c0 x.1 ∧ Nrm X.length x.2.2.1 ∧ x.2.2.2.length = X.length ∧ x.2.1 ≤ cntC X.length x.2.2.1 ∧ (x.2.1 = cntC X.length x.2.2.1 → nxS (satR X) x.2.2.1 = x.2.2.1)) (fun x => X.length + 1 - x.2.1) (0, 0, c0, ky0) ?_ ?_ ?_
   ·exact ⟨rfl, hN0, hkl, Nat.zero_le _, fun h => by simp only at h; omega⟩
   ·refine Le.trans (le_pick [0, 1] rfl rfl) ?_
    (try simp only [List.set_nil, List.take_nil, List.take_zero, List.map_append, go_sem])
    (try simp only [cKy_ren])
    simp only [sdT]
    exact lmz
   ·clear hk hlt d1 hke hpf hko
    rintro ⟨j, bf, nw, ky⟩ ⟨hit, hN, hkyl, hbf, hfx⟩ K hK
    simp only at hit hN hkyl hbf hfx
    simp only [sdT]
    have hcn := cnt_le X.length nw
    have hNl := hN.len
    by_cases hlt : bf < cntC X.length nw
    ·have d1 : decide ((bf : Int) < ((cntC X.length nw : Nat) : Int)) = true := by simpa using hlt
     have hnn := nx_nrm (satR X) nw
     have hnl := nx_lt (S := satR X) (by rw [hSl]; exact hN)
     rw [hSl] at hnn hnl
     have hcn2 := cnt_le X.length (nxS (satR X) nw)
     have hnc : cntC X.length (nxS (satR X) nw) = (nmG (ftS (satR X) nw) X.length).2 := by
      have := cnt_nm (ftS (satR X) nw) X.length
      unfold nxS; rw [hSl]; exact this
     have hnc1 : (nmG (ftS (satR X) nw) X.length).1 = nxS (satR X) nw := by unfold nxS; rw [hSl]
     (refine wk1 @d1 ?_;(repeat clear hK K);repeat refine kq fun K hK=>?_)
     refine cxz ?_
     (refine wk0 ?_;(repeat clear hK K);repeat refine kq fun K hK=>?_)
     (refine lst_cons rfl ?_; intro K1 hK1; refine stp_callσ (ids := []) [0] (arr_fc X D nw Q dv hv hn ht hr hD hQ hNl) rfl rfl (by simp only [go_sem]) (by first | assumption | kernel_rfl) rfl rfl (by (simp only [List.map_append, List.append_nil, go_sem]) <;> rfl) (by (simp only [pkh, sdT, go_sem]) <;> rfl) ?_ ?_)
     ·rintro _ _ ⟨O, _, rfl, rfl⟩; rfl
     rintro _ _ ⟨O, hP, rfl, rfl⟩
     simp only [sdT]
     (simp only [aInts, aSets, cRows_up, List.append_nil, List.nil_append, List.length_map, go_sem]; refine hK1 _ ?_; clear hK1 K1)
     have hOl := hP.len
     have hfo : (if X.length ≤ (tRows O).length then C.t 1 ((tRows O).take X.length) else C.u) = C.t 1 (tRows O) := by rw [if_pos (by rw [tRows_len]; omega), List.take_of_length_le (by rw [tRows_len]; omega)]
     (refine wk1 (an @tInts_len @hDl) ?_;(repeat clear hK K);repeat refine kq fun K hK=>?_)
     (refine aw_le (le_frz (r := ⟨64, 1, true, cRows O⟩) 2 (tRows O) rfl (fz_cr _) (show 0 < (1 : Nat) by omega)) ?_; simp only [ST.frz, A0.frz, AV.frz, C.frz, Nat.le_refl, List.set_cons_zero, List.set_cons_succ, go_sem, hfo])
     refine aw_le (le_pick [0, 1] rfl rfl) ?_
     (try simp only [List.set_nil, List.take_nil, List.take_zero, List.map_append, go_sem])
     (try simp only [cKy_ren])
     have hnkl := kyV_len O D nw X.length
     have hkyok := kyV_ok hv hD hQ hN hn hP
     have hkg := fun s (hs : s < X.length) => kyV_get (O := O) (D := D) (nw := nw) hs
     have hoz := hP.sz
     generalize hnk : kyV O D nw X.length = nk at *
     refine aw_loop (fun k : Nat => { tm := [(0, .a (.c (.p 0 0))), (3, .a (.c (.s 1 X.length))), (6, .a (.c (.t 1 (tInts nw)))), (8, .i (cntC X.length nw)), (9, .a (.c (.t 1 (tRows O)))), (52, .a (.c (.t 1 (tInts D)))), (53, .i X.length), (54, .i k)], hp := [.r (sdT X D (Q.map Int.ofNat) dv), .r ⟨9, 1, true, cKy (kyM nk ky k)⟩], n := 93, pin := 1 }) (fun k => k ≤ X.length) (fun k => X.length - k) 0 ?_ ?_ ?_
     ·omega
     ·simp only [kyM, List.take_zero, List.drop_zero, List.nil_append, sdT]
      exact lmz
     ·rintro k hk K hK
      simp only [sdT]
      by_cases hlk : k < X.length
      ·have d2 : decide ((k : Int) < (X.length : Int)) = true := by simpa using hlk
       obtain ⟨gD0, hfk, _⟩ := cpF_ok hv hD hlk
       have gD := tInts_get gD0
       have gW := tInts_get (show nw[k]? = some (nw.getD k 0) from by rw [List.getD_eq_getElem?_getD, List.getElem?_eq_getElem (by omega)]; rfl)
       have gO := tRows_get (show O[cpF D k]? = some (O.getD (cpF D k) []) from by rw [List.getD_eq_getElem?_getD, List.getElem?_eq_getElem (by omega)]; rfl)
       have hkk := hkg k hlk
       have hks := kyM_set (ky := ky) (by omega) hkk
       have hkml := kyM_len (nk := nk) (ky := ky) (by omega) (k := k) (by omega)
       have hrl := hoz (cpF D k)
       unfold kyN at hkk hks
       generalize nw.getD k 0 = x0 at *
       generalize O.getD (cpF D k) [] = row at *
       generalize cpF D k = fk at *
       (refine wk1 @d2 ?_;(repeat clear hK K);repeat refine kq fun K hK=>?_)
       refine cxz ?_
       (refine wk1 (an @tInts_len (an @hDl (an @gD (an @hNl (an @gW (an @tRows_len (an @hOl (an @gO (an @tArcs_len @half2))))))))) ?_;(repeat clear hK K);repeat refine kq fun K hK=>?_)
       refine aw_loop (fun m : Nat => { tm := [(0, .a (.c (.p 0 0))), (3, .a (.c (.s 1 X.length))), (6, .a (.c (.t 1 (tInts nw)))), (8, .i (cntC X.length nw)), (9, .a (.c (.t 1 (tRows O)))), (10, .i k), (12, .a (.c (.s 2 (x0 :: flP (row.take m)).length))), (52, .a (.c (.t 1 (tInts D)))), (53, .i X.length), (54, .i k), (67, .a (.c (.t 2 (tArcs row)))), (68, .i row.length), (69, .i m)], hp := [.r (sdT X D (Q.map Int.ofNat) dv), .r ⟨9, 1, true, cKy (kyM nk ky k)⟩, .r ⟨3, 1, true, cInts (x0 :: flP (row.take m))⟩], n := 93, pin := 1 }) (fun m => m ≤ row.length) (fun m => row.length - m) 0 ?_ ?_ ?_
       ·omega
       ·simp only [List.take_zero, flP, List.flatMap_nil, cInts, List.map_cons, List.map_nil, List.length_cons, List.length_nil, sdT]
        exact lmz
       ·rintro m hm K hK
        simp only [sdT]
        have hfl : (x0 :: flP (row.take m)).length ≤ 3000 := by rw [List.length_cons, flP_len, List.length_take]; omega
        by_cases hlm : m < row.length
        ·have d3 : decide ((m : Int) < (row.length : Int)) = true := by simpa using hlm
         have hat := tArcs_at hlm
         have hfs := flP_snoc (row.take m) row[m]
         rw [← List.take_succ_eq_append_getElem hlm] at hfs
         have hnx : x0 :: flP (row.take (m + 1)) = (x0 :: flP (row.take m)) ++ [row[m].1, row[m].2] := by rw [hfs]; rfl
         have hnl2 : (flP (row.take (m + 1))).length + 1 = (x0 :: flP (row.take m)).length + 2 := by rw [hfs]; simp
         generalize x0 :: flP (row.take m) = L at *
         have c2 := cI2 L row[m].1 row[m].2
         generalize row[m] = a at *
         obtain ⟨e, t⟩ := a
         simp only at hat c2 hnx
         (refine wk1 @d3 ?_;(repeat clear hK K);repeat refine kq fun K hK=>?_)
         refine cxz ?_
         (refine wks1 (an @hat (an @tArcs_len (an @half2 (an @cInts_len @c2)))) ?_;(repeat clear hK K);repeat refine kq fun K hK=>?_)
         refine rnz ?_
         refine hK _ (m + 1) (by omega) (by omega) ?_
         refine Le.trans (le_pick [0, 1, 5] rfl rfl) ?_
         (try simp only [List.set_nil, List.take_nil, List.take_zero, List.map_append, go_sem])
         (try simp only [cKy_ren, cInts_ren])
         rw [hnx]
         simp only [sdT, List.length_append, List.length_cons, List.length_nil, hnl2]
         exact lmz
        ·have d3 : decide ((m : Int) < (row.length : Int)) = false := by simpa using hlm
         have hmr : row.take m = row := List.take_of_length_le (by omega)
         rw [hmr] at hfl ⊢
         generalize x0 :: flP row = L at *
         (refine wk1 @d3 ?_;(repeat clear hK K);repeat refine kq fun K hK=>?_)
         refine cyz ?_
         (refine ekz ?_;repeat clear hK K)
         have hfo2 : (if L.length ≤ (tInts L).length then C.t 1 ((tInts L).take L.length) else C.u) = C.t 1 (tInts L) := by rw [if_pos (by rw [tInts_len]; exact Nat.le_refl _), List.take_of_length_le (by rw [tInts_len]; exact Nat.le_refl _)]
         (refine aw_le (le_frz (r := ⟨3, 1, true, cInts L⟩) 2 (tInts L) rfl (fz_c _) (show 0 < (1 : Nat) by omega)) ?_; simp only [ST.frz, A0.frz, AV.frz, C.frz, Nat.le_refl, List.set_cons_zero, List.set_cons_succ, go_sem, hfo2])
         have hks2 : (cKy (kyM nk ky k)).set k (C.v (keyS L)) = cKy (kyM nk ky (k + 1)) := by rw [← hks]; exact cKy_set _ _ _
         (refine wk0 ?_;(repeat clear hK K);repeat refine kq fun K hK=>?_)
         (refine ckz (key_fc L (by omega)) ?_; intro K1 hK1)
         rintro _ _ ⟨rfl, rfl⟩
         obtain ⟨sb, hsb⟩ : ∃ b, keyS L = Value.string b := ⟨_, rfl⟩
         rw [hsb] at hks2 ⊢
         (refine bkz ?_; clear hK1 K1)
         (refine wks1 (an @cKy_len (an @hkml (an @hnkl @hks2))) ?_;(repeat clear hK K);repeat refine kq fun K hK=>?_)
         refine rnz ?_
         refine hK _ (k + 1) (by omega) (by omega) ?_
         refine Le.trans (le_pick [0, 1] rfl rfl) ?_
         (try simp only [List.set_nil, List.take_nil, List.take_zero, List.map_append, go_sem])
         (try simp only [cKy_ren])
         simp only [sdT]
         exact lmz
      ·have d2 : decide ((k : Int) < (X.length : Int)) = false := by simpa using hlk
       have hke : kyM nk ky k = nk := by unfold kyM; rw [List.take_of_length_le (by omega), List.drop_eq_nil_of_le (by omega), List.append_nil]
       have hpf := part_fc nk (ftS (satR X) nw) hkyok (by omega)
       rw [hnkl, hnc1, ← hnc] at hpf
       rw [hke]
       (refine wk1 @d2 ?_;(repeat clear hK K);repeat refine kq fun K hK=>?_)
       refine cyz ?_
       (refine ekz ?_;repeat clear hK K)
       (refine wk0 ?_;(repeat clear hK K);repeat refine kq fun K hK=>?_)
       (refine lst_cons rfl ?_; intro K1 hK1; refine stp_callσ (ids := []) [1] (hpf) rfl rfl (by simp only [go_sem]) (by first | assumption | kernel_rfl) rfl rfl (by (simp only [List.map_append, List.append_nil, go_sem]) <;> rfl) (by (simp only [pkh, cKy_ren, go_sem]) <;> rfl) ?_ ?_)
       ·rintro _ _ ⟨rfl, rfl⟩; rfl
       rintro _ _ ⟨rfl, rfl⟩
       simp only [rInts]
       (simp only [aInts, aSets, cInts_up, cKy_up, List.append_nil, List.nil_append, List.length_map, go_sem]; refine hK1 _ ?_; clear hK1 K1)
       (refine wk0 ?_;(repeat clear hK K);repeat refine kq fun K hK=>?_)
       refine rnz ?_
       refine hK _ (j + 1, cntC X.length nw, nxS (satR X) nw, nk) ⟨?_, hnn, hnkl, ?_, fun h => ?_⟩ (by simp only; omega) ?_
       ·simp only
        rw [show itS (satR X) c0 (j + 1) = nxS (satR X) (itS (satR X) c0 j) from rfl, ← hit]
       ·simp only
        by_cases hne : nxS (satR X) nw = nw
        ·rw [hne]; exact Nat.le_refl _
        ·exact Nat.le_of_lt (hnl hne)
       ·simp only at h ⊢
        by_cases hne : nxS (satR X) nw = nw
        ·rw [hne, hne]
        ·have := hnl hne; omega
       ·simp only
        have hw2l := hnn.len
        generalize hw2 : nxS (satR X) nw = w2 at *
        have hf0 : (if X.length ≤ (tInts w2).length then C.t 1 ((tInts w2).take X.length) else C.u) = C.t 1 (tInts w2) := by rw [if_pos (by rw [tInts_len]; omega), List.take_of_length_le (by rw [tInts_len]; omega)]
        (refine le_then (le_frz (r := ⟨3, 1, true, cInts w2⟩) 2 (tInts w2) rfl (fz_c _) (show 0 < (1 : Nat) by omega)) ?_; simp only [ST.frz, A0.frz, AV.frz, C.frz, Nat.le_refl, List.set_cons_zero, List.set_cons_succ, go_sem, hf0])
        refine Le.trans (le_pick [0, 1] rfl rfl) ?_
        (try simp only [List.set_nil, List.take_nil, List.take_zero, List.map_append, go_sem])
        (try simp only [cKy_ren])
        simp only [sdT]
        exact lmz
    ·have d1 : decide ((bf : Int) < ((cntC X.length nw : Nat) : Int)) = false := by simpa using hlt
     have hfx2 := hfx (by omega)
     (refine wk1 @d1 ?_;(repeat clear hK K);repeat refine kq fun K hK=>?_)
     refine cyz ?_
     (refine ekz ?_;repeat clear hK K)
     (refine wk0 ?_;(repeat clear hK K);repeat refine kq fun K hK=>?_)
     ((try refine aw_ret ?_); (try simp only [ThenA, InBl]); refine ret_le (le_pick [0] rfl rfl) ?_; (try simp only [List.set_nil, List.take_nil, List.take_zero, List.map_append, go_sem]); ((try refine aw_ret ?_); (try refine lst_nil ?_); (try simp only [ThenA, InBl]); refine ret_mk (by first | exact .inl rfl | exact .inr rfl) rfl ?_; simp only [rtn, resA, resL, resV, Try.results16, go_sem, true_and, and_true, aInts]))
     exact ⟨nw, ⟨dv, hB, j, by rw [hc00]; exact hit, hfx2⟩, hN, rfl⟩
theorem le_nilO {s : ST} (i j e k : Nat) {r : Row} (hi : s.hp[i]? = some (.r r)) (hj : r.cells[j]? = some (.v (.slice none 0 0))) (hk : 0 < k) : Le s { s with tm := nbTm [i] s.tm, hp := s.hp.set i (.r { r with cells := r.cells.set j (.o (k, e) []) }) ++ [.d] } := by
 have hil := (List.getElem?_eq_some_iff.1 hi).1
 have hjl := (List.getElem?_eq_some_iff.1 hj).1
 have hne : i ≠ s.hp.length := by omega
 have a := le_new (s := s) e k
 have b := le_cell (s := { s with hp := s.hp ++ [Ob.r ⟨e, k, true, []⟩] }) i j s.hp.length (r := r) (e0 := e) (k0 := k) hne (by simp only; rw [List.getElem?_append_left hil]; exact hi) hj (by simp)
 have c := le_sink (s := { s with hp := (s.hp ++ [Ob.r ⟨e, k, true, []⟩]).set i (Ob.r { r with cells := r.cells.set j (.s s.hp.length 0) }) }) i j s.hp.length 0 (r := ⟨e, k, true, []⟩) (ri := { r with cells := r.cells.set j (.s s.hp.length 0) }) (ts := []) hne (by simp only; rw [List.getElem?_set_self (by simp; omega)]) (by simp only; rw [List.getElem?_set_self hjl]) (by simp only; rw [List.getElem?_set_ne hne]; simp) rfl hk (by simp) trivial
 have h := (a.trans b).trans c
 have e1 : ((((s.hp ++ [Ob.r ⟨e, k, true, []⟩]).set i (.r { r with cells := r.cells.set j (.s s.hp.length 0) })).set i (.r { r with cells := (r.cells.set j (.s s.hp.length 0)).set j (.o (k, e) []) })).set s.hp.length .d) = s.hp.set i (.r { r with cells := r.cells.set j (.o (k, e) []) }) ++ [.d] := by
  rw [List.set_set, List.set_set, List.set_append_left _ _ hil, List.set_append_right _ _ (by simp)]
  simp
 simp only at h
 rw [e1] at h
 exact h
set_option maxHeartbeats 2000000 in
theorem dcl_fc (R : List (List Ar)) (hv : valB R = true) (hn : R.length ≤ 100) (ht : totA R ≤ 1000) (hr : ∀ r ∈ R, r.length ≤ 1000000) : FC Try.prog 8 [aLts R] [] (fun r o => ∃ c, DlC R c ∧ Nrm R.length c ∧ o = [] ∧ r = aInts c) := by
 refine fc_intro Try.func8 rfl (by rw [Try.ntmps8]; simp) ?_
 rw [Try.ntmps8]
 simp only [enum, aLts]
 have hlo : looB R = true := decide_eq_true (of_decide_eq_true hv).1
 (refine wk0 ?_;(repeat clear hK K);repeat refine kq fun K hK=>?_)
 (refine ckz (valid_fc R (by omega) (fun r h => by have := hr r h; omega)) ?_; intro K1 hK1)
 rintro _ _ ⟨rfl, rfl⟩
 (refine bkz ?_; clear hK1 K1)
 rw [hv]
 (refine wk1 @Bool.not_true ?_;(repeat clear hK K);repeat refine kq fun K hK=>?_)
 refine cyz ?_
 (refine wk0 ?_;(repeat clear hK K);repeat refine kq fun K hK=>?_)
 refine lst_le (le_nilO 1 0 38 1 rfl rfl (by omega)) ?_
 simp only [go_sem]
 refine lst_le (le_nilO 1 1 3 1 rfl rfl (by omega)) ?_
 simp only [go_sem]
 refine lst_le (le_nilO 1 2 3 1 rfl rfl (by omega)) ?_
 simp only [go_sem]
 refine lst_le (le_nilO 1 3 4 1 rfl rfl (by omega)) ?_
 simp only [go_sem]
 have hadd := add_fc [] R [] [] [] (.inl rfl) hv (by have := (of_decide_eq_true hlo).2.1; simpa using this) (by have := (of_decide_eq_true hlo).2.2.1; simpa [totA] using this) hr (by simp) ⟨rfl, fun v h => by simp at h⟩ ⟨rfl, fun v h => by simp at h⟩
 rw [bthR_nil] at hadd
 (refine lst_cons rfl ?_; intro K1 hK1; refine stp_callσ (ids := []) [1] (hadd) rfl rfl (by simp only [go_sem]) (by first | assumption | kernel_rfl) rfl rfl (by (simp only [List.map_append, List.append_nil, go_sem]) <;> rfl) (by (simp only [pkh, sdR, tRows, tInts, tBs, go_sem]) <;> rfl) ?_ ?_)
 ·rintro _ _ ⟨rfl, D, Q, B, _, _, _, rfl⟩; rfl
 rintro _ _ ⟨rfl, D, Q, B, hD, hB, hQ, rfl⟩
 simp only [sdR]
 (refine bkz ?_; clear hK1 K1)
 (refine wk0 ?_;(repeat clear hK K);repeat refine kq fun K hK=>?_)
 refine lst_le (le_ot 1 rfl) ?_
 simp only [otC, go_sem]
 (refine lst_cons rfl ?_; intro K1 hK1; refine stp_callσ (ids := []) [1] (cls_fc R D Q B hv hn ht hr hD hQ hB) rfl rfl (by simp only [go_sem]) (by first | assumption | kernel_rfl) rfl rfl (by (simp only [List.map_append, List.append_nil, go_sem]) <;> rfl) (by (simp only [pkh, sdT, go_sem]) <;> rfl) ?_ ?_)
 ·rintro _ _ ⟨c, _, _, rfl, rfl⟩; rfl
 rintro _ _ ⟨c, hc, hN, rfl, rfl⟩
 simp only [sdT]
 (refine bkz ?_; clear hK1 K1)
 (refine wk0 ?_;(repeat clear hK K);repeat refine kq fun K hK=>?_)
 ((try refine aw_ret ?_); (try simp only [ThenA, InBl]); refine ret_le (le_pick [] rfl rfl) ?_; (try simp only [List.set_nil, List.take_nil, List.take_zero, List.map_append, go_sem]); ((try refine aw_ret ?_); (try refine lst_nil ?_); (try simp only [ThenA, InBl]); refine ret_mk (by first | exact .inl rfl | exact .inr rfl) rfl ?_; simp only [rtn, resA, resL, resV, Try.results8, go_sem, true_and, and_true, aInts]))
 exact ⟨c, hc, hN, rfl⟩
theorem bth_val {A R : List (List Ar)} (hA : valB A = true) (hv : valB R = true) (hn : A.length + R.length ≤ 100) (ht : totA A + totA R ≤ 1000) : valB (bthR A R) = true := valB_both (.inr hA) hv (by show A.length + R.length ≤ 16384; omega) (by show totA A + totA R ≤ 262144; omega)
theorem getD_some {c : List Int} {i : Nat} (h : i < c.length) : (tInts c)[i]? = some (.v (.int .i64 (c.getD i 0))) := tInts_get (by rw [List.getD_eq_getElem?_getD, List.getElem?_eq_getElem h]; rfl)
noncomputable def EqD (A R : List (List Ar)) : Bool := @decide (valB A = true ∧ valB R = true ∧ ∃ c, DlC (bthR A R) c ∧ c.getD 0 0 = c.getD A.length 0) (Classical.propDecidable _)
theorem EqD.of {A R : List (List Ar)} (hA : valB A = true) (hv : valB R = true) {c : List Int} (hc : DlC (bthR A R) c) : decide (c.getD 0 0 = c.getD A.length 0) = EqD A R := by
 by_cases h : c.getD 0 0 = c.getD A.length 0
 ·rw [decide_eq_true h]
  exact (@decide_eq_true _ (Classical.propDecidable _) ⟨hA, hv, c, hc, h⟩).symm
 ·rw [decide_eq_false h]
  refine (@decide_eq_false _ (Classical.propDecidable _) ?_).symm
  rintro ⟨_, _, d, hd, q⟩
  obtain rfl := hc.uniq hd
  exact h q
set_option maxHeartbeats 4000000 in
theorem deq_fc (A R : List (List Ar)) (hA : valB A = true) (hv : valB R = true) (hn : A.length + R.length ≤ 100) (ht : totA A + totA R ≤ 1000) (hrA : ∀ r ∈ A, r.length ≤ 1000000) (hr : ∀ r ∈ R, r.length ≤ 1000000) : FC Try.prog 7 [aLts A, aLts R] [] (fun r o => o = [] ∧ r = .b (EqD A R)) := by
 refine fc_intro Try.func7 rfl (by rw [Try.ntmps7]; simp) ?_
 rw [Try.ntmps7]
 simp only [enum, aLts]
 have hlA : looB A = true := decide_eq_true (of_decide_eq_true hA).1
 have hz := bth_val hA hv hn ht
 have hzn : (bthR A R).length ≤ 100 := by rw [bthR_len]; exact hn
 have hzt : totA (bthR A R) ≤ 1000 := by rw [totA_bth]; exact ht
 have hzr := bth_row hrA hr
 have hA1 : 1 ≤ A.length := (of_decide_eq_true hlA).1
 have hR1 : 1 ≤ R.length := (of_decide_eq_true (decide_eq_true (of_decide_eq_true hv).1 : looB R = true)).1
 (refine wk0 ?_;(repeat clear hK K);repeat refine kq fun K hK=>?_)
 (refine ckz (valid_fc A (by omega) (fun r h => by have := hrA r h; omega)) ?_; intro K1 hK1)
 rintro _ _ ⟨rfl, rfl⟩
 (refine bkz ?_; clear hK1 K1)
 rw [hA]
 (refine wk1 @Bool.not_true ?_;(repeat clear hK K);repeat refine kq fun K hK=>?_)
 (refine lst_goU rfl rfl (by simp only [go_sem] <;> rfl) ?_; intro K1 hK1; refine (stp_call0 (ids := []) (valid_fc R (by omega) (fun r h => by have := hr r h; omega)) rfl rfl (by simp only [go_sem]) (by kernel_rfl) (by (simp only [List.append_nil, go_sem]) <;> rfl) ?_).stp)
 rintro _ _ ⟨rfl, rfl⟩
 (refine bkz ?_; clear hK1 K1)
 rw [hv]
 (refine wk1 @Bool.not_true ?_;(repeat clear hK K);repeat refine kq fun K hK=>?_)
 refine cyz ?_
 (refine wk0 ?_;(repeat clear hK K);repeat refine kq fun K hK=>?_)
 refine lst_le (le_nilO 2 0 38 1 rfl rfl (by omega)) ?_
 simp only [go_sem]
 refine lst_le (le_nilO 2 1 3 1 rfl rfl (by omega)) ?_
 simp only [go_sem]
 refine lst_le (le_nilO 2 2 3 1 rfl rfl (by omega)) ?_
 simp only [go_sem]
 refine lst_le (le_nilO 2 3 4 1 rfl rfl (by omega)) ?_
 simp only [go_sem]
 have hadd := add_fc [] A [] [] [] (.inl rfl) hA (by have := (of_decide_eq_true hlA).2.1; simpa using this) (by have := (of_decide_eq_true hlA).2.2.1; simpa [totA] using this) hrA (by simp) ⟨rfl, fun v h => by simp at h⟩ ⟨rfl, fun v h => by simp at h⟩
 rw [bthR_nil] at hadd
 (refine lst_cons rfl ?_; intro K1 hK1; refine stp_callσ (ids := []) [2] (hadd) rfl rfl (by simp only [go_sem]) (by first | assumption | kernel_rfl) rfl rfl (by (simp only [List.map_append, List.append_nil, go_sem]) <;> rfl) (by (simp only [pkh, sdR, tRows, tInts, tBs, go_sem]) <;> rfl) ?_ ?_)
 ·rintro _ _ ⟨rfl, D, Q, B, _, _, _, rfl⟩; rfl
 rintro _ _ ⟨rfl, D1, Q1, B1, hD1, hB1, _, rfl⟩
 simp only [sdR]
 (refine bkz ?_; clear hK1 K1)
 (refine wk0 ?_;(repeat clear hK K);repeat refine kq fun K hK=>?_)
 (refine lst_cons rfl ?_; intro K1 hK1; refine stp_callσ (ids := []) [2] (add_fc A R D1 (Q1.map Int.ofNat) B1 (.inr hA) hv (by show A.length + R.length ≤ 16384; omega) (by show totA A + totA R ≤ 262144; omega) hr hrA hD1 hB1) rfl rfl (by simp only [go_sem]) (by first | assumption | kernel_rfl) rfl rfl (by (simp only [List.map_append, List.append_nil, go_sem]) <;> rfl) (by (simp only [pkh, sdR, go_sem]) <;> rfl) ?_ ?_)
 ·rintro _ _ ⟨rfl, D, Q, B, _, _, _, rfl⟩; rfl
 rintro _ _ ⟨rfl, D, Q, B, hD, hB, hQ, rfl⟩
 simp only [sdR]
 (refine bkz ?_; clear hK1 K1)
 (refine wk0 ?_;(repeat clear hK K);repeat refine kq fun K hK=>?_)
 refine lst_le (le_ot 2 rfl) ?_
 simp only [otC, go_sem]
 (refine lst_cons rfl ?_; intro K1 hK1; refine stp_callσ (ids := []) [2] (cls_fc (bthR A R) D Q B hz hzn hzt hzr hD hQ hB) rfl rfl (by simp only [go_sem]) (by first | assumption | kernel_rfl) rfl rfl (by (simp only [List.map_append, List.append_nil, go_sem]) <;> rfl) (by (simp only [pkh, sdT, go_sem]) <;> rfl) ?_ ?_)
 ·rintro _ _ ⟨c, _, _, rfl, rfl⟩; rfl
 rintro _ _ ⟨c, hc, hN, rfl, rfl⟩
 have hcl : c.length = A.length + R.length := by rw [hN.len, bthR_len]
 simp only [sdT]
 (refine bkz ?_; clear hK1 K1)
 (refine wk0 ?_;(repeat clear hK K);repeat refine kq fun K hK=>?_)
 (refine aw_regionU 10 [(0, 0), (1, 0), (2, 1), (3, 0), (4, 0), (5, 1), (6, 0), (7, 0), (8, 1), (9, 0), (10, 2)] (by kernel_rfl) (by kernel_rfl) (by intro c st h; simp [ThenA, InBl, Ret] at h) ?_)
 (refine uk1 (an @Int.toNat_zero (an @tRows_len (an @tInts_len (an (getD_some (c := c) (i := 0) (by omega)) (getD_some (c := c) (i := A.length) (by omega)))))) ?_; repeat clear hK K)
 have he : (c.getD 0 0 == c.getD A.length 0) = EqD A R := EqD.of hA hv hc
 simp only [he]
 exact rpc0 [] Try.results7
theorem itS_nx (S : List (List Ar)) (c : List Int) : ∀ k, itS S (nxS S c) k = itS S c (k + 1)
 | 0 => rfl
 | k + 1 => by rw [itS, itS_nx S c k]; rfl
theorem fx_ex (S : List (List Ar)) : ∀ (m : Nat) (c : List Int), Nrm S.length c → S.length ≤ cntC S.length c + m → ∃ k, nxS S (itS S c k) = itS S c k := by
 intro m
 induction m with
 | zero =>
  intro c hN hm
  refine ⟨0, ?_⟩
  by_cases e : nxS S c = c
  ·exact e
  ·have h1 := nx_lt hN e
   have h2 := cnt_le S.length (nxS S c)
   omega
 | succ m ih =>
  intro c hN hm
  by_cases e : nxS S c = c
  ·exact ⟨0, e⟩
  ·have h1 := nx_lt hN e
   obtain ⟨k, hk⟩ := ih (nxS S c) (nx_nrm S c) (by omega)
   rw [itS_nx] at hk
   exact ⟨k + 1, hk⟩
theorem DlC.ex {R : List (List Ar)} (hv : valB R = true) (hn : R.length ≤ 100) : ∃ c, DlC R c := by
 have hl := (satR_bd hv hn).1
 have h1 : 1 ≤ R.length := (of_decide_eq_true hv).1.1
 obtain ⟨B, hB⟩ : ∃ B, DvL R B := by
  refine ⟨(List.range R.length).map fun s => @decide (Dv R s) (Classical.propDecidable _), by simp, fun s hs => ?_⟩
  rw [List.getD_eq_getElem?_getD, List.getElem?_map, List.getElem?_range hs]
  exact @decide_eq_true_iff _ (Classical.propDecidable _)
 obtain ⟨k, hk⟩ := fx_ex (satR R) R.length (dvC B R.length) (by rw [hl]; exact dvC_nrm _ h1) (by omega)
 exact ⟨_, B, hB, k, rfl, hk⟩
theorem EqD.yes {A R : List (List Ar)} (hA : valB A = true) (hv : valB R = true) (hn : A.length + R.length ≤ 100) (ht : totA A + totA R ≤ 1000) (h : ∀ d, DlC (bthR A R) d → d.getD 0 0 = d.getD A.length 0) : EqD A R = true := by
 obtain ⟨d, hd⟩ := DlC.ex (bth_val hA hv hn ht) (by rw [bthR_len]; exact hn)
 exact @decide_eq_true _ (Classical.propDecidable _) ⟨hA, hv, d, hd, h d hd⟩
end Go.Proofs.Ytahnebicgbjonaa
