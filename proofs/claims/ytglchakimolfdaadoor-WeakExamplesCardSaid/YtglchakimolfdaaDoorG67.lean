/- graph.looping, distances, Divergent. -/
import Derived.Test.YtglchakimolfdaaDoorZk
import Derived.Test.YtglchakimolfdaaDoorG45
import Derived.Test.YtglchakimolfdaaDoorG42
import Derived.Test.YtglchakimolfdaaDoorMG
namespace Go.Proofs.YtglchakimolfdaaDoor
set_option linter.unusedVariables false
set_option linter.unusedSimpArgs false
open Go.RowKit
set_option maxRecDepth 100000
attribute [local go_sem] List.set_cons_zero List.set_cons_succ List.map_cons List.map_nil List.take_succ_cons List.take_zero List.drop_zero List.drop_succ_cons C.pl C.one List.all_cons List.all_nil Bool.and_true Nat.mul_one Int.toNat_natCast

def tBs (B : List Bool) : List Tr := B.map fun b => .v (.bool b)
theorem tBs_len (B : List Bool) : (tBs B).length = B.length := by simp [tBs]
theorem tBs_get {B : List Bool} {i : Nat} {b : Bool} (h : B[i]? = some b) : (tBs B)[i]? = some (.v (.bool b)) := by simp [tBs, h]
theorem fz_bs (B : List Bool) : Fz (cBs B) (tBs B) := by unfold cBs tBs; exact Fz.map fun x _ => .inl rfl
theorem cSetsO_ot2 (L : List (List Int)) : (cSetsO L).map otC = cSets L := by simp [cSetsO, cSets, otC, Function.comp_def]
theorem cSetsO_get {L : List (List Int)} {i : Nat} {x : List Int} (h : L[i]? = some x) : (cSetsO L)[i]? = some (.o (1, 3) (tInts x)) := by simp [cSetsO, h]
theorem fz_st (L : List (List Int)) : Fz (cSets L) (tSets L) := Fz.map fun x _ => .inl rfl
theorem set_two3 (L : List C) (s : Nat) (x y : C) : (L.set s x).set s y = L.set s y := by simp
set_option maxHeartbeats 2000000 in
theorem loop_fc (R : List (List Ar)) (D : List Int) (hlo : looB R = true) (hD : D.length = R.length) (hn : R.length ≤ 1000000) (hr : ∀ r ∈ R, r.length ≤ 1000000) : FC Tryd.prog 38 [aLts R, aInts D] [] (fun r o => r = .a (.c (.s 0 R.length)) ∧ o = [.r ⟨4, 1, true, cBs (lpL R D R.length)⟩]) := by
 refine fc_intro Tryd.func38 rfl (by rw [Tryd.ntmps38]; simp) ?_
 rw [Tryd.ntmps38]
 simp only [enum, aLts, aInts]
 (refine wk1 @tRows_len ?_;(repeat clear hK K);repeat refine kq fun K hK=>?_)
 have e0 : List.replicate R.length (C.v (.bool false)) = cBs (lpL R D 0 ++ List.replicate (R.length - 0) false) := by simp [cBs, lpL]
 rw [e0]
 refine aw_loop (fun k : Nat => { tm := [(1, .a (.c (.t 1 (tInts D)))), (2, .a (.c (.p 0 0))), (5, .a (.c (.s 1 R.length))), (15, .i R.length), (16, .i k)], hp := [.r ⟨27, 1, false, [.t 1 (tRows R)]⟩, .r ⟨4, 1, true, cBs (lpL R D k ++ List.replicate (R.length - k) false)⟩], n := 43, pin := 0 }) (fun k => k ≤ R.length) (fun k => R.length - k) 0 ?_ ?_ ?_
 ·omega
 ·exact lmz
 ·rintro k hk K hK
  by_cases hlt : k < R.length
  ·have d1 : decide ((k : Int) < (R.length : Int)) = true := by simpa using hlt
   have hgd : R.getD k [] = R[k] := by rw [List.getD_eq_getElem?_getD, List.getElem?_eq_getElem hlt]; rfl
   have htl := tau_lt hlo (k := k)
   have hac := arcsT_fc R k true hlt (by omega) (by have := hr _ (List.getElem_mem hlt); omega)
   have hll := tauOf_len true R[k]
   have hrl := hr _ (List.getElem_mem hlt)
   have hfin : (lpL R D k ++ List.replicate (R.length - k) false).set k (lp1 D k (tauOf true R[k])) = lpL R D (k + 1) ++ List.replicate (R.length - (k + 1)) false := by
    obtain ⟨m, hm⟩ : ∃ m, R.length - k = m + 1 := ⟨R.length - k - 1, by omega⟩
    have hm2 : R.length - (k + 1) = m := by omega
    have hl := lpL_len R D k
    rw [hm, hm2, List.replicate_succ, List.set_append_right _ _ (by omega), hl, Nat.sub_self, List.set_cons_zero]
    simp [lpL, List.range_succ, List.getD_eq_getElem?_getD, hlt]
   rw [hgd] at htl
   have hbl : (lpL R D k ++ List.replicate (R.length - k) false).length = R.length := by simp [lpL_len]; omega
   have hini : (lpL R D k ++ List.replicate (R.length - k) false).set k false = lpL R D k ++ List.replicate (R.length - k) false := by
    obtain ⟨m, hm⟩ : ∃ m, R.length - k = m + 1 := ⟨R.length - k - 1, by omega⟩
    rw [hm, List.replicate_succ, List.set_append_right _ _ (by rw [lpL_len]; omega), lpL_len, Nat.sub_self, List.set_cons_zero]
   generalize lpL R D k ++ List.replicate (R.length - k) false = B at *
   generalize tauOf true R[k] = row at *
   (refine wk1 @d1 ?_;(repeat clear hK K);repeat refine kq fun K hK=>?_)
   refine cxz ?_
   (refine wk0 ?_;(repeat clear hK K);repeat refine kq fun K hK=>?_)
   (refine ckz hac ?_; intro K1 hK1)
   rintro _ _ ⟨rfl, rfl⟩
   (refine bkz ?_; clear hK1 K1)
   (refine wk1 (an @tArcs_len @half2) ?_;(repeat clear hK K);repeat refine kq fun K hK=>?_)
   refine aw_loop (fun j : Nat => { tm := [(1, .a (.c (.t 1 (tInts D)))), (2, .a (.c (.p 0 0))), (5, .a (.c (.s 1 R.length))), (6, .i k), (15, .i R.length), (16, .i k), (21, .a (.c (.t 2 (tArcs row)))), (22, .i row.length), (23, .i j)], hp := [.r ⟨27, 1, false, [.t 1 (tRows R)]⟩, .r ⟨4, 1, true, cBs (B.set k (lp1 D k (row.take j)))⟩], n := 43, pin := 0 }) (fun j => j ≤ row.length) (fun j => row.length - j) 0 ?_ ?_ ?_
   ·omega
   ·have e1 : lp1 D k [] = false := rfl
    rw [List.take_zero, e1, hini]
    exact lmz
   ·rintro j hj K hK
    by_cases hlt2 : j < row.length
    ·have d2 : decide ((j : Int) < (row.length : Int)) = true := by simpa using hlt2
     have hat := tArcs_at hlt2
     have htj := htl _ (List.getElem_mem hlt2)
     have hsn := lp1_snoc D k (row.take j) row[j]
     rw [← List.take_succ_eq_append_getElem hlt2] at hsn
     generalize row[j] = a at *
     obtain ⟨e, t⟩ := a
     simp only at hat htj hsn
     obtain ⟨tn, rfl⟩ : ∃ tn : Nat, t = (tn : Int) := ⟨t.toNat, by omega⟩
     have htn : tn < D.length := by omega
     rw [Int.toNat_natCast, List.getD_eq_getElem?_getD, List.getD_eq_getElem?_getD, List.getElem?_eq_getElem htn, List.getElem?_eq_getElem (show k < D.length by omega), Option.getD_some, Option.getD_some] at hsn
     have gt := tInts_get (List.getElem?_eq_getElem htn)
     have gk := tInts_get (List.getElem?_eq_getElem (show k < D.length by omega))
     by_cases he : D[tn] = D[k]
     ·have d3 : (D[tn] == D[k]) = true := by simpa using he
      rw [decide_eq_true he, Bool.or_true] at hsn
      (refine wk1 @d2 ?_;(repeat clear hK K);repeat refine kq fun K hK=>?_)
      refine cxz ?_
      (refine wks1 (an @hat (an @tArcs_len @half2)) ?_;(repeat clear hK K);repeat refine kq fun K hK=>?_)
      (refine aw_regionU 9 [(0, 0), (1, 0), (2, 1), (3, 0), (4, 1), (5, 0), (6, 0), (7, 0), (8, 1), (9, 2)] (by kernel_rfl) (by kernel_rfl) (by intro c st h; simp [ThenA, InBl, Ret] at h) ?_)
      (refine uk1 (an @gt (an @gk (an @tInts_len (an @hD @d3)))) ?_; repeat clear hK K)
      refine cxz ?_
      (refine wks1 (an @cBs_len (an @List.length_set.{0} (an @hbl (an @cBs_set @List.set_set.{0})))) ?_;(repeat clear hK K);repeat refine kq fun K hK=>?_)
      refine rnz ?_
      refine hK _ (j + 1) (by omega) (by omega) ?_
      refine Le.trans (le_pick [0, 1] rfl rfl) ?_
      (try simp only [List.set_nil, List.take_nil, List.take_zero, List.map_append, go_sem])
      (try simp only [cBs_ren])
      rw [hsn]
      exact lmz
     ·have d3 : (D[tn] == D[k]) = false := by simpa using he
      rw [decide_eq_false he, Bool.or_false] at hsn
      (refine wk1 @d2 ?_;(repeat clear hK K);repeat refine kq fun K hK=>?_)
      refine cxz ?_
      (refine wks1 (an @hat (an @tArcs_len @half2)) ?_;(repeat clear hK K);repeat refine kq fun K hK=>?_)
      (refine aw_regionU 9 [(0, 0), (1, 0), (2, 1), (3, 0), (4, 1), (5, 0), (6, 0), (7, 0), (8, 1), (9, 2)] (by kernel_rfl) (by kernel_rfl) (by intro c st h; simp [ThenA, InBl, Ret] at h) ?_)
      (refine uk1 (an @gt (an @gk (an @tInts_len (an @hD @d3)))) ?_; repeat clear hK K)
      refine cyz ?_
      (refine wk0 ?_;(repeat clear hK K);repeat refine kq fun K hK=>?_)
      refine rnz ?_
      refine hK _ (j + 1) (by omega) (by omega) ?_
      refine Le.trans (le_pick [0, 1] rfl rfl) ?_
      (try simp only [List.set_nil, List.take_nil, List.take_zero, List.map_append, go_sem])
      (try simp only [cBs_ren])
      rw [hsn]
      exact lmz
    ·have d2 : decide ((j : Int) < (row.length : Int)) = false := by simpa using hlt2
     have hje : row.take j = row := List.take_of_length_le (by omega)
     rw [hje, hfin]
     (refine wk1 @d2 ?_;(repeat clear hK K);repeat refine kq fun K hK=>?_)
     refine cyz ?_
     (refine ekz ?_;repeat clear hK K)
     (refine wk0 ?_;(repeat clear hK K);repeat refine kq fun K hK=>?_)
     refine rnz ?_
     refine hK _ (k + 1) (by omega) (by omega) ?_
     exact lmz
  ·have d1 : decide ((k : Int) < (R.length : Int)) = false := by simpa using hlt
   have hke : k = R.length := by omega
   rw [hke] at d1
   rw [hke, Nat.sub_self, List.replicate_zero, List.append_nil]
   (refine wk1 @d1 ?_;(repeat clear hK K);repeat refine kq fun K hK=>?_)
   refine cyz ?_
   (refine ekz ?_;repeat clear hK K)
   (refine wk0 ?_;(repeat clear hK K);repeat refine kq fun K hK=>?_)
   exact rpc1 [1] Tryd.results38 @cBs_ren
theorem loopT_fc (R : List (List Ar)) (D : List Int) (hlo : looB R = true) (hD : D.length = R.length) (hn : R.length ≤ 1000000) (hr : ∀ r ∈ R, r.length ≤ 1000000) : FC Tryd.prog 38 [aLts R, aInts D] [] (fun r o => o = [] ∧ r = .a (.c (.t 1 (tBs (lpL R D R.length))))) :=
 (loop_fc R D hlo hD hn hr).frz (fz_bs _) (by omega) (by rw [tBs_len, lpL_len]; omega)
set_option maxHeartbeats 4000000 in
theorem dist_fc (R : List (List Ar)) (G : List Bool) (hlo : looB R = true) (hG : G.length = R.length) (hn : R.length ≤ 1000000) (hr : ∀ r ∈ R, r.length ≤ 1000000) : FC Tryd.prog 37 [aLts R, .a (.c (.t 1 (tBs G)))] [] (fun r o => ∃ O : List Int, (O.length = R.length ∧ ∀ s, s < R.length → (0 ≤ fnL O (-1) s ↔ ∃ g, g < R.length ∧ G.getD g false = true ∧ Rc (Adj true R) s g)) ∧ r = .a (.c (.s 0 R.length)) ∧ o = [rInts O]) := by
 refine fc_intro Tryd.func37 rfl (by rw [Tryd.ntmps37]; simp) ?_
 rw [Tryd.ntmps37]
 simp only [enum, aLts]
 have h1 : 1 ≤ R.length := (of_decide_eq_true hlo).1
 have htA : totA R ≤ 262144 := (of_decide_eq_true hlo).2.2.1
 have hE := adj_lt true hlo
 (refine wk1 @tRows_len ?_;(repeat clear hK K);repeat refine kq fun K hK=>?_)
 have e0 : List.replicate R.length (C.o (1, 3) []) = cSetsO (bfL R 0) := by simp [cSetsO, bfL, tInts]
 rw [e0]
 refine aw_loop (fun k : Nat => { tm := [(1, .a (.c (.t 1 (tBs G)))), (2, .a (.c (.p 0 0))), (5, .a (.c (.s 1 R.length))), (22, .i R.length), (23, .i k)], hp := [.r ⟨27, 1, false, [.t 1 (tRows R)]⟩, .r ⟨30, 1, true, cSetsO (bfL R k)⟩], n := 109, pin := 0 }) (fun k => k ≤ R.length) (fun k => R.length - k) 0 ?_ ?_ ?_
 ·omega
 ·exact lmz
 ·rintro k hk K hK
  by_cases hlt : k < R.length
  ·have d1 : decide ((k : Int) < (R.length : Int)) = true := by simpa using hlt
   have hgd : R.getD k [] = R[k] := by rw [List.getD_eq_getElem?_getD, List.getElem?_eq_getElem hlt]; rfl
   have htl := tau_lt hlo (k := k)
   have hac := arcsT_fc R k true hlt (by omega) (by have := hr _ (List.getElem_mem hlt); omega)
   have hll := tauOf_len true R[k]
   have hrl := hr _ (List.getElem_mem hlt)
   have hsz := totI_bfL hlo k hk
   have hsz1 := totA_le R (k + 1)
   have hsz2 := totA_take hlt
   have hfin : bfL R (k + 1) = bfRow k (bfL R k) (tauOf true R[k]) := by rw [bfL, hgd]
   rw [hgd] at htl
   generalize tauOf true R[k] = row at *
   (refine wk1 @d1 ?_;(repeat clear hK K);repeat refine kq fun K hK=>?_)
   refine cxz ?_
   (refine wk0 ?_;(repeat clear hK K);repeat refine kq fun K hK=>?_)
   (refine ckz hac ?_; intro K1 hK1)
   rintro _ _ ⟨rfl, rfl⟩
   (refine bkz ?_; clear hK1 K1)
   (refine wk1 (an @tArcs_len @half2) ?_;(repeat clear hK K);repeat refine kq fun K hK=>?_)
   refine aw_loop (fun j : Nat => { tm := [(1, .a (.c (.t 1 (tBs G)))), (2, .a (.c (.p 0 0))), (5, .a (.c (.s 1 R.length))), (6, .i k), (22, .i R.length), (23, .i k), (28, .a (.c (.t 2 (tArcs row)))), (29, .i row.length), (30, .i j)], hp := [.r ⟨27, 1, false, [.t 1 (tRows R)]⟩, .r ⟨30, 1, true, cSetsO (bfRow k (bfL R k) (row.take j))⟩], n := 109, pin := 0 }) (fun j => j ≤ row.length) (fun j => row.length - j) 0 ?_ ?_ ?_
   ·omega
   ·simp only [List.take_zero, bfRow, List.foldl_nil]
    exact lmz
   ·rintro j hj K hK
    by_cases hlt2 : j < row.length
    ·have d2 : decide ((j : Int) < (row.length : Int)) = true := by simpa using hlt2
     have hat := tArcs_at hlt2
     have htj := htl _ (List.getElem_mem hlt2)
     have hsn := bfRow_snoc k (bfL R k) (row.take j) row[j]
     rw [← List.take_succ_eq_append_getElem hlt2] at hsn
     generalize row[j] = a at *
     obtain ⟨e, t⟩ := a
     simp only at hat htj
     obtain ⟨tn, rfl⟩ : ∃ tn : Nat, t = (tn : Int) := ⟨t.toNat, by omega⟩
     have htn : tn < R.length := by omega
     have hol : (bfRow k (bfL R k) (row.take j)).length = R.length := by rw [bfRow_len, bfL_len]
     have hot := totI_bf k (row.take j) (bfL R k) (fun a ha => by rw [bfL_len]; exact (htl a (List.mem_of_mem_take ha)).2)
     rw [List.length_take] at hot
     generalize bfRow k (bfL R k) (row.take j) = o at *
     have hrw := totI_row o tn
     have hgo : o[tn]? = some (o.getD tn []) := by
      rw [List.getD_eq_getElem?_getD, List.getElem?_eq_getElem (by omega)]; rfl
     have hA : bfA k o (e, (tn : Int)) = o.set tn (o.getD tn [] ++ [(k : Int)]) := rfl
     generalize o.getD tn [] = oc at *
     (refine wk1 @d2 ?_;(repeat clear hK K);repeat refine kq fun K hK=>?_)
     refine cxz ?_
     (refine wks1 (an @hat (an @tArcs_len @half2)) ?_;(repeat clear hK K);repeat refine kq fun K hK=>?_)
     (refine aw_regionZ [2] (.m 0 0 0 (.m 1 0 0 (.m 2 1 12 (.m 3 0 0 (.m 4 0 0 (.m 5 1 10 (.m 6 0 0 (.m 7 1 10 (.m 8 0 0 (.a 9 (.a 10 (.m 11 0 0 (.a 12 .e))))))))))))) (by kernel_rfl) (by kernel_rfl) (by intro c st h; simp [ThenA, InBl, Ret] at h) ?_)
     (refine zk1 (an @cSetsO_len (an (cSetsO_get hgo) @hol)) ?_; repeat clear hK K)
     (refine z_2 rfl rfl ?_; intro K1 hK1; refine stpF_a rfl ?_; simp only [go_sem]; (first | refine hK1 _ ?_ | refine andk (hK1 _ ?_)); clear hK1 K1)
     (refine z_2y rfl rfl rfl ?_; intro K1 hK1; refine stpY_ap rfl rfl rfl rfl (by first | rfl | simp only [rowsB, List.getD_cons_zero, List.getD_cons_succ, hne, List.isEmpty_cons, Bool.not_false, Bool.true_and, Bool.and_true, Bool.and_self]) rfl ?_; simp only [go_sem, tInts_c, tInts_len, cInts_snoc, cSetsO_get hgo]; (first | refine hK1 _ ?_ | refine andk (hK1 _ ?_)); clear hK1 K1)
     (refine zk1 (an @cSetsO_len @hol) ?_; repeat clear hK K)
     (refine z_3 rfl rfl rfl rfl ?_; intro K1 hK1; refine stp_ev rfl ?_; simp only [go_sem, cSetsO_len, List.length_set, set_two3, hol]; (first | refine hK1 _ ?_ | refine andk (hK1 _ ?_)); clear hK1 K1)
     refine z_nil ⟨by simp, by simp, ?_⟩
     (try simp only [ThenA, InBl])
     refine hK _ ?_
     clear hK K
     have hj6 : ((cSetsO o).set tn (C.s 4 (oc.length + 1)))[tn]? = some (.s 4 (oc.length + 1)) := by rw [List.getElem?_set_self (by rw [cSetsO_len]; omega)]
     have hset6 : ((cSetsO o).set tn (C.s 4 (oc.length + 1))).set tn (.o (1, 3) (tInts (oc ++ [(k : Int)]))) = cSetsO (o.set tn (oc ++ [(k : Int)])) := by rw [set_two3, cSetsO_set]
     refine aw_le (le_sink (r := ⟨3, 1, true, cInts (oc ++ [(k : Int)])⟩) (ri := ⟨30, 1, true, (cSetsO o).set tn (C.s 4 (oc.length + 1))⟩) (ts := tInts (oc ++ [(k : Int)])) 1 tn 4 (oc.length + 1) (by decide) rfl hj6 rfl rfl (show 0 < 1 by omega) (by rw [cInts_len]; simp) (fz_c _)) ?_
     simp only [hset6, go_sem]
     (refine wk0 ?_;(repeat clear hK K);repeat refine kq fun K hK=>?_)
     refine rnz ?_
     refine hK _ (j + 1) (by omega) (by omega) ?_
     refine Le.trans (le_pick [0, 1] rfl rfl) ?_
     (try simp only [List.set_nil, List.take_nil, List.take_zero, List.map_append, go_sem])
     (try simp only [cInts_ren, cSetsO_ren])
     rw [hsn, hA]
     exact lmz
    ·have d2 : decide ((j : Int) < (row.length : Int)) = false := by simpa using hlt2
     have hje : row.take j = row := List.take_of_length_le (by omega)
     rw [hje, ← hfin]
     (refine wk1 @d2 ?_;(repeat clear hK K);repeat refine kq fun K hK=>?_)
     refine cyz ?_
     (refine ekz ?_;repeat clear hK K)
     (refine wk0 ?_;(repeat clear hK K);repeat refine kq fun K hK=>?_)
     refine rnz ?_
     refine hK _ (k + 1) (by omega) (by omega) ?_
     exact lmz
  ·have d1 : decide ((k : Int) < (R.length : Int)) = false := by simpa using hlt
   have hke : k = R.length := by omega
   rw [hke] at d1
   rw [hke]
   (refine wk1 @d1 ?_;(repeat clear hK K);repeat refine kq fun K hK=>?_)
   refine cyz ?_
   (refine ekz ?_;repeat clear hK K)
   have hBl := bfL_len R R.length
   have hBm := fun t x => mem_bfL hlo (t := t) (x := x) R.length
   have hsz := totI_bfL hlo R.length (Nat.le_refl _)
   rw [List.take_length] at hsz
   generalize bfL R R.length = B at *
   refine aw_le (le_ot 1 rfl) ?_
   simp only [cSetsO_ot2, go_sem]
   have htk : (tSets B).take R.length = tSets B := List.take_of_length_le (by rw [tSets_len]; omega)
   (refine aw_le (le_frz (r := ⟨30, 1, true, cSets B⟩) 1 (tSets B) rfl (fz_st _) (show 0 < (1 : Nat) by omega)) ?_; simp only [ST.frz, A0.frz, AV.frz, C.frz, Nat.le_refl, List.set_cons_zero, List.set_cons_succ, go_sem, htk, tSets_len, hBl])
   refine aw_le (le_pick [0] rfl rfl) ?_
   (try simp only [List.set_nil, List.take_nil, List.take_zero, List.map_append, go_sem])
   (refine wk1 @tRows_len ?_;(repeat clear hK K);repeat refine kq fun K hK=>?_)
   (refine lst_cons rfl ?_; intro K1 hK1; refine stp_callσ (ids := []) [1] (repeat_fc (-1) R.length h1 hn) rfl rfl (by simp only [go_sem]) (by first | assumption | kernel_rfl) rfl rfl (by (simp only [List.map_append, List.append_nil, go_sem]) <;> rfl) (by (simp only [pkh, rInts, cInts, go_sem]) <;> rfl) ?_ ?_)
   ·rintro _ _ ⟨rfl, rfl⟩; rfl
   rintro _ _ ⟨rfl, rfl⟩
   (simp only [aInts, aSets, rInts, cInts_up, List.append_nil, List.nil_append, List.length_map, go_sem]; refine hK1 _ ?_; clear hK1 K1)
   (refine wk1 (an @tBs_len @hG) ?_;(repeat clear hK K);repeat refine kq fun K hK=>?_)
   refine aw_le (le_nil 10 3 1 ?_) ?_
   ·simp only [go_sem]
   refine aw_le (le_pick [2, 3] rfl rfl) ?_
   (try simp only [List.set_nil, List.take_nil, List.take_zero, List.map_append, go_sem])
   (try simp only [cInts_ren])
   have hGl : ∀ q : Nat, q < R.length → G[q]? = some (G.getD q false) := fun q hq => by rw [List.getD_eq_getElem?_getD, List.getElem?_eq_getElem (by omega)]; rfl
   refine aw_loop (fun x : Nat × List Int × List Nat => { tm := [(5, .a (.c (.t 1 (tSets B)))), (9, .a (.c (.s 0 R.length))), (10, .a (.c (.s 1 x.2.2.length))), (53, .a (.c (.t 1 (tBs G)))), (54, .i R.length), (55, .i x.1)], hp := [.r ⟨3, 1, true, cInts x.2.1⟩, .r ⟨3, 1, true, cInts (x.2.2.map Int.ofNat)⟩], n := 109, pin := 0 }) (fun x => x.1 ≤ R.length ∧ Bq (Adj true R) R.length (fun g => G.getD g false = true) x.2.1 x.2.2 ∧ (∀ g, g < x.1 → G.getD g false = true → g ∈ x.2.2) ∧ ∀ q ∈ x.2.2, q < x.1) (fun x => R.length - x.1) (0, List.replicate R.length (-1), []) ?_ ?_ ?_
   ·exact ⟨by simp, Bq.start _ _ _, by simp, by simp⟩
   ·simp only [List.map_nil, List.length_nil, cInts]
    exact lmz
   ·rintro ⟨k, O, Q⟩ ⟨hk, hq, hgo, hqk⟩ K hK
    simp only at hk hq hgo hqk
    have hQl := hq.qlen
    have hOl := hq.len
    by_cases hlt : k < R.length
    ·have d1 : decide ((k : Int) < (R.length : Int)) = true := by simpa using hlt
     have gb := tBs_get (hGl k hlt)
     cases hb : G.getD k false with
     | true =>
      rw [hb] at gb
      have hnk : k ∉ Q := fun h => by have := hqk k h; omega
      (refine wk1 @d1 ?_;(repeat clear hK K);repeat refine kq fun K hK=>?_)
      refine cxz ?_
      (refine wk1 (an @tBs_len (an @hG @gb)) ?_;(repeat clear hK K);repeat refine kq fun K hK=>?_)
      refine cxz ?_
      (refine wks1 (an @cInts_len (an @hOl (an @cInts_set (an @List.length_map.{0, 0} (an @List.set_cons_zero.{0} (an @List.set_cons_succ.{0} (an @List.take_succ_cons.{0} (an @List.take_zero.{0} (an @List.drop_zero.{0} (an @List.length_take.{0} (an @List.length_drop.{0} (an @List.length_append.{0} (an @tInts_len (an @tInts_take (an @tInts_drop (an @tInts_c (an @cInts_len (an @cInts_one (an @cInts_snoc (an @cInts_app (an @cInts_take @cInts_drop))))))))))))))))))))) ?_;(repeat clear hK K);repeat refine kq fun K hK=>?_)
      refine rnz ?_
      refine hK _ (k + 1, O.set k 0, Q ++ [k]) ⟨by simp only; omega, hq.push hlt hnk (by omega) (by omega) ⟨k, hlt, hb, .refl k⟩, fun g hg1 hg2 => ?_, fun q hq1 => ?_⟩ (by simp only; omega) ?_
      ·rcases Nat.lt_or_ge g k with h | h
       ·exact List.mem_append_left _ (hgo g h hg2)
       ·have : g = k := by simp only at hg1; omega
        subst this; simp
      ·simp only at hq1 ⊢
       rcases List.mem_append.1 hq1 with h | h
       ·have := hqk q h; omega
       ·simp at h; omega
      ·refine Le.trans (le_pick [0, 3] rfl rfl) ?_
       (try simp only [List.set_nil, List.take_nil, List.take_zero, List.map_append, go_sem])
       (try simp only [cInts_ren])
       have htk : (Q.map Int.ofNat).take Q.length = Q.map Int.ofNat := List.take_of_length_le (by simp)
       simp only [htk, List.map_append, List.map_cons, List.map_nil, List.length_append, List.length_singleton]
       exact lmz
     | false =>
      rw [hb] at gb
      (refine wk1 @d1 ?_;(repeat clear hK K);repeat refine kq fun K hK=>?_)
      refine cxz ?_
      (refine wk1 (an @tBs_len (an @hG @gb)) ?_;(repeat clear hK K);repeat refine kq fun K hK=>?_)
      refine cyz ?_
      (refine wk0 ?_;(repeat clear hK K);repeat refine kq fun K hK=>?_)
      refine rnz ?_
      refine hK _ (k + 1, O, Q) ⟨by simp only; omega, hq, fun g hg1 hg2 => ?_, fun q hq1 => by have := hqk q hq1; simp only; omega⟩ (by simp only; omega) ?_
      ·rcases Nat.lt_or_ge g k with h | h
       ·exact hgo g h hg2
       ·have : g = k := by simp only at hg1; omega
        subst this; rw [hb] at hg2; cases hg2
      ·exact lmz
    ·have d1 : decide ((k : Int) < (R.length : Int)) = false := by simpa using hlt
     have hke : k = R.length := by omega
     rw [hke] at d1 hgo
     rw [hke]
     (refine wk1 @d1 ?_;(repeat clear hK K);repeat refine kq fun K hK=>?_)
     refine cyz ?_
     (refine ekz ?_;repeat clear hK K)
     (refine wk0 ?_;(repeat clear hK K);repeat refine kq fun K hK=>?_)
     refine aw_loop (fun x : Nat × List Int × List Nat => { tm := [(5, .a (.c (.t 1 (tSets B)))), (9, .a (.c (.s 0 R.length))), (10, .a (.c (.s 1 x.2.2.length))), (13, .i x.1)], hp := [.r ⟨3, 1, true, cInts x.2.1⟩, .r ⟨3, 1, true, cInts (x.2.2.map Int.ofNat)⟩], n := 109, pin := 0 }) (fun x => x.1 ≤ x.2.2.length ∧ Bq (Adj true R) R.length (fun g => G.getD g false = true) x.2.1 x.2.2 ∧ (∀ g, g < R.length → G.getD g false = true → g ∈ x.2.2) ∧ ∀ j q, j < x.1 → x.2.2[j]? = some q → ∀ p, p < R.length → q ∈ Adj true R p → p ∈ x.2.2) (fun x => R.length - x.1) (0, O, Q) ?_ ?_ ?_
     ·exact ⟨by simp, hq, hgo, fun j q h => by simp at h⟩
     ·exact lmz
     ·clear hq hgo hqk hQl hOl
      rintro ⟨i, O, Q⟩ ⟨hi, hq, hgo, hpd⟩ K hK
      simp only at hi hq hgo hpd
      have hQl := hq.qlen
      have hOl := hq.len
      by_cases hli : i < Q.length
      ·have d2 : decide ((i : Int) < (Q.length : Int)) = true := by simpa using hli
       have hql := hq.lt _ (List.getElem_mem hli)
       have gq : (cInts (Q.map Int.ofNat))[i]? = some (.v (.int .i64 ((Q[i] : Nat) : Int))) := cInts_get (by rw [List.getElem?_map, List.getElem?_eq_getElem hli]; rfl)
       have hqi := List.getElem?_eq_getElem hli
       generalize Q[i] = q at *
       have gB := tSets_get (List.getElem?_eq_getElem (show q < B.length by omega))
       have hpm := hBm q
       have hgd : B.getD q [] = B[q] := by rw [List.getD_eq_getElem?_getD, List.getElem?_eq_getElem (by omega)]; rfl
       have hpl := totI_row B q
       simp only [hgd] at hpm hpl
       generalize B[q] = pre at *
       (refine wk1 @d2 ?_;(repeat clear hK K);repeat refine kq fun K hK=>?_)
       refine cxz ?_
       (refine wk1 (an @cInts_len (an @List.length_map.{0, 0} (an @gq (an @tSets_len (an @hBl (an @gB @tInts_len)))))) ?_;(repeat clear hK K);repeat refine kq fun K hK=>?_)
       refine aw_loop (fun x : Nat × List Int × List Nat => { tm := [(5, .a (.c (.t 1 (tSets B)))), (9, .a (.c (.s 0 R.length))), (10, .a (.c (.s 1 x.2.2.length))), (13, .i i), (81, .a (.c (.t 1 (tInts pre)))), (82, .i pre.length), (83, .i x.1)], hp := [.r ⟨3, 1, true, cInts x.2.1⟩, .r ⟨3, 1, true, cInts (x.2.2.map Int.ofNat)⟩], n := 109, pin := 0 }) (fun x => x.1 ≤ pre.length ∧ i < x.2.2.length ∧ Bq (Adj true R) R.length (fun g => G.getD g false = true) x.2.1 x.2.2 ∧ (∀ g, g < R.length → G.getD g false = true → g ∈ x.2.2) ∧ (∀ j q, j < i → x.2.2[j]? = some q → ∀ p, p < R.length → q ∈ Adj true R p → p ∈ x.2.2) ∧ x.2.2[i]? = some q ∧ ∀ j (p : Nat), j < x.1 → pre[j]? = some (p : Int) → p ∈ x.2.2) (fun x => pre.length - x.1) (0, O, Q) ?_ ?_ ?_
       ·exact ⟨by simp, hli, hq, hgo, hpd, hqi, fun j p h => by simp at h⟩
       ·exact lmz
       ·clear hq hgo hQl hOl hi hli d2 gq hqi hpd
        rintro ⟨m, O, Q⟩ ⟨hm, hli, hq, hgo, hpd, hqi, hpm2⟩ K hK
        simp only at hm hli hq hgo hpd hqi hpm2
        have hQl := hq.qlen
        have hOl := hq.len
        by_cases hlm : m < pre.length
        ·have d3 : decide ((m : Int) < (pre.length : Int)) = true := by simpa using hlm
         have gp := tInts_get (List.getElem?_eq_getElem hlm)
         obtain ⟨p, hp1, hp2, hp3⟩ := (hpm pre[m]).1 (List.getElem_mem hlm)
         have hpe := List.getElem?_eq_getElem hlm
         rw [hp2] at gp hpe
         have gO : (cInts O)[p]? = some (.v (.int .i64 O[p])) := cInts_get (List.getElem?_eq_getElem (by omega))
         have hOp : fnL O (-1) p = O[p] := fnL_get (by omega)
         have hOq : fnL O (-1) q = O[q] := fnL_get (by omega)
         have hiff := hq.iff p hp1
         have hqm : q ∈ Q := List.mem_of_getElem? hqi
         have h0q := (hq.iff q hql).2 hqm
         have hhq := hq.hi q
         by_cases hneg : O[p] < 0
         ·have d4 : decide (O[p] < 0) = true := by simpa using hneg
          have hnp : p ∉ Q := fun h => by have := hiff.2 h; omega
          have gOq : (cInts O)[q]? = some (.v (.int .i64 O[q])) := cInts_get (List.getElem?_eq_getElem (by omega))
          have gqi : (cInts (Q.map Int.ofNat))[i]? = some (.v (.int .i64 (q : Int))) := cInts_get (by rw [List.getElem?_map, hqi]; rfl)
          have hb1 : O[q] + 1 ≤ 1000001 := by omega
          have hb0 : 0 ≤ O[q] := by omega
          (refine wk1 @d3 ?_;(repeat clear hK K);repeat refine kq fun K hK=>?_)
          refine cxz ?_
          (refine wk1 (an @gp (an @tInts_len (an @cInts_len (an @hOl (an @gO @d4))))) ?_;(repeat clear hK K);repeat refine kq fun K hK=>?_)
          refine cxz ?_
          (refine wks1 (an @cInts_len (an @hOl (an @gOq (an @gqi (an @cInts_set (an @List.length_map.{0, 0} (an @List.set_cons_zero.{0} (an @List.set_cons_succ.{0} (an @List.take_succ_cons.{0} (an @List.take_zero.{0} (an @List.drop_zero.{0} (an @List.length_take.{0} (an @List.length_drop.{0} (an @List.length_append.{0} (an @tInts_len (an @tInts_take (an @tInts_drop (an @tInts_c (an @cInts_len (an @cInts_one (an @cInts_snoc (an @cInts_app (an @cInts_take @cInts_drop))))))))))))))))))))))) ?_;(repeat clear hK K);repeat refine kq fun K hK=>?_)
          refine rnz ?_
          refine hK _ (m + 1, O.set p (O[q] + 1), Q ++ [p]) ⟨by simp only; omega, by simp only [List.length_append, List.length_singleton]; omega, hq.push hp1 hnp (by omega) (by omega) ?_, fun g hg1 hg2 => List.mem_append_left _ (hgo g hg1 hg2), fun j q' hj hj2 r hr hr2 => ?_, ?_, fun j p' hj hj2 => ?_⟩ (by simp only; omega) ?_
          ·obtain ⟨g, g1, g2, g3⟩ := hq.rc q hqm
           exact ⟨g, g1, g2, (Rc.one hp3).trans g3⟩
          ·simp only at hj2
           rw [List.getElem?_append_left (by omega)] at hj2
           exact List.mem_append_left _ (hpd j q' hj hj2 r hr hr2)
          ·simp only
           rw [List.getElem?_append_left hli]
           exact hqi
          ·simp only at hj hj2 ⊢
           by_cases e : j = m
           ·subst e
            rw [hpe] at hj2
            injection hj2 with hj2
            have : p' = p := by omega
            subst this; simp
           ·exact List.mem_append_left _ (hpm2 j p' (by omega) hj2)
          ·refine Le.trans (le_pick [0, 3] rfl rfl) ?_
           (try simp only [List.set_nil, List.take_nil, List.take_zero, List.map_append, go_sem])
           (try simp only [cInts_ren])
           have htk : (Q.map Int.ofNat).take Q.length = Q.map Int.ofNat := List.take_of_length_le (by simp)
           simp only [htk, List.map_append, List.map_cons, List.map_nil, List.length_append, List.length_singleton]
           exact lmz
         ·have d4 : decide (O[p] < 0) = false := by simpa using hneg
          (refine wk1 @d3 ?_;(repeat clear hK K);repeat refine kq fun K hK=>?_)
          refine cxz ?_
          (refine wk1 (an @gp (an @tInts_len (an @cInts_len (an @hOl (an @gO @d4))))) ?_;(repeat clear hK K);repeat refine kq fun K hK=>?_)
          refine cyz ?_
          (refine wk0 ?_;(repeat clear hK K);repeat refine kq fun K hK=>?_)
          refine rnz ?_
          refine hK _ (m + 1, O, Q) ⟨by simp only; omega, hli, hq, hgo, hpd, hqi, fun j p' hj hj2 => ?_⟩ (by simp only; omega) ?_
          ·simp only at hj hj2 ⊢
           by_cases e : j = m
           ·subst e
            rw [hpe] at hj2
            injection hj2 with hj2
            have : p' = p := by omega
            subst this
            exact hiff.1 (by omega)
           ·exact hpm2 j p' (by omega) hj2
          ·exact lmz
        ·have d3 : decide ((m : Int) < (pre.length : Int)) = false := by simpa using hlm
         (refine wk1 @d3 ?_;(repeat clear hK K);repeat refine kq fun K hK=>?_)
         refine cyz ?_
         (refine ekz ?_;repeat clear hK K)
         (refine wk0 ?_;(repeat clear hK K);repeat refine kq fun K hK=>?_)
         refine rnz ?_
         refine hK _ (i + 1, O, Q) ⟨by simp only; omega, hq, hgo, fun j q' hj hj2 p hp1 hp2 => ?_⟩ (by simp only; omega) ?_
         ·simp only at hj hj2 ⊢
          by_cases e : j = i
          ·subst e
           rw [hqi] at hj2
           injection hj2 with hj2
           subst hj2
           have hin := (hpm (p : Int)).2 ⟨p, hp1, rfl, hp2⟩
           obtain ⟨j2, hj3⟩ := List.mem_iff_getElem?.1 hin
           exact hpm2 j2 p (by have := (List.getElem?_eq_some_iff.1 hj3).1; omega) hj3
          ·exact hpd j q' (by omega) hj2 p hp1 hp2
         ·exact lmz
      ·have d2 : decide ((i : Int) < (Q.length : Int)) = false := by simpa using hli
       (refine wk1 @d2 ?_;(repeat clear hK K);repeat refine kq fun K hK=>?_)
       refine cyz ?_
       (refine ekz ?_;repeat clear hK K)
       (refine wk0 ?_;(repeat clear hK K);repeat refine kq fun K hK=>?_)
       refine rp1 [0] Tryd.results37 @cInts_ren ?_
       refine ⟨O, ⟨hOl, fun s hs => hq.done hE hgo (fun q hqm p hp1 hp2 => ?_) hs⟩, rfl⟩
       obtain ⟨j, hj⟩ := List.mem_iff_getElem?.1 hqm
       exact hpd j q (by have := (List.getElem?_eq_some_iff.1 hj).1; omega) hj p hp1 hp2
theorem FC.frzP {P : Program} {f : FuncId} {args : List AV} {e k : Nat} {α : Type} {n : α → Nat} {p : α → Prop} {cs : α → List C} {ts : α → List Tr} (h : FC P f args [] (fun r o => ∃ x, p x ∧ r = .a (.c (.s 0 (n x))) ∧ o = [.r ⟨e, k, true, cs x⟩])) (hz : ∀ x, Fz (cs x) (ts x)) (hk : 0 < k) (hn : ∀ x, p x → n x * k = (ts x).length) :
  FC P f args [] (fun r o => ∃ x, p x ∧ o = [] ∧ r = .a (.c (.t k (ts x)))) := by
 intro g w vals hr ha
 refine (h g w vals hr ha).mono ?_
 rintro x w' ⟨v, r, outs, g', rfl, ⟨y, hy, rfl, rfl⟩, h1, h2, h3, h4, h5⟩
 have hn := hn y hy
 have hz := hz y
 have hR : RelG g' (LiveB [] g) w { tm := [(0, .a (.c (.s 0 (n y))))], hp := [.r ⟨e, k, true, cs y⟩], n := 1, pin := 0 } { tmps := #[v], defers := [] } w' := by
  refine ⟨h1, h3, fun d => ?_, rfl, rfl, h5⟩
  simp only [ST.get, look]
  split
  ·rename_i hd; subst hd; exact h4
  ·trivial
 have hF := hR.freeze (id := 0) (r := ⟨e, k, true, cs y⟩) rfl hz hk
 have hv := hF.tm 0
 have e0 : (ST.frz { tm := [(0, .a (.c (.s 0 (n y))))], hp := [.r ⟨e, k, true, cs y⟩], n := 1, pin := 0 } 0 k (ts y)).get 0 = .a (.c (.t k (ts y))) := by
  simp only [ST.frz, ST.get, look, List.map_cons, List.map_nil, AV.frz, A0.frz, C.frz, if_true, hn, Nat.le_refl, List.take_length]
 rw [show (({ tm := [(0, .a (.c (.s 0 (n y))))], hp := [.r ⟨e, k, true, cs y⟩], n := 1, pin := 0 } : ST).frz 0 (⟨e, k, true, cs y⟩ : Row).k (ts y)).get 0 = .a (.c (.t k (ts y))) from e0] at hv
 have hp := hF.hr.pk (ρ := []) (M := g'.M) (fun b hb => .inl hb) hF.hr.ml (fun ℓ hl => by
  cases ℓ with
  | ob i => rcases hl with ⟨r, e1, _⟩ | ⟨kv, e1⟩ <;> simp [pkh] at e1
  | cl i j => obtain ⟨r, _, _, e1, _⟩ := hl; simp [pkh] at e1) rfl
 have hv2 := AVR.ren (ρ := []) (M := g'.M) (fun b hb => .inl hb) hv
 refine ⟨v, .a (.c (.t k (ts y))), [], _, rfl, ⟨y, hy, rfl, rfl⟩, hp, ⟨Nat.le_refl _, h2.2.1, fun i hi => by simp at hi⟩, fun ℓ hl => ?_, hv2, h5⟩
 cases ℓ with
 | ob i => rcases hl with ⟨r, e1, _⟩ | ⟨kv, e1⟩ <;> simp at e1
 | cl i j => obtain ⟨r, _, _, e1, _⟩ := hl; simp at e1
theorem distT_fc (R : List (List Ar)) (G : List Bool) (hlo : looB R = true) (hG : G.length = R.length) (hn : R.length ≤ 1000000) (hr : ∀ r ∈ R, r.length ≤ 1000000) : FC Tryd.prog 37 [aLts R, .a (.c (.t 1 (tBs G)))] [] (fun r o => ∃ O : List Int, (O.length = R.length ∧ ∀ s, s < R.length → (0 ≤ fnL O (-1) s ↔ ∃ g, g < R.length ∧ G.getD g false = true ∧ Rc (Adj true R) s g)) ∧ o = [] ∧ r = .a (.c (.t 1 (tInts O)))) :=
 (dist_fc R G hlo hG hn hr).frzP (fun O => fz_c O) (by omega) (fun O h => by rw [tInts_len]; have := h.1; omega)
theorem compT_fc (R : List (List Ar)) (t : Bool) (hv : valB R = true) (h1 : 1 ≤ R.length) (hn : R.length ≤ 1000000) (hr : ∀ r ∈ R, r.length ≤ 1000000) : FC Tryd.prog 28 [aLts R, .b t] [] (fun r o => ∃ D : List Int, (D.length = R.length ∧ ∀ v, v < R.length → Least (Adj t R) v (fnL D (-1) v)) ∧ o = [] ∧ r = .a (.c (.t 1 (tInts D)))) :=
 ((comp_fc R t hv h1 hn hr).mono fun r o ⟨D, h1, h2, h3, h4⟩ => ⟨D, ⟨h1, h2⟩, h4, h3⟩).frzP (fun D => fz_c D) (by omega) (fun D h => by rw [tInts_len]; have := h.1; omega)
def dsL (O : List Int) (k : Nat) : List Bool := (List.range k).map fun s => decide (fnL O (-1) s ≥ 0)
theorem dsL_len (O : List Int) (k : Nat) : (dsL O k).length = k := by simp [dsL]
def dsB (O : List Int) (n k : Nat) : List Bool := dsL O k ++ List.replicate (n - k) false
theorem dsB_len {O : List Int} {n k : Nat} (h : k ≤ n) : (dsB O n k).length = n := by simp [dsB, dsL_len]; omega
theorem dsB_set {O : List Int} {n k : Nat} (h : k < n) (hO : k < O.length) : (dsB O n k).set k (decide (O[k] ≥ 0)) = dsB O n (k + 1) := by
 obtain ⟨m, hm⟩ : ∃ m, n - k = m + 1 := ⟨n - k - 1, by omega⟩
 have hm2 : n - (k + 1) = m := by omega
 have hl := dsL_len O k
 have hOk : fnL O (-1) k = O[k] := fnL_get hO
 unfold dsB
 rw [hm, hm2, List.replicate_succ, List.set_append_right _ _ (by omega), hl, Nat.sub_self, List.set_cons_zero]
 simp [dsL, List.range_succ, hOk]
theorem dsB_end (O : List Int) (n : Nat) : dsB O n n = dsL O n := by simp [dsB]
set_option maxHeartbeats 2000000 in
theorem dvg_fc (R : List (List Ar)) (hv : valB R = true) (hn : R.length ≤ 1000000) (hr : ∀ r ∈ R, r.length ≤ 1000000) : FC Tryd.prog 21 [aLts R] [] (fun r o => ∃ B, DvL R B ∧ r = .a (.c (.s 0 R.length)) ∧ o = [.r ⟨4, 1, true, cBs B⟩]) := by
 refine fc_intro Tryd.func21 rfl (by rw [Tryd.ntmps21]; simp) ?_
 rw [Tryd.ntmps21]
 simp only [enum, aLts]
 have hlo : looB R = true := decide_eq_true (of_decide_eq_true hv).1
 have h1 : 1 ≤ R.length := (of_decide_eq_true hlo).1
 (refine wk0 ?_;(repeat clear hK K);repeat refine kq fun K hK=>?_)
 (refine ckz (valid_fc R (by omega) (fun r h => by have := hr r h; omega)) ?_; intro K1 hK1)
 rintro _ _ ⟨rfl, rfl⟩
 (refine bkz ?_; clear hK1 K1)
 (refine wk1 (an @hv @Bool.not_true) ?_;(repeat clear hK K);repeat refine kq fun K hK=>?_)
 refine cyz ?_
 (refine wk0 ?_;(repeat clear hK K);repeat refine kq fun K hK=>?_)
 (refine aw_regionZ [0] (.m 2 1 3 (.m 1 1 4 (.m 0 1 5 (.a 3 (.a 4 (.a 5 (.m 6 0 0 .e))))))) (by kernel_rfl) (by kernel_rfl) (by intro c st h; simp [ThenA, InBl, Ret] at h) ?_)
 (refine zk0 ?_; repeat clear hK K)
 (refine z_2y rfl rfl rfl ?_; intro K1 hK1; refine yX [] ?_; refine xz [] (compT_fc R true hv h1 hn hr) ?_ ?_)
 ·rintro _ _ ⟨_, _, rfl, rfl⟩ i o hi hl; simp at hl
 rintro _ _ ⟨D, ⟨hD, hL⟩, rfl, rfl⟩
 (refine bkz ?_; clear hK1 K1)
 (refine zk0 ?_; repeat clear hK K)
 (refine z_2y rfl rfl rfl ?_; intro K1 hK1; refine yX [] ?_; refine xz [] (loopT_fc R D hlo hD hn hr) ?_ ?_)
 ·rintro _ _ ⟨rfl, rfl⟩ i o hi hl; simp at hl
 rintro _ _ ⟨rfl, rfl⟩
 (refine bkz ?_; clear hK1 K1)
 (refine zk0 ?_; repeat clear hK K)
 (refine z_2y rfl rfl rfl ?_; intro K1 hK1; refine yX [] ?_; refine xz [] (distT_fc R (lpL R D R.length) hlo (lpL_len _ _ _) hn hr) ?_ ?_)
 ·rintro _ _ ⟨_, _, rfl, rfl⟩ i o hi hl; simp at hl
 rintro _ _ ⟨O, ⟨hO, hOi⟩, rfl, rfl⟩
 (refine bkz ?_; clear hK1 K1)
 (refine zk0 ?_; repeat clear hK K)
 (refine wk1 @tRows_len ?_;(repeat clear hK K);repeat refine kq fun K hK=>?_)
 have e0 : List.replicate R.length (C.v (.bool false)) = cBs (dsB O R.length 0) := by simp [cBs, dsL, dsB]
 rw [e0]
 refine aw_loop (fun k : Nat => { tm := [(3, .a (.c (.t 1 (tInts O)))), (4, .a (.c (.s 1 R.length))), (20, .i R.length), (21, .i k)], hp := [.r ⟨27, 1, false, [.t 1 (tRows R)]⟩, .r ⟨4, 1, true, cBs (dsB O R.length k)⟩], n := 34, pin := 0 }) (fun k => k ≤ R.length) (fun k => R.length - k) 0 ?_ ?_ ?_
 ·omega
 ·exact lmz
 ·rintro k hk K hK
  by_cases hlt : k < R.length
  ·have d1 : decide ((k : Int) < (R.length : Int)) = true := by simpa using hlt
   have gO := tInts_get (List.getElem?_eq_getElem (show k < O.length by omega))
   have hOk : fnL O (-1) k = O[k] := fnL_get (by omega)
   have hbl := dsB_len (O := O) hk
   have hset := dsB_set hlt (show k < O.length by omega)
   (refine wk1 @d1 ?_;(repeat clear hK K);repeat refine kq fun K hK=>?_)
   refine cxz ?_
   (refine wks1 (an @tInts_len (an @hO (an @gO (an @cBs_len (an @hbl (an @cBs_set @hset)))))) ?_;(repeat clear hK K);repeat refine kq fun K hK=>?_)
   refine rnz ?_
   refine hK _ (k + 1) (by omega) (by omega) ?_
   exact lmz
  ·have d1 : decide ((k : Int) < (R.length : Int)) = false := by simpa using hlt
   have hke : k = R.length := by omega
   rw [hke] at d1
   rw [hke, dsB_end]
   (refine wk1 @d1 ?_;(repeat clear hK K);repeat refine kq fun K hK=>?_)
   refine cyz ?_
   (refine ekz ?_;repeat clear hK K)
   (refine wk0 ?_;(repeat clear hK K);repeat refine kq fun K hK=>?_)
   refine rp1 [1] Tryd.results21 @cBs_ren ?_
   refine ⟨_, ⟨dsL_len _ _, fun s hs => ?_⟩, rfl⟩
   have hgo : (dsL O R.length).getD s false = decide (fnL O (-1) s ≥ 0) := by simp [dsL, List.getD_eq_getElem?_getD, hs]
   rw [hgo, decide_eq_true_iff]
   show 0 ≤ fnL O (-1) s ↔ _
   rw [hOi s hs]
   constructor
   ·rintro ⟨g, g1, g2, g3⟩
    exact ⟨g, g3, (lpL_iff hlo hD hL g1).1 g2⟩
   ·rintro ⟨g, g3, g4⟩
    have g1 := g3.lt hs (adj_lt true hlo)
    exact ⟨g, g1, (lpL_iff hlo hD hL g1).2 g4, g3⟩
theorem dvgT_fc (R : List (List Ar)) (hv : valB R = true) (hn : R.length ≤ 1000000) (hr : ∀ r ∈ R, r.length ≤ 1000000) : FC Tryd.prog 21 [aLts R] [] (fun r o => ∃ B, DvL R B ∧ o = [] ∧ r = .a (.c (.t 1 (tBs B)))) :=
 (dvg_fc R hv hn hr).frzP (fun B => fz_bs B) (by omega) (fun B h => by rw [tBs_len]; have := h.1; omega)
end Go.Proofs.YtglchakimolfdaaDoor
