/- graph.looping, distances, Divergent. Canonical forms depend on the rows as sets; rows joined by insertion. The canonical form of a loose system is valid. Quotients, plain: numbered classes, rows joined by classes. Numbered classes: weak.numbered, ref25.Numbered, count, slices.Max. -/
import Derived.Test.YtglchakimolfdaaGreatDoorZk
import Derived.Test.YtglchakimolfdaaGreatDoorG45
import Derived.Test.YtglchakimolfdaaGreatDoorG42
import Derived.Test.YtglchakimolfdaaGreatDoorMG
import Derived.Test.YtglchakimolfdaaGreatDoorG11
namespace Go.Proofs.YtglchakimolfdaaGreatDoor
set_option linter.unusedVariables false
set_option linter.unusedSimpArgs false
open Go.RowKit
set_option maxRecDepth 100000
attribute [local go_sem] List.set_cons_zero List.set_cons_succ List.map_cons List.map_nil List.take_succ_cons List.take_zero List.drop_zero List.drop_succ_cons C.pl C.one List.all_cons List.all_nil Bool.and_true Nat.mul_one Int.toNat_natCast

def tBs (B : List Bool) : List Tr := B.map fun b => .v (.bool b)
theorem tBs_len (B : List Bool) : (tBs B).length = B.length := by simp [tBs]
theorem tBs_get {B : List Bool} {i : Nat} {b : Bool} (h : B[i]? = some b) : (tBs B)[i]? = some (.v (.bool b)) := by simp [tBs, h]
theorem fz_bs (B : List Bool) : Fz (cBs B) (tBs B) := by unfold cBs tBs; exact Fz.map fun x _ => .inl rfl
theorem cSetsO_ot2 (L : List (List Int)) : (cSetsO L).map otC = cSets L := by simp [cSetsO, cSets, otC, Function.comp_def]
theorem cSetsO_get {L : List (List Int)} {i : Nat} {x : List Int} (h : L[i]? = some x) : (cSetsO L)[i]? = some (.o (1, 3) (tInts x)) := by simp [cSetsO, h]
theorem fz_st (L : List (List Int)) : Fz (cSets L) (tSets L) := Fz.map fun x _ => .inl rfl
theorem set_two3 (L : List C) (s : Nat) (x y : C) : (L.set s x).set s y = L.set s y := by simp
set_option maxHeartbeats 2000000 in
theorem loop_fc (R : List (List Ar)) (D : List Int) (hlo : looB R = true) (hD : D.length = R.length) (hn : R.length ≤ 1000000) (hr : ∀ r ∈ R, r.length ≤ 1000000) : FC Tryz.prog 79 [aLts R, aInts D] [] (fun r o => r = .a (.c (.s 0 R.length)) ∧ o = [.r ⟨4, 1, true, cBs (lpL R D R.length)⟩]) := by
 refine fc_intro Tryz.func79 rfl (by rw [Tryz.ntmps79]; simp) ?_
 rw [Tryz.ntmps79]
 simp only [enum, aLts, aInts]
 (refine wk1 @tRows_len ?_;(repeat clear hK K);repeat refine kq fun K hK=>?_)
 have e0 : List.replicate R.length (C.v (.bool false)) = cBs (lpL R D 0 ++ List.replicate (R.length - 0) false) := by simp [cBs, lpL]
 rw [e0]
 refine aw_loop (fun k : Nat => { tm := [(1, .a (.c (.t 1 (tInts D)))), (2, .a (.c (.p 0 0))), (5, .a (.c (.s 1 R.length))), (15, .i R.length), (16, .i k)], hp := [.r ⟨25, 1, false, [.t 1 (tRows R)]⟩, .r ⟨4, 1, true, cBs (lpL R D k ++ List.replicate (R.length - k) false)⟩], n := 43, pin := 0 }) (fun k => k ≤ R.length) (fun k => R.length - k) 0 ?_ ?_ ?_
 ·omega
 ·exact lmz
 ·rintro k hk K hK
  by_cases hlt : k < R.length
  ·have d1 : decide ((k : Int) < (R.length : Int)) = true := by simpa using hlt
   have hgd : R.getD k [] = R[k] := by rw [List.getD_eq_getElem?_getD, List.getElem?_eq_getElem hlt]; rfl
   have htl := tau_lt hlo (k := k)
   have hac := arcsT_fc R k true hlt (by omega) (by have := hr _ (List.getElem_mem hlt); omega)
   have hll := tauOf_len true R[k]
   have hrl := hr _ (List.getElem_mem hlt)
   have hfin : (lpL R D k ++ List.replicate (R.length - k) false).set k (lp1 D k (tauOf true R[k])) = lpL R D (k + 1) ++ List.replicate (R.length - (k + 1)) false := by
    obtain ⟨m, hm⟩ : ∃ m, R.length - k = m + 1 := ⟨R.length - k - 1, by omega⟩
    have hm2 : R.length - (k + 1) = m := by omega
    have hl := lpL_len R D k
    rw [hm, hm2, List.replicate_succ, List.set_append_right _ _ (by omega), hl, Nat.sub_self, List.set_cons_zero]
    simp [lpL, List.range_succ, List.getD_eq_getElem?_getD, hlt]
   rw [hgd] at htl
   have hbl : (lpL R D k ++ List.replicate (R.length - k) false).length = R.length := by simp [lpL_len]; omega
   have hini : (lpL R D k ++ List.replicate (R.length - k) false).set k false = lpL R D k ++ List.replicate (R.length - k) false := by
    obtain ⟨m, hm⟩ : ∃ m, R.length - k = m + 1 := ⟨R.length - k - 1, by omega⟩
    rw [hm, List.replicate_succ, List.set_append_right _ _ (by rw [lpL_len]; omega), lpL_len, Nat.sub_self, List.set_cons_zero]
   generalize lpL R D k ++ List.replicate (R.length - k) false = B at *
   generalize tauOf true R[k] = row at *
   (refine wk1 @d1 ?_;(repeat clear hK K);repeat refine kq fun K hK=>?_)
   refine cxz ?_
   (refine wk0 ?_;(repeat clear hK K);repeat refine kq fun K hK=>?_)
   (refine ckz hac ?_; intro K1 hK1)
   rintro _ _ ⟨rfl, rfl⟩
   (refine bkz ?_; clear hK1 K1)
   (refine wk1 (an @tArcs_len @half2) ?_;(repeat clear hK K);repeat refine kq fun K hK=>?_)
   refine aw_loop (fun j : Nat => { tm := [(1, .a (.c (.t 1 (tInts D)))), (2, .a (.c (.p 0 0))), (5, .a (.c (.s 1 R.length))), (6, .i k), (15, .i R.length), (16, .i k), (21, .a (.c (.t 2 (tArcs row)))), (22, .i row.length), (23, .i j)], hp := [.r ⟨25, 1, false, [.t 1 (tRows R)]⟩, .r ⟨4, 1, true, cBs (B.set k (lp1 D k (row.take j)))⟩], n := 43, pin := 0 }) (fun j => j ≤ row.length) (fun j => row.length - j) 0 ?_ ?_ ?_
   ·omega
   ·have e1 : lp1 D k [] = false := rfl
    rw [List.take_zero, e1, hini]
    exact lmz
   ·rintro j hj K hK
    by_cases hlt2 : j < row.length
    ·have d2 : decide ((j : Int) < (row.length : Int)) = true := by simpa using hlt2
     have hat := tArcs_at hlt2
     have htj := htl _ (List.getElem_mem hlt2)
     have hsn := lp1_snoc D k (row.take j) row[j]
     rw [← List.take_succ_eq_append_getElem hlt2] at hsn
     generalize row[j] = a at *
     obtain ⟨e, t⟩ := a
     simp only at hat htj hsn
     obtain ⟨tn, rfl⟩ : ∃ tn : Nat, t = (tn : Int) := ⟨t.toNat, by omega⟩
     have htn : tn < D.length := by omega
     rw [Int.toNat_natCast, List.getD_eq_getElem?_getD, List.getD_eq_getElem?_getD, List.getElem?_eq_getElem htn, List.getElem?_eq_getElem (show k < D.length by omega), Option.getD_some, Option.getD_some] at hsn
     have gt := tInts_get (List.getElem?_eq_getElem htn)
     have gk := tInts_get (List.getElem?_eq_getElem (show k < D.length by omega))
     by_cases he : D[tn] = D[k]
     ·have d3 : (D[tn] == D[k]) = true := by simpa using he
      rw [decide_eq_true he, Bool.or_true] at hsn
      (refine wk1 @d2 ?_;(repeat clear hK K);repeat refine kq fun K hK=>?_)
      refine cxz ?_
      (refine wks1 (an @hat (an @tArcs_len @half2)) ?_;(repeat clear hK K);repeat refine kq fun K hK=>?_)
      (refine aw_regionU 9 [(0, 0), (1, 0), (2, 1), (3, 0), (4, 1), (5, 0), (6, 0), (7, 0), (8, 1), (9, 2)] (by kernel_rfl) (by kernel_rfl) (by intro c st h; simp [ThenA, InBl, Ret] at h) ?_)
      (refine uk1 (an @gt (an @gk (an @tInts_len (an @hD @d3)))) ?_; repeat clear hK K)
      refine cxz ?_
      (refine wks1 (an @cBs_len (an @List.length_set.{0} (an @hbl (an @cBs_set @List.set_set.{0})))) ?_;(repeat clear hK K);repeat refine kq fun K hK=>?_)
      refine rnz ?_
      refine hK _ (j + 1) (by omega) (by omega) ?_
      refine Le.trans (le_pick [0, 1] rfl rfl) ?_
      (try simp only [List.set_nil, List.take_nil, List.take_zero, List.map_append, go_sem])
      (try simp only [cBs_ren])
      rw [hsn]
      exact lmz
     ·have d3 : (D[tn] == D[k]) = false := by simpa using he
      rw [decide_eq_false he, Bool.or_false] at hsn
      (refine wk1 @d2 ?_;(repeat clear hK K);repeat refine kq fun K hK=>?_)
      refine cxz ?_
      (refine wks1 (an @hat (an @tArcs_len @half2)) ?_;(repeat clear hK K);repeat refine kq fun K hK=>?_)
      (refine aw_regionU 9 [(0, 0), (1, 0), (2, 1), (3, 0), (4, 1), (5, 0), (6, 0), (7, 0), (8, 1), (9, 2)] (by kernel_rfl) (by kernel_rfl) (by intro c st h; simp [ThenA, InBl, Ret] at h) ?_)
      (refine uk1 (an @gt (an @gk (an @tInts_len (an @hD @d3)))) ?_; repeat clear hK K)
      refine cyz ?_
      (refine wk0 ?_;(repeat clear hK K);repeat refine kq fun K hK=>?_)
      refine rnz ?_
      refine hK _ (j + 1) (by omega) (by omega) ?_
      refine Le.trans (le_pick [0, 1] rfl rfl) ?_
      (try simp only [List.set_nil, List.take_nil, List.take_zero, List.map_append, go_sem])
      (try simp only [cBs_ren])
      rw [hsn]
      exact lmz
    ·have d2 : decide ((j : Int) < (row.length : Int)) = false := by simpa using hlt2
     have hje : row.take j = row := List.take_of_length_le (by omega)
     rw [hje, hfin]
     (refine wk1 @d2 ?_;(repeat clear hK K);repeat refine kq fun K hK=>?_)
     refine cyz ?_
     (refine ekz ?_;repeat clear hK K)
     (refine wk0 ?_;(repeat clear hK K);repeat refine kq fun K hK=>?_)
     refine rnz ?_
     refine hK _ (k + 1) (by omega) (by omega) ?_
     exact lmz
  ·have d1 : decide ((k : Int) < (R.length : Int)) = false := by simpa using hlt
   have hke : k = R.length := by omega
   rw [hke] at d1
   rw [hke, Nat.sub_self, List.replicate_zero, List.append_nil]
   (refine wk1 @d1 ?_;(repeat clear hK K);repeat refine kq fun K hK=>?_)
   refine cyz ?_
   (refine ekz ?_;repeat clear hK K)
   (refine wk0 ?_;(repeat clear hK K);repeat refine kq fun K hK=>?_)
   exact rpc1 [1] Tryz.results79 @cBs_ren
theorem loopT_fc (R : List (List Ar)) (D : List Int) (hlo : looB R = true) (hD : D.length = R.length) (hn : R.length ≤ 1000000) (hr : ∀ r ∈ R, r.length ≤ 1000000) : FC Tryz.prog 79 [aLts R, aInts D] [] (fun r o => o = [] ∧ r = .a (.c (.t 1 (tBs (lpL R D R.length))))) :=
 (loop_fc R D hlo hD hn hr).frz (fz_bs _) (by omega) (by rw [tBs_len, lpL_len]; omega)
set_option maxHeartbeats 4000000 in
theorem dist_fc (R : List (List Ar)) (G : List Bool) (hlo : looB R = true) (hG : G.length = R.length) (hn : R.length ≤ 1000000) (hr : ∀ r ∈ R, r.length ≤ 1000000) : FC Tryz.prog 78 [aLts R, .a (.c (.t 1 (tBs G)))] [] (fun r o => ∃ O : List Int, (O.length = R.length ∧ ∀ s, s < R.length → (0 ≤ fnL O (-1) s ↔ ∃ g, g < R.length ∧ G.getD g false = true ∧ Rc (Adj true R) s g)) ∧ r = .a (.c (.s 0 R.length)) ∧ o = [rInts O]) := by
 refine fc_intro Tryz.func78 rfl (by rw [Tryz.ntmps78]; simp) ?_
 rw [Tryz.ntmps78]
 simp only [enum, aLts]
 have h1 : 1 ≤ R.length := (of_decide_eq_true hlo).1
 have htA : totA R ≤ 262144 := (of_decide_eq_true hlo).2.2.1
 have hE := adj_lt true hlo
 (refine wk1 @tRows_len ?_;(repeat clear hK K);repeat refine kq fun K hK=>?_)
 have e0 : List.replicate R.length (C.o (1, 3) []) = cSetsO (bfL R 0) := by simp [cSetsO, bfL, tInts]
 rw [e0]
 refine aw_loop (fun k : Nat => { tm := [(1, .a (.c (.t 1 (tBs G)))), (2, .a (.c (.p 0 0))), (5, .a (.c (.s 1 R.length))), (22, .i R.length), (23, .i k)], hp := [.r ⟨25, 1, false, [.t 1 (tRows R)]⟩, .r ⟨22, 1, true, cSetsO (bfL R k)⟩], n := 109, pin := 0 }) (fun k => k ≤ R.length) (fun k => R.length - k) 0 ?_ ?_ ?_
 ·omega
 ·exact lmz
 ·rintro k hk K hK
  by_cases hlt : k < R.length
  ·have d1 : decide ((k : Int) < (R.length : Int)) = true := by simpa using hlt
   have hgd : R.getD k [] = R[k] := by rw [List.getD_eq_getElem?_getD, List.getElem?_eq_getElem hlt]; rfl
   have htl := tau_lt hlo (k := k)
   have hac := arcsT_fc R k true hlt (by omega) (by have := hr _ (List.getElem_mem hlt); omega)
   have hll := tauOf_len true R[k]
   have hrl := hr _ (List.getElem_mem hlt)
   have hsz := totI_bfL hlo k hk
   have hsz1 := totA_le R (k + 1)
   have hsz2 := totA_take hlt
   have hfin : bfL R (k + 1) = bfRow k (bfL R k) (tauOf true R[k]) := by rw [bfL, hgd]
   rw [hgd] at htl
   generalize tauOf true R[k] = row at *
   (refine wk1 @d1 ?_;(repeat clear hK K);repeat refine kq fun K hK=>?_)
   refine cxz ?_
   (refine wk0 ?_;(repeat clear hK K);repeat refine kq fun K hK=>?_)
   (refine ckz hac ?_; intro K1 hK1)
   rintro _ _ ⟨rfl, rfl⟩
   (refine bkz ?_; clear hK1 K1)
   (refine wk1 (an @tArcs_len @half2) ?_;(repeat clear hK K);repeat refine kq fun K hK=>?_)
   refine aw_loop (fun j : Nat => { tm := [(1, .a (.c (.t 1 (tBs G)))), (2, .a (.c (.p 0 0))), (5, .a (.c (.s 1 R.length))), (6, .i k), (22, .i R.length), (23, .i k), (28, .a (.c (.t 2 (tArcs row)))), (29, .i row.length), (30, .i j)], hp := [.r ⟨25, 1, false, [.t 1 (tRows R)]⟩, .r ⟨22, 1, true, cSetsO (bfRow k (bfL R k) (row.take j))⟩], n := 109, pin := 0 }) (fun j => j ≤ row.length) (fun j => row.length - j) 0 ?_ ?_ ?_
   ·omega
   ·simp only [List.take_zero, bfRow, List.foldl_nil]
    exact lmz
   ·rintro j hj K hK
    by_cases hlt2 : j < row.length
    ·have d2 : decide ((j : Int) < (row.length : Int)) = true := by simpa using hlt2
     have hat := tArcs_at hlt2
     have htj := htl _ (List.getElem_mem hlt2)
     have hsn := bfRow_snoc k (bfL R k) (row.take j) row[j]
     rw [← List.take_succ_eq_append_getElem hlt2] at hsn
     generalize row[j] = a at *
     obtain ⟨e, t⟩ := a
     simp only at hat htj
     obtain ⟨tn, rfl⟩ : ∃ tn : Nat, t = (tn : Int) := ⟨t.toNat, by omega⟩
     have htn : tn < R.length := by omega
     have hol : (bfRow k (bfL R k) (row.take j)).length = R.length := by rw [bfRow_len, bfL_len]
     have hot := totI_bf k (row.take j) (bfL R k) (fun a ha => by rw [bfL_len]; exact (htl a (List.mem_of_mem_take ha)).2)
     rw [List.length_take] at hot
     generalize bfRow k (bfL R k) (row.take j) = o at *
     have hrw := totI_row o tn
     have hgo : o[tn]? = some (o.getD tn []) := by
      rw [List.getD_eq_getElem?_getD, List.getElem?_eq_getElem (by omega)]; rfl
     have hA : bfA k o (e, (tn : Int)) = o.set tn (o.getD tn [] ++ [(k : Int)]) := rfl
     generalize o.getD tn [] = oc at *
     (refine wk1 @d2 ?_;(repeat clear hK K);repeat refine kq fun K hK=>?_)
     refine cxz ?_
     (refine wks1 (an @hat (an @tArcs_len @half2)) ?_;(repeat clear hK K);repeat refine kq fun K hK=>?_)
     (refine aw_regionZ [2] (.m 0 0 0 (.m 1 0 0 (.m 2 1 12 (.m 3 0 0 (.m 4 0 0 (.m 5 1 10 (.m 6 0 0 (.m 7 1 10 (.m 8 0 0 (.a 9 (.a 10 (.m 11 0 0 (.a 12 .e))))))))))))) (by kernel_rfl) (by kernel_rfl) (by intro c st h; simp [ThenA, InBl, Ret] at h) ?_)
     (refine zk1 (an @cSetsO_len (an (cSetsO_get hgo) @hol)) ?_; repeat clear hK K)
     (refine z_2 rfl rfl ?_; intro K1 hK1; refine stpF_a rfl ?_; simp only [go_sem]; (first | refine hK1 _ ?_ | refine andk (hK1 _ ?_)); clear hK1 K1)
     (refine z_2y rfl rfl rfl ?_; intro K1 hK1; refine stpY_ap rfl rfl rfl rfl (by first | rfl | simp only [rowsB, List.getD_cons_zero, List.getD_cons_succ, hne, List.isEmpty_cons, Bool.not_false, Bool.true_and, Bool.and_true, Bool.and_self]) rfl ?_; simp only [go_sem, tInts_c, tInts_len, cInts_snoc, cSetsO_get hgo]; (first | refine hK1 _ ?_ | refine andk (hK1 _ ?_)); clear hK1 K1)
     (refine zk1 (an @cSetsO_len @hol) ?_; repeat clear hK K)
     (refine z_3 rfl rfl rfl rfl ?_; intro K1 hK1; refine stp_ev rfl ?_; simp only [go_sem, cSetsO_len, List.length_set, set_two3, hol]; (first | refine hK1 _ ?_ | refine andk (hK1 _ ?_)); clear hK1 K1)
     refine z_nil ⟨by simp, by simp, ?_⟩
     (try simp only [ThenA, InBl])
     refine hK _ ?_
     clear hK K
     have hj6 : ((cSetsO o).set tn (C.s 4 (oc.length + 1)))[tn]? = some (.s 4 (oc.length + 1)) := by rw [List.getElem?_set_self (by rw [cSetsO_len]; omega)]
     have hset6 : ((cSetsO o).set tn (C.s 4 (oc.length + 1))).set tn (.o (1, 3) (tInts (oc ++ [(k : Int)]))) = cSetsO (o.set tn (oc ++ [(k : Int)])) := by rw [set_two3, cSetsO_set]
     refine aw_le (le_sink (r := ⟨3, 1, true, cInts (oc ++ [(k : Int)])⟩) (ri := ⟨22, 1, true, (cSetsO o).set tn (C.s 4 (oc.length + 1))⟩) (ts := tInts (oc ++ [(k : Int)])) 1 tn 4 (oc.length + 1) (by decide) rfl hj6 rfl rfl (show 0 < 1 by omega) (by rw [cInts_len]; simp) (fz_c _)) ?_
     simp only [hset6, go_sem]
     (refine wk0 ?_;(repeat clear hK K);repeat refine kq fun K hK=>?_)
     refine rnz ?_
     refine hK _ (j + 1) (by omega) (by omega) ?_
     refine Le.trans (le_pick [0, 1] rfl rfl) ?_
     (try simp only [List.set_nil, List.take_nil, List.take_zero, List.map_append, go_sem])
     (try simp only [cInts_ren, cSetsO_ren])
     rw [hsn, hA]
     exact lmz
    ·have d2 : decide ((j : Int) < (row.length : Int)) = false := by simpa using hlt2
     have hje : row.take j = row := List.take_of_length_le (by omega)
     rw [hje, ← hfin]
     (refine wk1 @d2 ?_;(repeat clear hK K);repeat refine kq fun K hK=>?_)
     refine cyz ?_
     (refine ekz ?_;repeat clear hK K)
     (refine wk0 ?_;(repeat clear hK K);repeat refine kq fun K hK=>?_)
     refine rnz ?_
     refine hK _ (k + 1) (by omega) (by omega) ?_
     exact lmz
  ·have d1 : decide ((k : Int) < (R.length : Int)) = false := by simpa using hlt
   have hke : k = R.length := by omega
   rw [hke] at d1
   rw [hke]
   (refine wk1 @d1 ?_;(repeat clear hK K);repeat refine kq fun K hK=>?_)
   refine cyz ?_
   (refine ekz ?_;repeat clear hK K)
   have hBl := bfL_len R R.length
   have hBm := fun t x => mem_bfL hlo (t := t) (x := x) R.length
   have hsz := totI_bfL hlo R.length (Nat.le_refl _)
   rw [List.take_length] at hsz
   generalize bfL R R.length = B at *
   refine aw_le (le_ot 1 rfl) ?_
   simp only [cSetsO_ot2, go_sem]
   have htk : (tSets B).take R.length = tSets B := List.take_of_length_le (by rw [tSets_len]; omega)
   (refine aw_le (le_frz (r := ⟨22, 1, true, cSets B⟩) 1 (tSets B) rfl (fz_st _) (show 0 < (1 : Nat) by omega)) ?_; simp only [ST.frz, A0.frz, AV.frz, C.frz, Nat.le_refl, List.set_cons_zero, List.set_cons_succ, go_sem, htk, tSets_len, hBl])
   refine aw_le (le_pick [0] rfl rfl) ?_
   (try simp only [List.set_nil, List.take_nil, List.take_zero, List.map_append, go_sem])
   (refine wk1 @tRows_len ?_;(repeat clear hK K);repeat refine kq fun K hK=>?_)
   (refine lst_cons rfl ?_; intro K1 hK1; refine stp_callσ (ids := []) [1] (repeat_fc (-1) R.length h1 hn) rfl rfl (by simp only [go_sem]) (by first | assumption | kernel_rfl) rfl rfl (by (simp only [List.map_append, List.append_nil, go_sem]) <;> rfl) (by (simp only [pkh, rInts, cInts, go_sem]) <;> rfl) ?_ ?_)
   ·rintro _ _ ⟨rfl, rfl⟩; rfl
   rintro _ _ ⟨rfl, rfl⟩
   (simp only [aInts, aSets, rInts, cInts_up, List.append_nil, List.nil_append, List.length_map, go_sem]; refine hK1 _ ?_; clear hK1 K1)
   (refine wk1 (an @tBs_len @hG) ?_;(repeat clear hK K);repeat refine kq fun K hK=>?_)
   refine aw_le (le_nil 10 3 1 ?_) ?_
   ·simp only [go_sem]
   refine aw_le (le_pick [2, 3] rfl rfl) ?_
   (try simp only [List.set_nil, List.take_nil, List.take_zero, List.map_append, go_sem])
   (try simp only [cInts_ren])
   have hGl : ∀ q : Nat, q < R.length → G[q]? = some (G.getD q false) := fun q hq => by rw [List.getD_eq_getElem?_getD, List.getElem?_eq_getElem (by omega)]; rfl
   refine aw_loop (fun x : Nat × List Int × List Nat => { tm := [(5, .a (.c (.t 1 (tSets B)))), (9, .a (.c (.s 0 R.length))), (10, .a (.c (.s 1 x.2.2.length))), (53, .a (.c (.t 1 (tBs G)))), (54, .i R.length), (55, .i x.1)], hp := [.r ⟨3, 1, true, cInts x.2.1⟩, .r ⟨3, 1, true, cInts (x.2.2.map Int.ofNat)⟩], n := 109, pin := 0 }) (fun x => x.1 ≤ R.length ∧ Bq (Adj true R) R.length (fun g => G.getD g false = true) x.2.1 x.2.2 ∧ (∀ g, g < x.1 → G.getD g false = true → g ∈ x.2.2) ∧ ∀ q ∈ x.2.2, q < x.1) (fun x => R.length - x.1) (0, List.replicate R.length (-1), []) ?_ ?_ ?_
   ·exact ⟨by simp, Bq.start _ _ _, by simp, by simp⟩
   ·simp only [List.map_nil, List.length_nil, cInts]
    exact lmz
   ·rintro ⟨k, O, Q⟩ ⟨hk, hq, hgo, hqk⟩ K hK
    simp only at hk hq hgo hqk
    have hQl := hq.qlen
    have hOl := hq.len
    by_cases hlt : k < R.length
    ·have d1 : decide ((k : Int) < (R.length : Int)) = true := by simpa using hlt
     have gb := tBs_get (hGl k hlt)
     cases hb : G.getD k false with
     | true =>
      rw [hb] at gb
      have hnk : k ∉ Q := fun h => by have := hqk k h; omega
      (refine wk1 @d1 ?_;(repeat clear hK K);repeat refine kq fun K hK=>?_)
      refine cxz ?_
      (refine wk1 (an @tBs_len (an @hG @gb)) ?_;(repeat clear hK K);repeat refine kq fun K hK=>?_)
      refine cxz ?_
      (refine wks1 (an @cInts_len (an @hOl (an @cInts_set (an @List.length_map.{0, 0} (an @List.set_cons_zero.{0} (an @List.set_cons_succ.{0} (an @List.take_succ_cons.{0} (an @List.take_zero.{0} (an @List.drop_zero.{0} (an @List.length_take.{0} (an @List.length_drop.{0} (an @List.length_append.{0} (an @tInts_len (an @tInts_take (an @tInts_drop (an @tInts_c (an @cInts_len (an @cInts_one (an @cInts_snoc (an @cInts_app (an @cInts_take @cInts_drop))))))))))))))))))))) ?_;(repeat clear hK K);repeat refine kq fun K hK=>?_)
      refine rnz ?_
      refine hK _ (k + 1, O.set k 0, Q ++ [k]) ⟨by simp only; omega, hq.push hlt hnk (by omega) (by omega) ⟨k, hlt, hb, .refl k⟩, fun g hg1 hg2 => ?_, fun q hq1 => ?_⟩ (by simp only; omega) ?_
      ·rcases Nat.lt_or_ge g k with h | h
       ·exact List.mem_append_left _ (hgo g h hg2)
       ·have : g = k := by simp only at hg1; omega
        subst this; simp
      ·simp only at hq1 ⊢
       rcases List.mem_append.1 hq1 with h | h
       ·have := hqk q h; omega
       ·simp at h; omega
      ·refine Le.trans (le_pick [0, 3] rfl rfl) ?_
       (try simp only [List.set_nil, List.take_nil, List.take_zero, List.map_append, go_sem])
       (try simp only [cInts_ren])
       have htk : (Q.map Int.ofNat).take Q.length = Q.map Int.ofNat := List.take_of_length_le (by simp)
       simp only [htk, List.map_append, List.map_cons, List.map_nil, List.length_append, List.length_singleton]
       exact lmz
     | false =>
      rw [hb] at gb
      (refine wk1 @d1 ?_;(repeat clear hK K);repeat refine kq fun K hK=>?_)
      refine cxz ?_
      (refine wk1 (an @tBs_len (an @hG @gb)) ?_;(repeat clear hK K);repeat refine kq fun K hK=>?_)
      refine cyz ?_
      (refine wk0 ?_;(repeat clear hK K);repeat refine kq fun K hK=>?_)
      refine rnz ?_
      refine hK _ (k + 1, O, Q) ⟨by simp only; omega, hq, fun g hg1 hg2 => ?_, fun q hq1 => by have := hqk q hq1; simp only; omega⟩ (by simp only; omega) ?_
      ·rcases Nat.lt_or_ge g k with h | h
       ·exact hgo g h hg2
       ·have : g = k := by simp only at hg1; omega
        subst this; rw [hb] at hg2; cases hg2
      ·exact lmz
    ·have d1 : decide ((k : Int) < (R.length : Int)) = false := by simpa using hlt
     have hke : k = R.length := by omega
     rw [hke] at d1 hgo
     rw [hke]
     (refine wk1 @d1 ?_;(repeat clear hK K);repeat refine kq fun K hK=>?_)
     refine cyz ?_
     (refine ekz ?_;repeat clear hK K)
     (refine wk0 ?_;(repeat clear hK K);repeat refine kq fun K hK=>?_)
     refine aw_loop (fun x : Nat × List Int × List Nat => { tm := [(5, .a (.c (.t 1 (tSets B)))), (9, .a (.c (.s 0 R.length))), (10, .a (.c (.s 1 x.2.2.length))), (13, .i x.1)], hp := [.r ⟨3, 1, true, cInts x.2.1⟩, .r ⟨3, 1, true, cInts (x.2.2.map Int.ofNat)⟩], n := 109, pin := 0 }) (fun x => x.1 ≤ x.2.2.length ∧ Bq (Adj true R) R.length (fun g => G.getD g false = true) x.2.1 x.2.2 ∧ (∀ g, g < R.length → G.getD g false = true → g ∈ x.2.2) ∧ ∀ j q, j < x.1 → x.2.2[j]? = some q → ∀ p, p < R.length → q ∈ Adj true R p → p ∈ x.2.2) (fun x => R.length - x.1) (0, O, Q) ?_ ?_ ?_
     ·exact ⟨by simp, hq, hgo, fun j q h => by simp at h⟩
     ·exact lmz
     ·clear hq hgo hqk hQl hOl
      rintro ⟨i, O, Q⟩ ⟨hi, hq, hgo, hpd⟩ K hK
      simp only at hi hq hgo hpd
      have hQl := hq.qlen
      have hOl := hq.len
      by_cases hli : i < Q.length
      ·have d2 : decide ((i : Int) < (Q.length : Int)) = true := by simpa using hli
       have hql := hq.lt _ (List.getElem_mem hli)
       have gq : (cInts (Q.map Int.ofNat))[i]? = some (.v (.int .i64 ((Q[i] : Nat) : Int))) := cInts_get (by rw [List.getElem?_map, List.getElem?_eq_getElem hli]; rfl)
       have hqi := List.getElem?_eq_getElem hli
       generalize Q[i] = q at *
       have gB := tSets_get (List.getElem?_eq_getElem (show q < B.length by omega))
       have hpm := hBm q
       have hgd : B.getD q [] = B[q] := by rw [List.getD_eq_getElem?_getD, List.getElem?_eq_getElem (by omega)]; rfl
       have hpl := totI_row B q
       simp only [hgd] at hpm hpl
       generalize B[q] = pre at *
       (refine wk1 @d2 ?_;(repeat clear hK K);repeat refine kq fun K hK=>?_)
       refine cxz ?_
       (refine wk1 (an @cInts_len (an @List.length_map.{0, 0} (an @gq (an @tSets_len (an @hBl (an @gB @tInts_len)))))) ?_;(repeat clear hK K);repeat refine kq fun K hK=>?_)
       refine aw_loop (fun x : Nat × List Int × List Nat => { tm := [(5, .a (.c (.t 1 (tSets B)))), (9, .a (.c (.s 0 R.length))), (10, .a (.c (.s 1 x.2.2.length))), (13, .i i), (81, .a (.c (.t 1 (tInts pre)))), (82, .i pre.length), (83, .i x.1)], hp := [.r ⟨3, 1, true, cInts x.2.1⟩, .r ⟨3, 1, true, cInts (x.2.2.map Int.ofNat)⟩], n := 109, pin := 0 }) (fun x => x.1 ≤ pre.length ∧ i < x.2.2.length ∧ Bq (Adj true R) R.length (fun g => G.getD g false = true) x.2.1 x.2.2 ∧ (∀ g, g < R.length → G.getD g false = true → g ∈ x.2.2) ∧ (∀ j q, j < i → x.2.2[j]? = some q → ∀ p, p < R.length → q ∈ Adj true R p → p ∈ x.2.2) ∧ x.2.2[i]? = some q ∧ ∀ j (p : Nat), j < x.1 → pre[j]? = some (p : Int) → p ∈ x.2.2) (fun x => pre.length - x.1) (0, O, Q) ?_ ?_ ?_
       ·exact ⟨by simp, hli, hq, hgo, hpd, hqi, fun j p h => by simp at h⟩
       ·exact lmz
       ·clear hq hgo hQl hOl hi hli d2 gq hqi hpd
        rintro ⟨m, O, Q⟩ ⟨hm, hli, hq, hgo, hpd, hqi, hpm2⟩ K hK
        simp only at hm hli hq hgo hpd hqi hpm2
        have hQl := hq.qlen
        have hOl := hq.len
        by_cases hlm : m < pre.length
        ·have d3 : decide ((m : Int) < (pre.length : Int)) = true := by simpa using hlm
         have gp := tInts_get (List.getElem?_eq_getElem hlm)
         obtain ⟨p, hp1, hp2, hp3⟩ := (hpm pre[m]).1 (List.getElem_mem hlm)
         have hpe := List.getElem?_eq_getElem hlm
         rw [hp2] at gp hpe
         have gO : (cInts O)[p]? = some (.v (.int .i64 O[p])) := cInts_get (List.getElem?_eq_getElem (by omega))
         have hOp : fnL O (-1) p = O[p] := fnL_get (by omega)
         have hOq : fnL O (-1) q = O[q] := fnL_get (by omega)
         have hiff := hq.iff p hp1
         have hqm : q ∈ Q := List.mem_of_getElem? hqi
         have h0q := (hq.iff q hql).2 hqm
         have hhq := hq.hi q
         by_cases hneg : O[p] < 0
         ·have d4 : decide (O[p] < 0) = true := by simpa using hneg
          have hnp : p ∉ Q := fun h => by have := hiff.2 h; omega
          have gOq : (cInts O)[q]? = some (.v (.int .i64 O[q])) := cInts_get (List.getElem?_eq_getElem (by omega))
          have gqi : (cInts (Q.map Int.ofNat))[i]? = some (.v (.int .i64 (q : Int))) := cInts_get (by rw [List.getElem?_map, hqi]; rfl)
          have hb1 : O[q] + 1 ≤ 1000001 := by omega
          have hb0 : 0 ≤ O[q] := by omega
          (refine wk1 @d3 ?_;(repeat clear hK K);repeat refine kq fun K hK=>?_)
          refine cxz ?_
          (refine wk1 (an @gp (an @tInts_len (an @cInts_len (an @hOl (an @gO @d4))))) ?_;(repeat clear hK K);repeat refine kq fun K hK=>?_)
          refine cxz ?_
          (refine wks1 (an @cInts_len (an @hOl (an @gOq (an @gqi (an @cInts_set (an @List.length_map.{0, 0} (an @List.set_cons_zero.{0} (an @List.set_cons_succ.{0} (an @List.take_succ_cons.{0} (an @List.take_zero.{0} (an @List.drop_zero.{0} (an @List.length_take.{0} (an @List.length_drop.{0} (an @List.length_append.{0} (an @tInts_len (an @tInts_take (an @tInts_drop (an @tInts_c (an @cInts_len (an @cInts_one (an @cInts_snoc (an @cInts_app (an @cInts_take @cInts_drop))))))))))))))))))))))) ?_;(repeat clear hK K);repeat refine kq fun K hK=>?_)
          refine rnz ?_
          refine hK _ (m + 1, O.set p (O[q] + 1), Q ++ [p]) ⟨by simp only; omega, by simp only [List.length_append, List.length_singleton]; omega, hq.push hp1 hnp (by omega) (by omega) ?_, fun g hg1 hg2 => List.mem_append_left _ (hgo g hg1 hg2), fun j q' hj hj2 r hr hr2 => ?_, ?_, fun j p' hj hj2 => ?_⟩ (by simp only; omega) ?_
          ·obtain ⟨g, g1, g2, g3⟩ := hq.rc q hqm
           exact ⟨g, g1, g2, (Rc.one hp3).trans g3⟩
          ·simp only at hj2
           rw [List.getElem?_append_left (by omega)] at hj2
           exact List.mem_append_left _ (hpd j q' hj hj2 r hr hr2)
          ·simp only
           rw [List.getElem?_append_left hli]
           exact hqi
          ·simp only at hj hj2 ⊢
           by_cases e : j = m
           ·subst e
            rw [hpe] at hj2
            injection hj2 with hj2
            have : p' = p := by omega
            subst this; simp
           ·exact List.mem_append_left _ (hpm2 j p' (by omega) hj2)
          ·refine Le.trans (le_pick [0, 3] rfl rfl) ?_
           (try simp only [List.set_nil, List.take_nil, List.take_zero, List.map_append, go_sem])
           (try simp only [cInts_ren])
           have htk : (Q.map Int.ofNat).take Q.length = Q.map Int.ofNat := List.take_of_length_le (by simp)
           simp only [htk, List.map_append, List.map_cons, List.map_nil, List.length_append, List.length_singleton]
           exact lmz
         ·have d4 : decide (O[p] < 0) = false := by simpa using hneg
          (refine wk1 @d3 ?_;(repeat clear hK K);repeat refine kq fun K hK=>?_)
          refine cxz ?_
          (refine wk1 (an @gp (an @tInts_len (an @cInts_len (an @hOl (an @gO @d4))))) ?_;(repeat clear hK K);repeat refine kq fun K hK=>?_)
          refine cyz ?_
          (refine wk0 ?_;(repeat clear hK K);repeat refine kq fun K hK=>?_)
          refine rnz ?_
          refine hK _ (m + 1, O, Q) ⟨by simp only; omega, hli, hq, hgo, hpd, hqi, fun j p' hj hj2 => ?_⟩ (by simp only; omega) ?_
          ·simp only at hj hj2 ⊢
           by_cases e : j = m
           ·subst e
            rw [hpe] at hj2
            injection hj2 with hj2
            have : p' = p := by omega
            subst this
            exact hiff.1 (by omega)
           ·exact hpm2 j p' (by omega) hj2
          ·exact lmz
        ·have d3 : decide ((m : Int) < (pre.length : Int)) = false := by simpa using hlm
         (refine wk1 @d3 ?_;(repeat clear hK K);repeat refine kq fun K hK=>?_)
         refine cyz ?_
         (refine ekz ?_;repeat clear hK K)
         (refine wk0 ?_;(repeat clear hK K);repeat refine kq fun K hK=>?_)
         refine rnz ?_
         refine hK _ (i + 1, O, Q) ⟨by simp only; omega, hq, hgo, fun j q' hj hj2 p hp1 hp2 => ?_⟩ (by simp only; omega) ?_
         ·simp only at hj hj2 ⊢
          by_cases e : j = i
          ·subst e
           rw [hqi] at hj2
           injection hj2 with hj2
           subst hj2
           have hin := (hpm (p : Int)).2 ⟨p, hp1, rfl, hp2⟩
           obtain ⟨j2, hj3⟩ := List.mem_iff_getElem?.1 hin
           exact hpm2 j2 p (by have := (List.getElem?_eq_some_iff.1 hj3).1; omega) hj3
          ·exact hpd j q' (by omega) hj2 p hp1 hp2
         ·exact lmz
      ·have d2 : decide ((i : Int) < (Q.length : Int)) = false := by simpa using hli
       (refine wk1 @d2 ?_;(repeat clear hK K);repeat refine kq fun K hK=>?_)
       refine cyz ?_
       (refine ekz ?_;repeat clear hK K)
       (refine wk0 ?_;(repeat clear hK K);repeat refine kq fun K hK=>?_)
       refine rp1 [0] Tryz.results78 @cInts_ren ?_
       refine ⟨O, ⟨hOl, fun s hs => hq.done hE hgo (fun q hqm p hp1 hp2 => ?_) hs⟩, rfl⟩
       obtain ⟨j, hj⟩ := List.mem_iff_getElem?.1 hqm
       exact hpd j q (by have := (List.getElem?_eq_some_iff.1 hj).1; omega) hj p hp1 hp2
theorem FC.frzP {P : Program} {f : FuncId} {args : List AV} {e k : Nat} {α : Type} {n : α → Nat} {p : α → Prop} {cs : α → List C} {ts : α → List Tr} (h : FC P f args [] (fun r o => ∃ x, p x ∧ r = .a (.c (.s 0 (n x))) ∧ o = [.r ⟨e, k, true, cs x⟩])) (hz : ∀ x, Fz (cs x) (ts x)) (hk : 0 < k) (hn : ∀ x, p x → n x * k = (ts x).length) :
  FC P f args [] (fun r o => ∃ x, p x ∧ o = [] ∧ r = .a (.c (.t k (ts x)))) := by
 intro g w vals hr ha
 refine (h g w vals hr ha).mono ?_
 rintro x w' ⟨v, r, outs, g', rfl, ⟨y, hy, rfl, rfl⟩, h1, h2, h3, h4, h5⟩
 have hn := hn y hy
 have hz := hz y
 have hR : RelG g' (LiveB [] g) w { tm := [(0, .a (.c (.s 0 (n y))))], hp := [.r ⟨e, k, true, cs y⟩], n := 1, pin := 0 } { tmps := #[v], defers := [] } w' := by
  refine ⟨h1, h3, fun d => ?_, rfl, rfl, h5⟩
  simp only [ST.get, look]
  split
  ·rename_i hd; subst hd; exact h4
  ·trivial
 have hF := hR.freeze (id := 0) (r := ⟨e, k, true, cs y⟩) rfl hz hk
 have hv := hF.tm 0
 have e0 : (ST.frz { tm := [(0, .a (.c (.s 0 (n y))))], hp := [.r ⟨e, k, true, cs y⟩], n := 1, pin := 0 } 0 k (ts y)).get 0 = .a (.c (.t k (ts y))) := by
  simp only [ST.frz, ST.get, look, List.map_cons, List.map_nil, AV.frz, A0.frz, C.frz, if_true, hn, Nat.le_refl, List.take_length]
 rw [show (({ tm := [(0, .a (.c (.s 0 (n y))))], hp := [.r ⟨e, k, true, cs y⟩], n := 1, pin := 0 } : ST).frz 0 (⟨e, k, true, cs y⟩ : Row).k (ts y)).get 0 = .a (.c (.t k (ts y))) from e0] at hv
 have hp := hF.hr.pk (ρ := []) (M := g'.M) (fun b hb => .inl hb) hF.hr.ml (fun ℓ hl => by
  cases ℓ with
  | ob i => rcases hl with ⟨r, e1, _⟩ | ⟨kv, e1⟩ <;> simp [pkh] at e1
  | cl i j => obtain ⟨r, _, _, e1, _⟩ := hl; simp [pkh] at e1) rfl
 have hv2 := AVR.ren (ρ := []) (M := g'.M) (fun b hb => .inl hb) hv
 refine ⟨v, .a (.c (.t k (ts y))), [], _, rfl, ⟨y, hy, rfl, rfl⟩, hp, ⟨Nat.le_refl _, h2.2.1, fun i hi => by simp at hi⟩, fun ℓ hl => ?_, hv2, h5⟩
 cases ℓ with
 | ob i => rcases hl with ⟨r, e1, _⟩ | ⟨kv, e1⟩ <;> simp at e1
 | cl i j => obtain ⟨r, _, _, e1, _⟩ := hl; simp at e1
theorem distT_fc (R : List (List Ar)) (G : List Bool) (hlo : looB R = true) (hG : G.length = R.length) (hn : R.length ≤ 1000000) (hr : ∀ r ∈ R, r.length ≤ 1000000) : FC Tryz.prog 78 [aLts R, .a (.c (.t 1 (tBs G)))] [] (fun r o => ∃ O : List Int, (O.length = R.length ∧ ∀ s, s < R.length → (0 ≤ fnL O (-1) s ↔ ∃ g, g < R.length ∧ G.getD g false = true ∧ Rc (Adj true R) s g)) ∧ o = [] ∧ r = .a (.c (.t 1 (tInts O)))) :=
 (dist_fc R G hlo hG hn hr).frzP (fun O => fz_c O) (by omega) (fun O h => by rw [tInts_len]; have := h.1; omega)
theorem compT_fc (R : List (List Ar)) (t : Bool) (hv : valB R = true) (h1 : 1 ≤ R.length) (hn : R.length ≤ 1000000) (hr : ∀ r ∈ R, r.length ≤ 1000000) : FC Tryz.prog 50 [aLts R, .b t] [] (fun r o => ∃ D : List Int, (D.length = R.length ∧ ∀ v, v < R.length → Least (Adj t R) v (fnL D (-1) v)) ∧ o = [] ∧ r = .a (.c (.t 1 (tInts D)))) :=
 ((comp_fc R t hv h1 hn hr).mono fun r o ⟨D, h1, h2, h3, h4⟩ => ⟨D, ⟨h1, h2⟩, h4, h3⟩).frzP (fun D => fz_c D) (by omega) (fun D h => by rw [tInts_len]; have := h.1; omega)
def dsL (O : List Int) (k : Nat) : List Bool := (List.range k).map fun s => decide (fnL O (-1) s ≥ 0)
theorem dsL_len (O : List Int) (k : Nat) : (dsL O k).length = k := by simp [dsL]
def dsB (O : List Int) (n k : Nat) : List Bool := dsL O k ++ List.replicate (n - k) false
theorem dsB_len {O : List Int} {n k : Nat} (h : k ≤ n) : (dsB O n k).length = n := by simp [dsB, dsL_len]; omega
theorem dsB_set {O : List Int} {n k : Nat} (h : k < n) (hO : k < O.length) : (dsB O n k).set k (decide (O[k] ≥ 0)) = dsB O n (k + 1) := by
 obtain ⟨m, hm⟩ : ∃ m, n - k = m + 1 := ⟨n - k - 1, by omega⟩
 have hm2 : n - (k + 1) = m := by omega
 have hl := dsL_len O k
 have hOk : fnL O (-1) k = O[k] := fnL_get hO
 unfold dsB
 rw [hm, hm2, List.replicate_succ, List.set_append_right _ _ (by omega), hl, Nat.sub_self, List.set_cons_zero]
 simp [dsL, List.range_succ, hOk]
theorem dsB_end (O : List Int) (n : Nat) : dsB O n n = dsL O n := by simp [dsB]
set_option maxHeartbeats 2000000 in
theorem dvg_fc (R : List (List Ar)) (hv : valB R = true) (hn : R.length ≤ 1000000) (hr : ∀ r ∈ R, r.length ≤ 1000000) : FC Tryz.prog 51 [aLts R] [] (fun r o => ∃ B, DvL R B ∧ r = .a (.c (.s 0 R.length)) ∧ o = [.r ⟨4, 1, true, cBs B⟩]) := by
 refine fc_intro Tryz.func51 rfl (by rw [Tryz.ntmps51]; simp) ?_
 rw [Tryz.ntmps51]
 simp only [enum, aLts]
 have hlo : looB R = true := decide_eq_true (of_decide_eq_true hv).1
 have h1 : 1 ≤ R.length := (of_decide_eq_true hlo).1
 (refine wk0 ?_;(repeat clear hK K);repeat refine kq fun K hK=>?_)
 (refine ckz (valid_fc R (by omega) (fun r h => by have := hr r h; omega)) ?_; intro K1 hK1)
 rintro _ _ ⟨rfl, rfl⟩
 (refine bkz ?_; clear hK1 K1)
 (refine wk1 (an @hv @Bool.not_true) ?_;(repeat clear hK K);repeat refine kq fun K hK=>?_)
 refine cyz ?_
 (refine wk0 ?_;(repeat clear hK K);repeat refine kq fun K hK=>?_)
 (refine aw_regionZ [0] (.m 2 1 3 (.m 1 1 4 (.m 0 1 5 (.a 3 (.a 4 (.a 5 (.m 6 0 0 .e))))))) (by kernel_rfl) (by kernel_rfl) (by intro c st h; simp [ThenA, InBl, Ret] at h) ?_)
 (refine zk0 ?_; repeat clear hK K)
 (refine z_2y rfl rfl rfl ?_; intro K1 hK1; refine yX [] ?_; refine xz [] (compT_fc R true hv h1 hn hr) ?_ ?_)
 ·rintro _ _ ⟨_, _, rfl, rfl⟩ i o hi hl; simp at hl
 rintro _ _ ⟨D, ⟨hD, hL⟩, rfl, rfl⟩
 (refine bkz ?_; clear hK1 K1)
 (refine zk0 ?_; repeat clear hK K)
 (refine z_2y rfl rfl rfl ?_; intro K1 hK1; refine yX [] ?_; refine xz [] (loopT_fc R D hlo hD hn hr) ?_ ?_)
 ·rintro _ _ ⟨rfl, rfl⟩ i o hi hl; simp at hl
 rintro _ _ ⟨rfl, rfl⟩
 (refine bkz ?_; clear hK1 K1)
 (refine zk0 ?_; repeat clear hK K)
 (refine z_2y rfl rfl rfl ?_; intro K1 hK1; refine yX [] ?_; refine xz [] (distT_fc R (lpL R D R.length) hlo (lpL_len _ _ _) hn hr) ?_ ?_)
 ·rintro _ _ ⟨_, _, rfl, rfl⟩ i o hi hl; simp at hl
 rintro _ _ ⟨O, ⟨hO, hOi⟩, rfl, rfl⟩
 (refine bkz ?_; clear hK1 K1)
 (refine zk0 ?_; repeat clear hK K)
 (refine wk1 @tRows_len ?_;(repeat clear hK K);repeat refine kq fun K hK=>?_)
 have e0 : List.replicate R.length (C.v (.bool false)) = cBs (dsB O R.length 0) := by simp [cBs, dsL, dsB]
 rw [e0]
 refine aw_loop (fun k : Nat => { tm := [(3, .a (.c (.t 1 (tInts O)))), (4, .a (.c (.s 1 R.length))), (20, .i R.length), (21, .i k)], hp := [.r ⟨25, 1, false, [.t 1 (tRows R)]⟩, .r ⟨4, 1, true, cBs (dsB O R.length k)⟩], n := 34, pin := 0 }) (fun k => k ≤ R.length) (fun k => R.length - k) 0 ?_ ?_ ?_
 ·omega
 ·exact lmz
 ·rintro k hk K hK
  by_cases hlt : k < R.length
  ·have d1 : decide ((k : Int) < (R.length : Int)) = true := by simpa using hlt
   have gO := tInts_get (List.getElem?_eq_getElem (show k < O.length by omega))
   have hOk : fnL O (-1) k = O[k] := fnL_get (by omega)
   have hbl := dsB_len (O := O) hk
   have hset := dsB_set hlt (show k < O.length by omega)
   (refine wk1 @d1 ?_;(repeat clear hK K);repeat refine kq fun K hK=>?_)
   refine cxz ?_
   (refine wks1 (an @tInts_len (an @hO (an @gO (an @cBs_len (an @hbl (an @cBs_set @hset)))))) ?_;(repeat clear hK K);repeat refine kq fun K hK=>?_)
   refine rnz ?_
   refine hK _ (k + 1) (by omega) (by omega) ?_
   exact lmz
  ·have d1 : decide ((k : Int) < (R.length : Int)) = false := by simpa using hlt
   have hke : k = R.length := by omega
   rw [hke] at d1
   rw [hke, dsB_end]
   (refine wk1 @d1 ?_;(repeat clear hK K);repeat refine kq fun K hK=>?_)
   refine cyz ?_
   (refine ekz ?_;repeat clear hK K)
   (refine wk0 ?_;(repeat clear hK K);repeat refine kq fun K hK=>?_)
   refine rp1 [1] Tryz.results51 @cBs_ren ?_
   refine ⟨_, ⟨dsL_len _ _, fun s hs => ?_⟩, rfl⟩
   have hgo : (dsL O R.length).getD s false = decide (fnL O (-1) s ≥ 0) := by simp [dsL, List.getD_eq_getElem?_getD, hs]
   rw [hgo, decide_eq_true_iff]
   show 0 ≤ fnL O (-1) s ↔ _
   rw [hOi s hs]
   constructor
   ·rintro ⟨g, g1, g2, g3⟩
    exact ⟨g, g3, (lpL_iff hlo hD hL g1).1 g2⟩
   ·rintro ⟨g, g3, g4⟩
    have g1 := g3.lt hs (adj_lt true hlo)
    exact ⟨g, g1, (lpL_iff hlo hD hL g1).2 g4, g3⟩
theorem dvgT_fc (R : List (List Ar)) (hv : valB R = true) (hn : R.length ≤ 1000000) (hr : ∀ r ∈ R, r.length ≤ 1000000) : FC Tryz.prog 51 [aLts R] [] (fun r o => ∃ B, DvL R B ∧ o = [] ∧ r = .a (.c (.t 1 (tBs B)))) :=
 (dvg_fc R hv hn hr).frzP (fun B => fz_bs B) (by omega) (fun B h => by rw [tBs_len]; have := h.1; omega)
theorem canGo_ext {A B : List (List Ar)} (h : ∀ i, rowOf (A.getD i []) = rowOf (B.getD i [])) : ∀ (f i : Nat) (num old : List Int) (out : List (List Ar)), canGo A f i num old out = canGo B f i num old out := by
 intro f
 induction f with
 | zero => intro i num old out; rfl
 | succ f ih =>
  intro i num old out
  unfold canGo
  split
  ·rfl
  ·rw [h, ih]
theorem canonR_ext {A B : List (List Ar)} (hl : A.length = B.length) (h : ∀ i, rowOf (A.getD i []) = rowOf (B.getD i [])) : canonR A = canonR B := by
 unfold canonR
 rw [hl]
 exact canGo_ext h _ _ _ _ _
def tiA (f : Nat → Nat) (c : Nat) (o : List (List Ar)) (a : Ar) : List (List Ar) := o.set c (insA (a.1, (f a.2.toNat : Int)) (o.getD c []))
def tiRow (f : Nat → Nat) (c : Nat) (o : List (List Ar)) (row : List Ar) : List (List Ar) := row.foldl (tiA f c) o
theorem tiA_len (f : Nat → Nat) (c : Nat) (o : List (List Ar)) (a : Ar) : (tiA f c o a).length = o.length := by simp [tiA]
def SameS (o p : List (List Ar)) : Prop := o.length = p.length ∧ ∀ i a, a ∈ o.getD i [] ↔ a ∈ p.getD i []
theorem SameS.one {f : Nat → Nat} {c : Nat} {o p : List (List Ar)} (h : SameS o p) (a : Ar) : SameS (tiA f c o a) (tlA f c p a) := by
 refine ⟨by rw [tiA_len, tlA_len]; exact h.1, fun i b => ?_⟩
 have h1 := h.1
 unfold tiA tlA
 simp only [List.getD_eq_getElem?_getD, List.getElem?_set]
 by_cases hi : c = i
 ·subst hi
  by_cases hc : c < o.length
  ·have h2 := h.2 c b
   simp only [List.getD_eq_getElem?_getD] at h2
   rw [if_pos rfl, if_pos hc, if_pos rfl, if_pos (by omega)]
   simp only [Option.getD_some, mem_insA, List.mem_append, List.mem_singleton, h2, or_comm]
  ·rw [if_pos rfl, if_neg hc, if_pos rfl, if_neg (by omega)]
 ·rw [if_neg hi, if_neg hi]
  have h2 := h.2 i b
  simpa only [List.getD_eq_getElem?_getD] using h2
theorem SameS.row {f : Nat → Nat} {c : Nat} : ∀ (row : List Ar) {o p : List (List Ar)}, SameS o p → SameS (tiRow f c o row) (tlRow f c p row)
 | [], _, _, h => h
 | a :: r, _, _, h => SameS.row r (h.one a)
def NumSur (num old : List Int) : Prop := ∀ (j : Nat) (s : Int), old[j]? = some s → 0 ≤ s ∧ num[s.toNat]? = some (j : Int)
theorem NumSur.one {num old : List Int} (h : NumSur num old) {t : Int} (h0 : 0 ≤ t) (h1 : t < num.length) : NumSur (numOne num old t).1 (numOne num old t).2 := by
 have htl : t.toNat < num.length := by omega
 unfold numOne
 split
 ·rename_i hneg
  intro j s hs
  simp only at hs ⊢
  rcases Nat.lt_or_ge j old.length with hj | hj
  ·rw [List.getElem?_append_left hj] at hs
   obtain ⟨q1, q2⟩ := h j s hs
   refine ⟨q1, ?_⟩
   rw [List.getElem?_set, if_neg, q2]
   intro e
   rw [e, List.getD_eq_getElem?_getD, q2, Option.getD_some] at hneg
   omega
  ·rw [List.getElem?_append_right hj] at hs
   have hj' : j = old.length := by
    have := (List.getElem?_eq_some_iff.1 hs).1
    simp at this
    omega
   subst hj'
   simp at hs
   subst hs
   exact ⟨h0, by rw [List.getElem?_set, if_pos rfl, if_pos htl]⟩
 ·exact h
theorem numL_sur (r : List Ar) {num old : List Int} (hr : ∀ a ∈ r, 0 ≤ a.2 ∧ a.2 < num.length) (h : NumSur num old) : NumSur (numL r num old).1 (numL r num old).2.1 := by
 induction r generalizing num old with
 | nil => exact h
 | cons a tl ih =>
  have ha := hr a (by simp)
  exact ih (fun b hb => by rw [numOne_len]; exact hr b (by simp [hb])) (h.one ha.1 ha.2)
theorem numOne_old (num old : List Int) (t : Int) {j : Nat} {s : Int} (h : old[j]? = some s) : (numOne num old t).2[j]? = some s := by
 unfold numOne
 split
 ·simp only
  rw [List.getElem?_append_left (List.getElem?_eq_some_iff.1 h).1, h]
 ·exact h
theorem numL_old (r : List Ar) {num old : List Int} {j : Nat} {s : Int} (h : old[j]? = some s) : (numL r num old).2.1[j]? = some s := by
 induction r generalizing num old with
 | nil => exact h
 | cons a tl ih => exact ih (numOne_old num old a.2 h)
theorem numL_grow (r : List Ar) (num old : List Int) : old.length ≤ (numL r num old).2.1.length := by
 rcases Nat.eq_zero_or_pos old.length with h | h
 ·omega
 ·have := numL_old r (num := num) (old := old) (j := old.length - 1) (s := old[old.length - 1]) (List.getElem?_eq_getElem (by omega))
  have := (List.getElem?_eq_some_iff.1 this).1
  omega
theorem NumSur.start {n : Nat} (hn : 0 < n) : NumSur ((List.replicate n (-1)).set 0 0) [0] := by
 intro j s hs
 cases j with
 | succ j => simp at hs
 | zero =>
  simp at hs; subst hs
  exact ⟨by omega, by simp [hn]⟩
theorem totA_setE (V : List (List Ar)) (s : Nat) : totA (V.set s []) + (V.getD s []).length = totA V := by
 induction V generalizing s with
 | nil => simp [totA]
 | cons x r ih =>
  cases s with
  | zero => simp [totA]; omega
  | succ s =>
   have := ih s
   simp only [List.set_cons_succ, List.getD_cons_succ]
   simp only [totA, List.map_cons, List.sum_cons] at this ⊢
   omega
theorem foldIns_sort (l acc : List Ar) (h : SortA acc) : SortA (l.foldl (fun acc a => insA a acc) acc) := by
 induction l generalizing acc with
 | nil => exact h
 | cons a r ih => exact ih _ (insA_sort h)
structure RowsG (n : Nat) (out : List (List Ar)) : Prop where
 so : ∀ r ∈ out, SortA r
 bd : ∀ r ∈ out, ∀ a ∈ r, 0 ≤ a.1 ∧ a.1 ≤ 1025 ∧ 0 ≤ a.2 ∧ a.2 < (n : Int)
theorem RowsG.le {n m : Nat} {out : List (List Ar)} (h : RowsG n out) (hm : n ≤ m) : RowsG m out := ⟨h.so, fun r hr a ha => by have := h.bd r hr a ha; omega⟩
theorem canGo_val {R : List (List Ar)} {B : Nat} (hb : ∀ r ∈ R, ∀ a ∈ r, 0 ≤ a.1 ∧ a.1 ≤ 1025 ∧ 0 ≤ a.2 ∧ a.2 < (R.length : Int)) : ∀ (f i : Nat) (num old : List Int) (out V : List (List Ar)), NumOk R.length num old → NumInj num old → NumSur num old → i = out.length → i ≤ old.length → R.length ≤ f + i →
  RowsG old.length out → V.length = R.length → (∀ s, s < R.length → (∀ j, j < i → old[j]? ≠ some (s : Int)) → V.getD s [] = R.getD s []) → totA out + totA V ≤ B →
  old.length ≤ (canGo R f i num old out).1.length ∧ (canGo R f i num old out).1.length ≤ R.length ∧ RowsG (canGo R f i num old out).1.length (canGo R f i num old out).1 ∧ totA (canGo R f i num old out).1 ≤ B := by
 intro f
 induction f with
 | zero =>
  intro i num old out V hN hI hS hi ho hf hG hVl hV ht
  have hle := hN.le
  simp only [canGo]
  exact ⟨by omega, by omega, hG.le (by omega), by omega⟩
 | succ f ih =>
  intro i num old out V hN hI hS hi ho hf hG hVl hV ht
  have hle := hN.le
  unfold canGo
  split
  ·rename_i hs
   have := List.getElem?_eq_none_iff.1 hs
   exact ⟨by simp only; omega, by simp only; omega, hG.le (by simp only; omega), by simp only; omega⟩
  ·rename_i s hs
   have hs0 := hN.st s (List.mem_of_getElem? hs)
   have hsl : s.toNat < R.length := by omega
   have hil := (List.getElem?_eq_some_iff.1 hs).1
   have hg : R.getD s.toNat [] = R[s.toNat] := by rw [List.getD_eq_getElem?_getD, List.getElem?_eq_getElem hsl]; rfl
   have hrm := List.getElem_mem hsl
   have hVs : V.getD s.toNat [] = R.getD s.toNat [] := hV s.toNat hsl fun j hj he => by
    have e : ((s.toNat : Nat) : Int) = s := by omega
    rw [e] at he
    have q1 := (hS j s he).2
    have q2 := (hS i s hs).2
    rw [q1] at q2
    injection q2 with q2
    omega
   have hts := totA_setE V s.toNat
   rw [hVs, hg] at hts
   rw [hg]
   have hq : ∀ a ∈ rowOf R[s.toNat], 0 ≤ a.2 ∧ a.2 < (num.length : Int) := fun a ha => by
    have := hb _ hrm a ((mem_rowOf _ a).1 ha); rw [hN.len]; omega
   have hqe : ∀ a ∈ rowOf R[s.toNat], 0 ≤ a.1 ∧ a.1 ≤ 1025 := fun a ha => by
    have := hb _ hrm a ((mem_rowOf _ a).1 ha); omega
   have hl3 := len_rowOf R[s.toNat]
   generalize rowOf R[s.toNat] = q at *
   have hN2 := NumOk.go q [] hN (by rw [← hN.len]; exact hq)
   have hn2 := rowGo_numL q num old []
   rw [hn2] at hN2 ⊢
   simp only at hN2 ⊢
   have hI2 := numL_inj q hq hI
   have hS2 := numL_sur q hq hS
   obtain ⟨hm1, hm2⟩ := numL_map (old := old) q hq
   have hgr := numL_grow q num old
   have hold : ∀ (j : Nat) (x : Int), old[j]? = some x → (numL q num old).2.1[j]? = some x := fun j x h => numL_old q h
   have hrow : SortA ((numL q num old).2.2.foldl (fun acc a => insA a acc) []) := foldIns_sort _ _ List.Pairwise.nil
   have hrl := len_foldl_ins (numL q num old).2.2 []
   have hrb : ∀ a ∈ (numL q num old).2.2.foldl (fun acc a => insA a acc) [], 0 ≤ a.1 ∧ a.1 ≤ 1025 ∧ 0 ≤ a.2 ∧ a.2 < ((numL q num old).2.1.length : Int) := fun a ha => by
    rw [mem_foldl_ins] at ha
    rcases ha with ha | ha
    ·simp at ha
    ·rw [hm1] at ha
     obtain ⟨b, hb1, rfl⟩ := List.mem_map.1 ha
     obtain ⟨x, hx, hp⟩ := hm2 b hb1
     have h1 := hqe b hb1
     have h2 := (List.getElem?_eq_some_iff.1 (hI2.inj _ _ hx hp)).1
     simp only [List.getD_eq_getElem?_getD, hx, Option.getD_some]
     omega
   rw [hm1, List.length_map] at hrl
   simp only [List.length_nil, Nat.zero_add] at hrl
   rw [← hm1] at hrl
   generalize (numL q num old).2.2.foldl (fun acc a => insA a acc) [] = nr at *
   generalize (numL q num old).1 = num2 at *
   generalize (numL q num old).2.1 = old2 at *
   obtain ⟨k1, k2, k3, k4⟩ := ih (i + 1) num2 old2 (out ++ [nr]) (V.set s.toNat []) hN2 hI2 hS2 (by simp; omega) (by omega) (by omega) ⟨fun r hr => by
    rcases List.mem_append.1 hr with h | h
    ·exact hG.so r h
    ·simp at h; subst h; exact hrow, fun r hr a ha => by
    rcases List.mem_append.1 hr with h | h
    ·have := hG.bd r h a ha; omega
    ·simp at h; subst h; exact hrb a ha⟩ (by simp [hVl]) (fun t htl hto => by
    have hne : s.toNat ≠ t := fun e => hto i (by omega) (by rw [hold i s hs]; congr 1; omega)
    rw [List.getD_eq_getElem?_getD, List.getElem?_set_ne hne, ← List.getD_eq_getElem?_getD]
    exact hV t htl fun j hj he => hto j (by omega) (hold j _ he)) (by rw [totA_snoc]; omega)
   exact ⟨by omega, k2, k3, k4⟩
def mx1 (m c : Int) : Int := if m < c + 1 then c + 1 else m
def mxI (m : Int) (l : List Int) : Int := l.foldl mx1 m
def nmGo : List Int → Int → Bool
 | [], _ => true
 | c :: r, m => (!decide (c < 0) && !decide (c > m)) && nmGo r (mx1 m c)
def numB (C : List Int) (n : Nat) : Bool := nmGo C 0 && decide (C.length = n)
theorem mxI_snoc (m : Int) (l : List Int) (c : Int) : mxI m (l ++ [c]) = mx1 (mxI m l) c := by unfold mxI; rw [List.foldl_append]; rfl
theorem mxI_ge (l : List Int) : ∀ m : Int, m ≤ mxI m l ∧ ∀ c ∈ l, c + 1 ≤ mxI m l := by
 induction l with
 | nil => intro m; exact ⟨Int.le_refl _, by simp⟩
 | cons a r ih =>
  intro m
  obtain ⟨h1, h2⟩ := ih (mx1 m a)
  have e : mxI m (a :: r) = mxI (mx1 m a) r := rfl
  have h3 : m ≤ mx1 m a ∧ a + 1 ≤ mx1 m a := by unfold mx1; split <;> omega
  rw [e]
  refine ⟨by omega, fun c hc => ?_⟩
  rcases List.mem_cons.1 hc with rfl | hc
  ·omega
  ·exact h2 c hc
theorem mxI_le {n : Nat} (l : List Int) : ∀ m : Int, nmGo l m = true → 0 ≤ m → mxI m l ≤ m + l.length ∧ (∀ c ∈ l, 0 ≤ c) := by
 induction l with
 | nil => intro m _ _; exact ⟨by simp [mxI], by simp⟩
 | cons a r ih =>
  intro m h hm
  simp only [nmGo, Bool.and_eq_true, Bool.not_eq_true', decide_eq_false_iff_not] at h
  obtain ⟨⟨h1, h2⟩, h3⟩ := h
  have h4 : 0 ≤ mx1 m a ∧ mx1 m a ≤ m + 1 := by unfold mx1; split <;> omega
  obtain ⟨q1, q2⟩ := ih (mx1 m a) h3 h4.1
  have e : mxI m (a :: r) = mxI (mx1 m a) r := rfl
  rw [e]
  refine ⟨by simp only [List.length_cons]; omega, fun c hc => ?_⟩
  rcases List.mem_cons.1 hc with rfl | hc
  ·omega
  ·exact q2 c hc
def maxL (x : Int) (l : List Int) : Int := l.foldl (fun a b => if a < b then b else a) x
theorem maxL_snoc (x : Int) (l : List Int) (y : Int) : maxL x (l ++ [y]) = if maxL x l < y then y else maxL x l := by unfold maxL; rw [List.foldl_append]; rfl
theorem mxI_max (l : List Int) : ∀ x : Int, mxI (x + 1) l = maxL x l + 1 := by
 induction l with
 | nil => intro x; rfl
 | cons a r ih =>
  intro x
  have e : mx1 (x + 1) a = (if x < a then a else x) + 1 := by unfold mx1; split <;> split <;> omega
  show mxI (mx1 (x + 1) a) r = maxL (if x < a then a else x) r + 1
  rw [e, ih]
theorem mxI_cons {x : Int} (l : List Int) (h : 0 ≤ x) : mxI 0 (x :: l) = maxL x (x :: l) + 1 := by
 have e1 : mx1 0 x = x + 1 := by unfold mx1; rw [if_pos (by omega)]
 have e2 : maxL x (x :: l) = maxL x l := by show maxL (if x < x then x else x) l = _; simp
 rw [e2, ← mxI_max, ← e1]; rfl
def clf (C : List Int) (v : Nat) : Nat := (C.getD v 0).toNat
def mxN (C : List Int) : Nat := (mxI 0 C).toNat
theorem num_ok {C : List Int} {n : Nat} (h : numB C n = true) : C.length = n ∧ mxN C ≤ n ∧ (∀ v, v < n → clf C v < mxN C ∧ C[v]? = some ((clf C v : Nat) : Int)) ∧ mxI 0 C = (mxN C : Int) := by
 simp only [numB, Bool.and_eq_true, decide_eq_true_eq] at h
 obtain ⟨h1, h2⟩ := h
 obtain ⟨q1, q2⟩ := mxI_le (n := n) C 0 h1 (Int.le_refl _)
 obtain ⟨p1, p2⟩ := mxI_ge C 0
 refine ⟨h2, by unfold mxN; omega, fun v hv => ?_, by unfold mxN; omega⟩
 have hl : v < C.length := by omega
 have a1 := q2 _ (List.getElem_mem hl)
 have a2 := p2 _ (List.getElem_mem hl)
 unfold clf mxN
 rw [List.getD_eq_getElem?_getD, List.getElem?_eq_getElem hl, Option.getD_some]
 refine ⟨by omega, by congr 1; omega⟩
def qp1 (f : Nat → Nat) (c : Nat) (a : Ar) : Option Ar := if a.1 ≠ 0 ∨ f a.2.toNat ≠ c then some (a.1, (f a.2.toNat : Int)) else none
def pushO (x : Option Ar) (c : Nat) (o : List (List Ar)) : List (List Ar) := match x with | some b => o.set c (o.getD c [] ++ [b]) | none => o
def insO (x : Option Ar) (c : Nat) (o : List (List Ar)) : List (List Ar) := match x with | some b => o.set c (insA b (o.getD c [])) | none => o
def qpRow (f : Nat → Nat) (c : Nat) (o : List (List Ar)) (row : List Ar) : List (List Ar) := row.foldl (fun o a => pushO (qp1 f c a) c o) o
def qpOut (f : Nat → Nat) (m : Nat) (R : List (List Ar)) : Nat → List (List Ar)
 | 0 => List.replicate m []
 | k + 1 => qpRow f (f k) (qpOut f m R k) (R.getD k [])
def qiRow (f : Nat → Nat) (c : Nat) (o : List (List Ar)) (row : List Ar) : List (List Ar) := row.foldl (fun o a => insO (qp1 f c a) c o) o
def lpO (b : Bool) (c : Nat) : Option Ar := if b then some (0, (c : Int)) else none
def qiOut (f : Nat → Nat) (m : Nat) (R : List (List Ar)) (B : List Bool) : Nat → List (List Ar)
 | 0 => List.replicate m []
 | k + 1 => insO (lpO (B.getD k false) (f k)) (f k) (qiRow f (f k) (qiOut f m R B k) (R.getD k []))
def lcL (f : Nat → Nat) (m : Nat) (B : List Bool) (k : Nat) : List Bool := (List.range m).map fun c => (List.range k).any fun s => decide (f s = c) && B.getD s false
def qlOut (L : List Bool) (o : List (List Ar)) : Nat → List (List Ar)
 | 0 => o
 | c + 1 => pushO (lpO (L.getD c false) c) c (qlOut L o c)
def qR (R : List (List Ar)) (C : List Int) (B : List Bool) : List (List Ar) := qlOut (lcL (clf C) (mxN C) B R.length) (qpOut (clf C) (mxN C) R R.length) (mxN C)
theorem pushO_len (x : Option Ar) (c : Nat) (o : List (List Ar)) : (pushO x c o).length = o.length := by cases x <;> simp [pushO]
theorem insO_len (x : Option Ar) (c : Nat) (o : List (List Ar)) : (insO x c o).length = o.length := by cases x <;> simp [insO]
theorem qpRow_len (f : Nat → Nat) (c : Nat) (row : List Ar) : ∀ o, (qpRow f c o row).length = o.length := by
 induction row with
 | nil => intro o; rfl
 | cons a r ih => intro o; show (qpRow f c (pushO (qp1 f c a) c o) r).length = _; rw [ih, pushO_len]
theorem qpOut_len (f : Nat → Nat) (m : Nat) (R : List (List Ar)) (k : Nat) : (qpOut f m R k).length = m := by
 induction k with
 | zero => simp [qpOut]
 | succ k ih => rw [qpOut, qpRow_len, ih]
theorem qiRow_len (f : Nat → Nat) (c : Nat) (row : List Ar) : ∀ o, (qiRow f c o row).length = o.length := by
 induction row with
 | nil => intro o; rfl
 | cons a r ih => intro o; show (qiRow f c (insO (qp1 f c a) c o) r).length = _; rw [ih, insO_len]
theorem qiOut_len (f : Nat → Nat) (m : Nat) (R : List (List Ar)) (B : List Bool) (k : Nat) : (qiOut f m R B k).length = m := by
 induction k with
 | zero => simp [qiOut]
 | succ k ih => rw [qiOut, insO_len, qiRow_len, ih]
theorem qlOut_len (L : List Bool) (o : List (List Ar)) (k : Nat) : (qlOut L o k).length = o.length := by
 induction k with
 | zero => rfl
 | succ k ih => rw [qlOut, pushO_len, ih]
theorem qpRow_snoc (f : Nat → Nat) (c : Nat) (o : List (List Ar)) (row : List Ar) (a : Ar) : qpRow f c o (row ++ [a]) = pushO (qp1 f c a) c (qpRow f c o row) := by unfold qpRow; rw [List.foldl_append]; rfl
theorem qiRow_snoc (f : Nat → Nat) (c : Nat) (o : List (List Ar)) (row : List Ar) (a : Ar) : qiRow f c o (row ++ [a]) = insO (qp1 f c a) c (qiRow f c o row) := by unfold qiRow; rw [List.foldl_append]; rfl
theorem mem_pushO {x : Option Ar} {c d : Nat} {o : List (List Ar)} {a : Ar} (h : c < o.length) : a ∈ (pushO x c o).getD d [] ↔ a ∈ o.getD d [] ∨ (d = c ∧ x = some a) := by
 cases x with
 | none => simp [pushO]
 | some b =>
  unfold pushO
  simp only
  rw [List.getD_eq_getElem?_getD]
  by_cases e : c = d
  ·subst e
   rw [List.getElem?_set_self h, Option.getD_some, List.mem_append]
   simp [eq_comm]
  ·rw [List.getElem?_set_ne e, ← List.getD_eq_getElem?_getD]
   simp [Ne.symm e]
theorem mem_insO {x : Option Ar} {c d : Nat} {o : List (List Ar)} {a : Ar} (h : c < o.length) : a ∈ (insO x c o).getD d [] ↔ a ∈ o.getD d [] ∨ (d = c ∧ x = some a) := by
 cases x with
 | none => simp [insO]
 | some b =>
  unfold insO
  simp only
  rw [List.getD_eq_getElem?_getD]
  by_cases e : c = d
  ·subst e
   rw [List.getElem?_set_self h, Option.getD_some, mem_insA]
   simp [eq_comm, or_comm]
  ·rw [List.getElem?_set_ne e, ← List.getD_eq_getElem?_getD]
   simp [Ne.symm e]
theorem mem_qpRow {f : Nat → Nat} {c d : Nat} {a : Ar} : ∀ (row : List Ar) (o : List (List Ar)), c < o.length → (a ∈ (qpRow f c o row).getD d [] ↔ a ∈ o.getD d [] ∨ (d = c ∧ ∃ b ∈ row, qp1 f c b = some a)) := by
 intro row
 induction row with
 | nil => intro o _; simp [qpRow]
 | cons b r ih =>
  intro o h
  show a ∈ (qpRow f c (pushO (qp1 f c b) c o) r).getD d [] ↔ _
  rw [ih _ (by rw [pushO_len]; exact h), mem_pushO h]
  simp only [List.mem_cons, exists_eq_or_imp]
  rw [or_assoc, ← and_or_left]
theorem mem_qiRow {f : Nat → Nat} {c d : Nat} {a : Ar} : ∀ (row : List Ar) (o : List (List Ar)), c < o.length → (a ∈ (qiRow f c o row).getD d [] ↔ a ∈ o.getD d [] ∨ (d = c ∧ ∃ b ∈ row, qp1 f c b = some a)) := by
 intro row
 induction row with
 | nil => intro o _; simp [qiRow]
 | cons b r ih =>
  intro o h
  show a ∈ (qiRow f c (insO (qp1 f c b) c o) r).getD d [] ↔ _
  rw [ih _ (by rw [insO_len]; exact h), mem_insO h]
  simp only [List.mem_cons, exists_eq_or_imp]
  rw [or_assoc, ← and_or_left]
def QA (R : List (List Ar)) (f : Nat → Nat) (k d : Nat) (a : Ar) : Prop := ∃ s, s < k ∧ f s = d ∧ ∃ b ∈ R.getD s [], qp1 f d b = some a
def QL (f : Nat → Nat) (B : List Bool) (k d : Nat) (a : Ar) : Prop := a = (0, (d : Int)) ∧ ∃ s, s < k ∧ f s = d ∧ B.getD s false = true
theorem QA.succ {R : List (List Ar)} {f : Nat → Nat} {k d : Nat} {a : Ar} : QA R f (k + 1) d a ↔ QA R f k d a ∨ (d = f k ∧ ∃ b ∈ R.getD k [], qp1 f (f k) b = some a) := by
 constructor
 ·rintro ⟨s, h1, h2, h3⟩
  by_cases e : s = k
  ·subst e; subst h2; exact .inr ⟨rfl, h3⟩
  ·exact .inl ⟨s, by omega, h2, h3⟩
 ·rintro (⟨s, h1, h2, h3⟩ | ⟨rfl, h3⟩)
  ·exact ⟨s, by omega, h2, h3⟩
  ·exact ⟨k, by omega, rfl, h3⟩
theorem QL.succ {f : Nat → Nat} {B : List Bool} {k d : Nat} {a : Ar} : QL f B (k + 1) d a ↔ QL f B k d a ∨ (d = f k ∧ lpO (B.getD k false) (f k) = some a) := by
 unfold QL lpO
 constructor
 ·rintro ⟨h0, s, h1, h2, h3⟩
  by_cases e : s = k
  ·subst e; subst h2; exact .inr ⟨rfl, by rw [if_pos h3, h0]⟩
  ·exact .inl ⟨h0, s, by omega, h2, h3⟩
 ·rintro (⟨h0, s, h1, h2, h3⟩ | ⟨rfl, h3⟩)
  ·exact ⟨h0, s, by omega, h2, h3⟩
  ·split at h3
   ·rename_i hb
    injection h3 with h3
    exact ⟨h3.symm, k, by omega, rfl, hb⟩
   ·cases h3
theorem getD_rep {m d : Nat} : (List.replicate m ([] : List Ar)).getD d [] = [] := by
 rw [List.getD_eq_getElem?_getD, List.getElem?_replicate]; split <;> rfl
theorem mem_qpOut {f : Nat → Nat} {m d : Nat} {R : List (List Ar)} {a : Ar} {n : Nat} (hf : ∀ v, v < n → f v < m) : ∀ k, k ≤ n → (a ∈ (qpOut f m R k).getD d [] ↔ QA R f k d a) := by
 intro k
 induction k with
 | zero => intro _; rw [qpOut, getD_rep]; simp [QA]
 | succ k ih =>
  intro hk
  rw [qpOut, mem_qpRow _ _ (by rw [qpOut_len]; exact hf k hk), ih (by omega), QA.succ]
theorem mem_qiOut {f : Nat → Nat} {m d : Nat} {R : List (List Ar)} {B : List Bool} {a : Ar} {n : Nat} (hf : ∀ v, v < n → f v < m) : ∀ k, k ≤ n → (a ∈ (qiOut f m R B k).getD d [] ↔ QA R f k d a ∨ QL f B k d a) := by
 intro k
 induction k with
 | zero => intro _; rw [qiOut, getD_rep]; simp [QA, QL]
 | succ k ih =>
  intro hk
  have hfk := hf k hk
  rw [qiOut, mem_insO (by rw [qiRow_len, qiOut_len]; exact hfk), mem_qiRow _ _ (by rw [qiOut_len]; exact hfk), ih (by omega), QA.succ, QL.succ]
  constructor
  ·rintro (((h | h) | h) | h)
   ·exact .inl (.inl h)
   ·exact .inr (.inl h)
   ·exact .inl (.inr h)
   ·exact .inr (.inr h)
  ·rintro ((h | h) | (h | h))
   ·exact .inl (.inl (.inl h))
   ·exact .inl (.inr h)
   ·exact .inl (.inl (.inr h))
   ·exact .inr h
theorem mem_qlOut {L : List Bool} {d : Nat} {o : List (List Ar)} {a : Ar} : ∀ k, k ≤ o.length → (a ∈ (qlOut L o k).getD d [] ↔ a ∈ o.getD d [] ∨ (d < k ∧ L.getD d false = true ∧ a = (0, (d : Int)))) := by
 intro k
 induction k with
 | zero => intro _; simp [qlOut]
 | succ k ih =>
  intro hk
  rw [qlOut, mem_pushO (by rw [qlOut_len]; exact hk), ih (by omega)]
  unfold lpO
  constructor
  ·rintro ((h | ⟨h1, h2, h3⟩) | ⟨rfl, h2⟩)
   ·exact .inl h
   ·exact .inr ⟨by omega, h2, h3⟩
   ·split at h2
    ·rename_i hb; injection h2 with h2; exact .inr ⟨by omega, hb, h2.symm⟩
    ·cases h2
  ·rintro (h | ⟨h1, h2, h3⟩)
   ·exact .inl (.inl h)
   ·by_cases e : d = k
    ·subst e; exact .inr ⟨rfl, by rw [if_pos h2, h3]⟩
    ·exact .inl (.inr ⟨by omega, h2, h3⟩)
theorem lcL_len (f : Nat → Nat) (m : Nat) (B : List Bool) (k : Nat) : (lcL f m B k).length = m := by simp [lcL]
theorem lcL_get {f : Nat → Nat} {m : Nat} {B : List Bool} {k d : Nat} (hd : d < m) : (lcL f m B k).getD d false = (List.range k).any fun s => decide (f s = d) && B.getD s false := by
 simp [lcL, List.getD_eq_getElem?_getD, hd]
theorem lcL_set {f : Nat → Nat} {m : Nat} {B : List Bool} {k : Nat} (hf : f k < m) : (lcL f m B k).set (f k) ((lcL f m B k).getD (f k) false || B.getD k false) = lcL f m B (k + 1) := by
 have hl := lcL_len f m B k
 refine List.ext_getElem (by simp [lcL]) fun i h1 h2 => ?_
 rw [lcL_len] at h2
 have e2 : (lcL f m B (k + 1))[i]'(by rw [lcL_len]; exact h2) = ((List.range (k + 1)).any fun s => decide (f s = i) && B.getD s false) := by simp [lcL]
 rw [e2, List.range_succ, List.any_append]
 by_cases e : f k = i
 ·subst e
  rw [List.getElem_set_self, lcL_get hf]
  simp
 ·rw [List.getElem_set_ne e]
  have e3 : (lcL f m B k)[i]'(by rw [lcL_len]; exact h2) = ((List.range k).any fun s => decide (f s = i) && B.getD s false) := by simp [lcL]
  rw [e3]
  simp [e]
theorem mem_qR {R : List (List Ar)} {C : List Int} {B : List Bool} (h : numB C R.length = true) {d : Nat} {a : Ar} : a ∈ (qR R C B).getD d [] ↔ QA R (clf C) R.length d a ∨ QL (clf C) B R.length d a := by
 obtain ⟨h1, h2, h3, _⟩ := num_ok h
 have hf : ∀ v, v < R.length → clf C v < mxN C := fun v hv => (h3 v hv).1
 unfold qR
 rw [mem_qlOut _ (by rw [qpOut_len]; exact Nat.le_refl _), mem_qpOut hf _ (Nat.le_refl _)]
 refine or_congr Iff.rfl ?_
 unfold QL
 constructor
 ·rintro ⟨g1, g2, g3⟩
  rw [lcL_get g1, List.any_eq_true] at g2
  obtain ⟨s, hs, hb⟩ := g2
  simp only [Bool.and_eq_true, decide_eq_true_eq] at hb
  exact ⟨g3, s, List.mem_range.1 hs, hb.1, hb.2⟩
 ·rintro ⟨g3, s, hs, rfl, hb⟩
  refine ⟨hf s hs, ?_, g3⟩
  rw [lcL_get (hf s hs), List.any_eq_true]
  exact ⟨s, List.mem_range.2 hs, by simp only [Bool.and_eq_true, decide_eq_true_eq]; exact ⟨trivial, hb⟩⟩
theorem q_canon {R : List (List Ar)} {C : List Int} {B : List Bool} (h : numB C R.length = true) : canonR (qiOut (clf C) (mxN C) R B R.length) = canonR (qR R C B) := by
 have hf : ∀ v, v < R.length → clf C v < mxN C := fun v hv => ((num_ok h).2.2.1 v hv).1
 refine canonR_ext (by rw [qiOut_len]; unfold qR; rw [qlOut_len, qpOut_len]) fun i => rowOf_ext fun a => ?_
 rw [mem_qR h, mem_qiOut hf _ (Nat.le_refl _)]
theorem pushO_tot (x : Option Ar) (c : Nat) (o : List (List Ar)) : totA (pushO x c o) ≤ totA o + 1 := by
 cases x with
 | none => simp [pushO]
 | some b =>
  unfold pushO
  by_cases h : c < o.length
  ·simp only; rw [totA_set o h]; exact Nat.le_refl _
  ·simp only; rw [List.set_eq_of_length_le (by omega)]; omega
theorem qpRow_tot (f : Nat → Nat) (c : Nat) (row : List Ar) : ∀ o, totA (qpRow f c o row) ≤ totA o + row.length := by
 induction row with
 | nil => intro o; exact Nat.le_refl _
 | cons a r ih =>
  intro o
  have h1 := ih (pushO (qp1 f c a) c o)
  have h2 := pushO_tot (qp1 f c a) c o
  show totA (qpRow f c (pushO (qp1 f c a) c o) r) ≤ _
  simp only [List.length_cons]; omega
theorem qpOut_tot (f : Nat → Nat) (m : Nat) (R : List (List Ar)) : ∀ k, k ≤ R.length → totA (qpOut f m R k) ≤ totA (R.take k) := by
 intro k
 induction k with
 | zero => intro _; rw [qpOut, totA_rep]; omega
 | succ k ih =>
  intro hk
  have h1 := ih (by omega)
  have h2 := totA_take (R := R) (k := k) hk
  have h3 := qpRow_tot f (f k) (R.getD k []) (qpOut f m R k)
  have h4 : R.getD k [] = R[k] := by rw [List.getD_eq_getElem?_getD, List.getElem?_eq_getElem hk]; rfl
  rw [qpOut]
  rw [h4] at h3 ⊢
  omega
theorem qlOut_tot (L : List Bool) (o : List (List Ar)) : ∀ k, totA (qlOut L o k) ≤ totA o + k := by
 intro k
 induction k with
 | zero => exact Nat.le_refl _
 | succ k ih =>
  have := pushO_tot (lpO (L.getD k false) k) k (qlOut L o k)
  rw [qlOut]; omega
theorem QA.bd {R : List (List Ar)} {f : Nat → Nat} {m k d : Nat} {a : Ar} (hlo : looB R = true) (hk : k ≤ R.length) (hf : ∀ v, v < R.length → f v < m) (h : QA R f k d a) : 0 ≤ a.1 ∧ a.1 ≤ 1025 ∧ 0 ≤ a.2 ∧ a.2 < (m : Int) := by
 obtain ⟨s, h1, h2, b, hb, h3⟩ := h
 have hs : s < R.length := by omega
 rw [List.getD_eq_getElem?_getD, List.getElem?_eq_getElem hs] at hb
 have hbd := (of_decide_eq_true hlo).2.2.2 _ (List.getElem_mem hs) b hb
 unfold qp1 at h3
 split at h3
 ·injection h3 with h3
  subst h3
  have := hf b.2.toNat (by omega)
  simp only; omega
 ·cases h3
theorem qR_bd {R : List (List Ar)} {C : List Int} {B : List Bool} (hlo : looB R = true) (h : numB C R.length = true) : (qR R C B).length = mxN C ∧ (∀ r ∈ qR R C B, ∀ a ∈ r, 0 ≤ a.1 ∧ a.1 ≤ 1025 ∧ 0 ≤ a.2 ∧ a.2 < ((qR R C B).length : Int)) ∧ totA (qR R C B) ≤ totA R + R.length := by
 obtain ⟨h1, h2, h3, _⟩ := num_ok h
 have hf : ∀ v, v < R.length → clf C v < mxN C := fun v hv => (h3 v hv).1
 have hl : (qR R C B).length = mxN C := by unfold qR; rw [qlOut_len, qpOut_len]
 refine ⟨hl, fun r hr a ha => ?_, ?_⟩
 ·obtain ⟨d, hd, rfl⟩ := List.getElem_of_mem hr
  have hd2 : d < mxN C := by omega
  have ha2 : a ∈ (qR R C B).getD d [] := by rw [List.getD_eq_getElem?_getD, List.getElem?_eq_getElem hd]; exact ha
  rw [hl]
  rcases (mem_qR h).1 ha2 with q | ⟨q, _⟩
  ·exact q.bd hlo (Nat.le_refl _) hf
  ·subst q; simp only; omega
 ·have a1 := qlOut_tot (lcL (clf C) (mxN C) B R.length) (qpOut (clf C) (mxN C) R R.length) (mxN C)
  have a2 := qpOut_tot (clf C) (mxN C) R R.length (Nat.le_refl _)
  rw [List.take_length] at a2
  unfold qR
  omega
theorem nm_step {C : List Int} {k : Nat} (h : k < C.length) {m : Int} : nmGo (C.drop k) m = ((!decide (C[k] < 0) && !decide (C[k] > m)) && nmGo (C.drop (k + 1)) (mx1 m C[k])) := by
 rw [List.drop_eq_getElem_cons h, nmGo]
theorem mx_step {C : List Int} {k : Nat} (h : k < C.length) : mxI 0 (C.take (k + 1)) = mx1 (mxI 0 (C.take k)) C[k] := by
 rw [List.take_succ_eq_append_getElem h, mxI_snoc]
theorem num_fc (C : List Int) (n : Nat) (hC : C.length ≤ 9223372036854775807) : FC Tryz.prog 61 [aInts C, .i n] [] (fun r o => o = [] ∧ r = .b (numB C n)) := by
 refine fc_intro Tryz.func61 rfl (by rw [Tryz.ntmps61]; simp) ?_
 rw [Tryz.ntmps61]
 simp only [enum, aInts]
 (refine wk1 @tInts_len ?_;(repeat clear hK K);repeat refine kq fun K hK=>?_)
 refine aw_loop (fun k : Nat => { tm := [(0, .a (.c (.t 1 (tInts C)))), (1, .i n), (5, .i (mxI 0 (C.take k))), (8, .a (.c (.t 1 (tInts C)))), (9, .i C.length), (10, .i k)], hp := [], n := 30, pin := 0 }) (fun k => k ≤ C.length ∧ nmGo C 0 = nmGo (C.drop k) (mxI 0 (C.take k)) ∧ 0 ≤ mxI 0 (C.take k) ∧ mxI 0 (C.take k) ≤ k) (fun k => C.length - k) 0 ?_ ?_ ?_
 ·exact ⟨by omega, by simp [mxI], by simp [mxI], by simp [mxI]⟩
 ·have e : mxI 0 (C.take 0) = 0 := by simp [mxI]
  rw [e]
  exact lmz
 ·rintro k ⟨hk, hg, hm0, hmk⟩ K hK
  by_cases hlt : k < C.length
  ·have d1 : decide ((k : Int) < (C.length : Int)) = true := by simpa using hlt
   have gc := tInts_get (List.getElem?_eq_getElem hlt)
   have hs := nm_step hlt (m := mxI 0 (C.take k))
   have hx := mx_step hlt
   generalize C[k] = c at *
   generalize mxI 0 (C.take k) = m at *
   rw [hs] at hg
   by_cases h1 : c < 0
   ·have d2 : decide (c < 0) = true := by simpa using h1
    (refine wk1 @d1 ?_;(repeat clear hK K);repeat refine kq fun K hK=>?_)
    refine cxz ?_
    (refine wk1 (an @tInts_len (an @gc @d2)) ?_;(repeat clear hK K);repeat refine kq fun K hK=>?_)
    refine cxz ?_
    (refine wk0 ?_;(repeat clear hK K);repeat refine kq fun K hK=>?_)
    refine rq0 Tryz.results61 ?_
    simp [numB, hg, h1]
   ·have d2 : decide (c < 0) = false := by simpa using h1
    by_cases h2 : c > m
    ·have d3 : decide (c > m) = true := by simpa using h2
     (refine wk1 @d1 ?_;(repeat clear hK K);repeat refine kq fun K hK=>?_)
     refine cxz ?_
     (refine wk1 (an @tInts_len (an @gc (an @d2 @d3))) ?_;(repeat clear hK K);repeat refine kq fun K hK=>?_)
     refine cxz ?_
     (refine wk0 ?_;(repeat clear hK K);repeat refine kq fun K hK=>?_)
     refine rq0 Tryz.results61 ?_
     simp [numB, hg, h2]
    ·have d3 : decide (c > m) = false := by simpa using h2
     (refine wk1 @d1 ?_;(repeat clear hK K);repeat refine kq fun K hK=>?_)
     refine cxz ?_
     (refine wk1 (an @tInts_len (an @gc (an @d2 @d3))) ?_;(repeat clear hK K);repeat refine kq fun K hK=>?_)
     refine cyz ?_
     (refine wk0 ?_;(repeat clear hK K);repeat refine kq fun K hK=>?_)
     refine rnz ?_
     have h3 : 0 ≤ mx1 m c ∧ mx1 m c ≤ m + 1 := by unfold mx1; split <;> omega
     refine hK _ (k + 1) ⟨by omega, by rw [hg, hx, d2, d3]; simp, by rw [hx]; omega, by rw [hx]; omega⟩ (by omega) ?_
     have e : (if c + 1 > m then c + 1 else m) = mxI 0 (C.take (k + 1)) := by rw [hx]; rfl
     rw [← e]
     exact lmz
  ·have d1 : decide ((k : Int) < (C.length : Int)) = false := by simpa using hlt
   have hd : nmGo C 0 = true := by rw [hg, List.drop_of_length_le (by omega)]; rfl
   (refine wk1 @d1 ?_;(repeat clear hK K);repeat refine kq fun K hK=>?_)
   refine cyz ?_
   (refine ekz ?_;repeat clear hK K)
   (refine wk1 @tInts_len ?_;(repeat clear hK K);repeat refine kq fun K hK=>?_)
   refine rq0 Tryz.results61 ?_
   have e : ((C.length : Int) == (n : Int)) = decide (C.length = n) := by rw [Bool.eq_iff_iff, beq_iff_eq, decide_eq_true_iff]; omega
   rw [numB, hd, Bool.true_and, e]
theorem rnum_fc (C : List Int) (n : Nat) (hC : C.length ≤ 9223372036854775807) : FC Tryz.prog 64 [aInts C, .i n] [] (fun r o => o = [] ∧ r = .b (numB C n)) := by
 refine fc_intro Tryz.func64 rfl (by rw [Tryz.ntmps64]; simp) ?_
 rw [Tryz.ntmps64]
 simp only [enum, aInts]
 (refine wk1 @tInts_len ?_;(repeat clear hK K);repeat refine kq fun K hK=>?_)
 refine aw_loop (fun k : Nat => { tm := [(0, .a (.c (.t 1 (tInts C)))), (1, .i n), (5, .i (mxI 0 (C.take k))), (6, .i k)], hp := [], n := 38, pin := 0 }) (fun k => k ≤ C.length ∧ nmGo C 0 = nmGo (C.drop k) (mxI 0 (C.take k)) ∧ 0 ≤ mxI 0 (C.take k) ∧ mxI 0 (C.take k) ≤ k) (fun k => C.length - k) 0 ?_ ?_ ?_
 ·exact ⟨by omega, by simp [mxI], by simp [mxI], by simp [mxI]⟩
 ·have e : mxI 0 (C.take 0) = 0 := by simp [mxI]
  rw [e]
  exact lmz
 ·rintro k ⟨hk, hg, hm0, hmk⟩ K hK
  by_cases hlt : k < C.length
  ·have d1 : decide ((k : Int) < (C.length : Int)) = true := by simpa using hlt
   have gc := tInts_get (List.getElem?_eq_getElem hlt)
   have hs := nm_step hlt (m := mxI 0 (C.take k))
   have hx := mx_step hlt
   generalize C[k] = c at *
   generalize mxI 0 (C.take k) = m at *
   rw [hs] at hg
   by_cases h1 : c < 0
   ·have d2 : decide (c < 0) = true := by simpa using h1
    (refine wk1 (an @tInts_len @d1) ?_;(repeat clear hK K);repeat refine kq fun K hK=>?_)
    refine cxz ?_
    (refine wk1 (an @tInts_len (an @gc @d2)) ?_;(repeat clear hK K);repeat refine kq fun K hK=>?_)
    refine cxz ?_
    (refine wk0 ?_;(repeat clear hK K);repeat refine kq fun K hK=>?_)
    refine rq0 Tryz.results64 ?_
    simp [numB, hg, h1]
   ·have d2 : decide (c < 0) = false := by simpa using h1
    by_cases h2 : c > m
    ·have d3 : decide (c > m) = true := by simpa using h2
     (refine wk1 (an @tInts_len @d1) ?_;(repeat clear hK K);repeat refine kq fun K hK=>?_)
     refine cxz ?_
     (refine wk1 (an @tInts_len (an @gc (an @d2 @d3))) ?_;(repeat clear hK K);repeat refine kq fun K hK=>?_)
     refine cxz ?_
     (refine wk0 ?_;(repeat clear hK K);repeat refine kq fun K hK=>?_)
     refine rq0 Tryz.results64 ?_
     simp [numB, hg, h2]
    ·have d3 : decide (c > m) = false := by simpa using h2
     have h3 : 0 ≤ mx1 m c ∧ mx1 m c ≤ m + 1 := by unfold mx1; split <;> omega
     by_cases h4 : c = m
     ·have d4 : (c == m) = true := by simpa using h4
      have e : mxI 0 (C.take (k + 1)) = m + 1 := by rw [hx]; unfold mx1; rw [h4, if_pos (by omega)]
      (refine wk1 (an @tInts_len @d1) ?_;(repeat clear hK K);repeat refine kq fun K hK=>?_)
      refine cxz ?_
      (refine wk1 (an @tInts_len (an @gc (an @d2 @d3))) ?_;(repeat clear hK K);repeat refine kq fun K hK=>?_)
      refine cyz ?_
      (refine wk1 (an @tInts_len (an @gc @d4)) ?_;(repeat clear hK K);repeat refine kq fun K hK=>?_)
      refine cxz ?_
      (refine wk0 ?_;(repeat clear hK K);repeat refine kq fun K hK=>?_)
      refine rnz ?_
      refine hK _ (k + 1) ⟨by omega, by rw [hg, hx, d2, d3]; simp, by rw [hx]; omega, by rw [hx]; omega⟩ (by omega) ?_
      rw [e]
      exact lmz
     ·have d4 : (c == m) = false := by simpa using h4
      have e : mxI 0 (C.take (k + 1)) = m := by rw [hx]; unfold mx1; rw [if_neg (by omega)]
      (refine wk1 (an @tInts_len @d1) ?_;(repeat clear hK K);repeat refine kq fun K hK=>?_)
      refine cxz ?_
      (refine wk1 (an @tInts_len (an @gc (an @d2 @d3))) ?_;(repeat clear hK K);repeat refine kq fun K hK=>?_)
      refine cyz ?_
      (refine wk1 (an @tInts_len (an @gc @d4)) ?_;(repeat clear hK K);repeat refine kq fun K hK=>?_)
      refine cyz ?_
      (refine wk0 ?_;(repeat clear hK K);repeat refine kq fun K hK=>?_)
      refine rnz ?_
      refine hK _ (k + 1) ⟨by omega, by rw [hg, hx, d2, d3]; simp, by rw [hx]; omega, by rw [hx]; omega⟩ (by omega) ?_
      rw [e]
      exact lmz
  ·have d1 : decide ((k : Int) < (C.length : Int)) = false := by simpa using hlt
   have hd : nmGo C 0 = true := by rw [hg, List.drop_of_length_le (by omega)]; rfl
   (refine wk1 (an @tInts_len @d1) ?_;(repeat clear hK K);repeat refine kq fun K hK=>?_)
   refine cyz ?_
   (refine ekz ?_;repeat clear hK K)
   (refine wk1 @tInts_len ?_;(repeat clear hK K);repeat refine kq fun K hK=>?_)
   refine rq0 Tryz.results64 ?_
   have e : ((C.length : Int) == (n : Int)) = decide (C.length = n) := by rw [Bool.eq_iff_iff, beq_iff_eq, decide_eq_true_iff]; omega
   rw [numB, hd, Bool.true_and, e]
theorem count_fc (C : List Int) (hC : C.length ≤ 140737488355328) (hb : ∀ c ∈ C, 0 ≤ c ∧ c ≤ 140737488355328) : FC Tryz.prog 65 [aInts C] [] (fun r o => o = [] ∧ r = .i (mxI 0 C)) := by
 refine fc_intro Tryz.func65 rfl (by rw [Tryz.ntmps65]; simp) ?_
 rw [Tryz.ntmps65]
 simp only [enum, aInts]
 (refine wk1 @tInts_len ?_;(repeat clear hK K);repeat refine kq fun K hK=>?_)
 refine aw_loop (fun k : Nat => { tm := [(0, .a (.c (.t 1 (tInts C)))), (3, .i (mxI 0 (C.take k))), (4, .i k)], hp := [], n := 19, pin := 0 }) (fun k => k ≤ C.length) (fun k => C.length - k) 0 ?_ ?_ ?_
 ·omega
 ·have e : mxI 0 (C.take 0) = 0 := by simp [mxI]
  rw [e]
  exact lmz
 ·rintro k hk K hK
  by_cases hlt : k < C.length
  ·have d1 : decide ((k : Int) < (C.length : Int)) = true := by simpa using hlt
   have gc := tInts_get (List.getElem?_eq_getElem hlt)
   have hbc := hb _ (List.getElem_mem hlt)
   have hx := mx_step hlt
   generalize C[k] = c at *
   generalize mxI 0 (C.take k) = m at *
   (refine wk1 (an @tInts_len @d1) ?_;(repeat clear hK K);repeat refine kq fun K hK=>?_)
   refine cxz ?_
   (refine wk1 (an @tInts_len @gc) ?_;(repeat clear hK K);repeat refine kq fun K hK=>?_)
   refine rnz ?_
   refine hK _ (k + 1) (by omega) (by omega) ?_
   have e : (if c + 1 > m then c + 1 else m) = mxI 0 (C.take (k + 1)) := by rw [hx]; rfl
   rw [← e]
   exact lmz
  ·have d1 : decide ((k : Int) < (C.length : Int)) = false := by simpa using hlt
   have he : C.take k = C := List.take_of_length_le (by omega)
   rw [he]
   (refine wk1 (an @tInts_len @d1) ?_;(repeat clear hK K);repeat refine kq fun K hK=>?_)
   refine cyz ?_
   (refine ekz ?_;repeat clear hK K)
   (refine wk0 ?_;(repeat clear hK K);repeat refine kq fun K hK=>?_)
   exact rqc0 Tryz.results65
theorem max_fc (C : List Int) (h1 : 0 < C.length) (hC : C.length ≤ 140737488355328) : FC Tryz.prog 62 [aInts C] [] (fun r o => o = [] ∧ r = .i (maxL C[0] C)) := by
 refine fc_intro Tryz.func62 rfl (by rw [Tryz.ntmps62]; simp) ?_
 rw [Tryz.ntmps62]
 simp only [enum, aInts]
 have d0 : decide ((C.length : Int) < 1) = false := by simp; omega
 have g0 : (tInts C)[0]? = some (.v (.int .i64 C[0])) := tInts_get (List.getElem?_eq_getElem h1)
 (refine wk1 (an @tInts_len @d0) ?_;(repeat clear hK K);repeat refine kq fun K hK=>?_)
 refine cyz ?_
 (refine wk1 (an @tInts_len (an @g0 @Int.toNat_zero)) ?_;(repeat clear hK K);repeat refine kq fun K hK=>?_)
 refine aw_loop (fun k : Nat => { tm := [(0, .a (.c (.t 1 (tInts C)))), (3, .i (maxL C[0] (C.take k))), (4, .i k)], hp := [], n := 25, pin := 0 }) (fun k => 1 ≤ k ∧ k ≤ C.length) (fun k => C.length - k) 1 ?_ ?_ ?_
 ·omega
 ·have e : C.take 1 = [C[0]] := by rw [List.take_succ_eq_append_getElem h1]; rfl
  have e2 : maxL C[0] [C[0]] = C[0] := by simp [maxL]
  (refine le_tm ?_; simp only [LeTm, go_sem, e, e2]; try simp)
 ·rintro k ⟨hk1, hk⟩ K hK
  by_cases hlt : k < C.length
  ·have d1 : decide ((k : Int) < (C.length : Int)) = true := by simpa using hlt
   have g1 := tInts_get (List.getElem?_eq_getElem hlt)
   (refine wk1 (an @tInts_len @d1) ?_;(repeat clear hK K);repeat refine kq fun K hK=>?_)
   refine cxz ?_
   (refine wk1 (an @tInts_len @g1) ?_;(repeat clear hK K);repeat refine kq fun K hK=>?_)
   refine rnz ?_
   refine hK _ (k + 1) ⟨by omega, by omega⟩ (by omega) ?_
   have e := List.take_succ_eq_append_getElem hlt
   (refine le_tm ?_; simp only [LeTm, go_sem, e, maxL_snoc]; try simp)
  ·have d1 : decide ((k : Int) < (C.length : Int)) = false := by simpa using hlt
   have he : C.take k = C := List.take_of_length_le (by omega)
   rw [he]
   (refine wk1 (an @tInts_len @d1) ?_;(repeat clear hK K);repeat refine kq fun K hK=>?_)
   refine cyz ?_
   (refine ekz ?_;repeat clear hK K)
   (refine wk0 ?_;(repeat clear hK K);repeat refine kq fun K hK=>?_)
   exact rqc0 Tryz.results62
end Go.Proofs.YtglchakimolfdaaGreatDoor
