/- Systems spoiled. Systems drawn as rows of the caller's: LTS; Chain. Calm; Huge. Canonical forms depend on the rows as sets; rows joined by insertion. The canonical form of a loose system is valid. Quotients, plain: numbered classes, rows joined by classes. -/
import Derived.Test.YtglchakimolfdaaGreatDoorZk
import Derived.Test.YtglchakimolfdaaGreatDoorMG
import Derived.Test.YtglchakimolfdaaGreatDoorG11
import Derived.Test.YtglchakimolfdaaGreatDoorG45
namespace Go.Proofs.YtglchakimolfdaaGreatDoor
set_option linter.unusedVariables false
set_option linter.unusedSimpArgs false
open Go.RowKit
set_option maxRecDepth 100000
attribute [local go_sem] List.set_cons_zero List.set_cons_succ List.map_cons List.map_nil List.take_succ_cons List.take_zero List.drop_zero List.drop_succ_cons C.pl C.one List.all_cons List.all_nil Bool.and_true

theorem set_two (L : List C) (s : Nat) (x y : C) : (L.set s x).set s y = L.set s y := by simp
set_option maxHeartbeats 2000000 in
theorem spoilB_fc (bd : Nat) (hbd : bd ≤ 1000) (T : List Int) (hT : TpOk T) (a : Nat) (R : List (List Ar)) (ha : a ≤ 1000000) (h1 : 1 ≤ R.length) (hn : R.length ≤ 20) (hr : ∀ r ∈ R, r.length ≤ bd) :
  FC Tryz.prog 20 [.a (.c (.p 0 0)), aLts R] [tape T a] (fun r o => ∃ (a' : Nat) (R' : List (List Ar)), o = [tape T a', oLts R'] ∧ r = aLts R' ∧ a' ≤ a + 4 ∧ R'.length ≤ 20 ∧ ∀ q ∈ R', q.length ≤ 2 * bd + 1) := by
 refine fc_intro Tryz.func20 rfl (by rw [Tryz.ntmps20]; simp) ?_
 rw [Tryz.ntmps20]
 simp only [enum, tape, aLts, oLts]
 have e0 : ((R.length : Int) == 0) = false := beq_eq_false_iff_ne.2 (by omega)
 (refine wk0 ?_;(repeat clear hK K);repeat refine kq fun K hK=>?_)
 (refine ckz (copyO_fc R (by omega) (fun q hq => by have := hr q hq; omega)) ?_; intro K1 hK1)
 rintro _ _ ⟨rfl, rfl⟩
 (simp only [aInts, aSets, cRowsO_up, List.append_nil, List.nil_append, List.length_map, go_sem]; refine hK1 _ ?_; clear hK1 K1)
 (refine wk1 @e0 ?_;(repeat clear hK K);repeat refine kq fun K hK=>?_)
 refine cyz ?_
 refine aw_le (le_pick [0, 2, 3, 5] rfl rfl) ?_
 (try simp only [List.set_nil, List.take_nil, List.take_zero, List.map_append, go_sem])
 (try simp only [cRowsO_ren])
 (refine wk0 ?_;(repeat clear hK K);repeat refine kq fun K hK=>?_)
 (refine lst_cons rfl ?_; intro K1 hK1; refine ct [0] (next_fc T a R.length hT (by omega) (by omega)) ?_ ?_)
 ·rintro _ _ ⟨rfl, v, rfl, _⟩; rfl
 rintro _ _ ⟨rfl, s, rfl, hs⟩
 (simp only [aInts, aSets, tape, cRowsO_up, List.append_nil, List.nil_append, List.length_map, go_sem]; refine hK1 _ ?_; clear hK1 K1)
 replace hs : s < R.length := by omega
 (refine wk0 ?_;(repeat clear hK K);repeat refine kq fun K hK=>?_)
 have hgs := List.getElem?_eq_getElem hs
 have hrs := hr _ (List.getElem_mem hs)
 have hK2 : ∀ (st' : ST) (e t : Int) (a3 : Nat), a3 ≤ a + 3 → Le st' { tm := [(0, .a (.c (.p 0 0))), (4, .a (.c (.p 1 0))), (5, .a (.c (.p 3 0))), (6, .i s), (7, .a (.c (.p 4 0)))], hp := [.r ⟨48, 2, false, [.t 1 (tInts T), .v (.int .i64 a3)]⟩, .r ⟨25, 1, false, [.v (.slice none 0 0)]⟩, .r ⟨45, 1, true, cRowsO R⟩, .r ⟨25, 1, false, [.s 2 R.length]⟩, .r ⟨44, 2, false, [.v (.int .i64 e), .v (.int .i64 t)]⟩], n := 130, pin := 1 } → K st' := by
  intro st' e t a3 ha3 hl
  refine hK st' (aw_le hl ?_)
  clear hl hK K
  (refine wk0 ?_;(repeat clear hK K);repeat refine kq fun K hK=>?_)
  (refine lst_cons rfl ?_; intro K1 hK1; refine ct [0] (next_fc T a3 7 hT (by omega) (by omega)) ?_ ?_)
  ·rintro _ _ ⟨rfl, v, rfl, _⟩; rfl
  rintro _ _ ⟨rfl, v, rfl, hv⟩
  (simp only [aInts, aSets, tape, cRowsO_up, List.append_nil, List.nil_append, List.length_map, go_sem]; refine hK1 _ ?_; clear hK1 K1)
  obtain ⟨a4, ha4⟩ : ∃ a4, a4 = a3 + 1 := ⟨_, rfl⟩
  rw [← ha4]
  rcases (show v = 0 ∨ v = 1 ∨ v = 2 ∨ v = 3 ∨ v = 4 ∨ v = 5 ∨ v = 6 by omega) with rfl | rfl | rfl | rfl | rfl | rfl | rfl
  ·(repeat (((repeat (first | (refine aw_seq ?_; intro K hK) | refine aw_block ?_ | refine aw_region ?_ | (refine lst_x rfl rfl ?_; intro K1 hK1; simp only [go_sem, Int.natCast_zero, Int.reduceBEq, Int.reduceNeg]; (first | refine hK1 _ ?_ | refine andk (hK1 _ ?_)); clear hK1 K1) | ((first | refine lst_nil ?_ | refine aw_skip ?_); refine hK _ ?_; clear hK K)))); (refine aw_cnd ?_; intro X Y hX hY; simp only [go_sem, Int.natCast_zero, Int.reduceBEq]); (first | refine hX ?_ | refine hY ?_); clear hX hY X Y))
   (repeat (first | (refine aw_seq ?_; intro K hK) | refine aw_block ?_ | refine aw_region ?_ | (refine lst_x rfl rfl ?_; intro K1 hK1; simp only [go_sem, Int.natCast_zero, Int.reduceBEq]; (first | refine hK1 _ ?_ | refine andk (hK1 _ ?_)); clear hK1 K1) | ((first | refine lst_nil ?_ | refine aw_skip ?_); refine hK _ ?_; clear hK K)))
   (try refine aw_ret ?_)
   (try simp only [ThenA, InBl])
   refine ret_le (le_nt 1 [1] rfl) ?_
   simp only [ntA, ntC, List.set_cons_zero, List.set_cons_succ]
   ((try refine aw_ret ?_); (try simp only [ThenA, InBl]); refine ret_le (le_pick [0, 1] rfl rfl) ?_; (try simp only [List.set_nil, List.take_nil, List.take_zero, List.map_append, go_sem]); ((try refine aw_ret ?_); (try refine lst_nil ?_); (try simp only [ThenA, InBl]); refine ret_mk (by first | exact .inl rfl | exact .inr rfl) rfl ?_; simp only [rtn, resA, resL, resV, Tryz.results20, go_sem, true_and, and_true, C.pl, List.all_cons, List.all_nil, Bool.and_true, List.take_succ_cons, List.take_zero, List.drop_zero]))
   exact ⟨a4, [], rfl, rfl, by omega, by simp, by simp⟩
  ·(repeat (((repeat (first | (refine aw_seq ?_; intro K hK) | refine aw_block ?_ | refine aw_region ?_ | (refine lst_x rfl rfl ?_; intro K1 hK1; simp only [go_sem, Int.natCast_one, Int.reduceBEq, Int.reduceNeg]; (first | refine hK1 _ ?_ | refine andk (hK1 _ ?_)); clear hK1 K1) | ((first | refine lst_nil ?_ | refine aw_skip ?_); refine hK _ ?_; clear hK K)))); (refine aw_cnd ?_; intro X Y hX hY; simp only [go_sem, Int.natCast_one, Int.reduceBEq]); (first | refine hX ?_ | refine hY ?_); clear hX hY X Y))
   (repeat (first | (refine aw_seq ?_; intro K hK) | refine aw_block ?_ | refine aw_region ?_ | (refine lst_x rfl rfl ?_; intro K1 hK1; simp only [go_sem, Int.natCast_one, Int.reduceBEq]; (first | refine hK1 _ ?_ | refine andk (hK1 _ ?_)); clear hK1 K1) | ((first | refine lst_nil ?_ | refine aw_skip ?_); refine hK _ ?_; clear hK K)))
   (refine aw_regionZ [3] (.m 0 0 0 (.m 2 0 0 (.m 3 0 0 (.m 5 0 0 (.m 8 0 0 (.m 1 1 14 (.m 4 1 12 (.m 6 0 0 (.m 7 1 12 (.m 9 1 11 (.m 10 0 0 (.a 11 (.a 12 (.m 13 0 0 (.a 14 .e))))))))))))))) (by kernel_rfl) (by kernel_rfl) (by intro c st h; simp [ThenA, InBl, Ret] at h) ?_)
   (refine zk1 (an @cRowsO_len (cRowsO_get hgs)) ?_; repeat clear hK K)
   (refine z_2 rfl rfl ?_; intro K1 hK1; refine stpF_a rfl ?_; simp only [go_sem]; (first | refine hK1 _ ?_ | refine andk (hK1 _ ?_)); clear hK1 K1)
   (refine z_2y rfl rfl rfl ?_; intro K1 hK1; refine stpY_ap rfl rfl rfl rfl (by first | rfl | simp only [rowsB, List.getD_cons_zero, List.getD_cons_succ, hne, List.isEmpty_cons, Bool.not_false, Bool.true_and, Bool.and_true, Bool.and_self]) rfl ?_; simp only [go_sem, tArcs_c, tArcs_len, half2, cArcs_snoc, cRowsO_get hgs]; (first | refine hK1 _ ?_ | refine andk (hK1 _ ?_)); clear hK1 K1)
   (refine zk0 ?_; repeat clear hK K)
   (refine z_3 rfl rfl rfl rfl ?_; intro K1 hK1; refine stp_ev rfl ?_; simp only [go_sem, cRowsO_len, List.length_set, set_two, C.one, C.pl]; (first | refine hK1 _ ?_ | refine andk (hK1 _ ?_)); clear hK1 K1)
   (refine zk0 ?_; repeat clear hK K)
   have hm6 : (R[s] ++ [(-1, t)]).length = R[s].length + 1 := by first | (simp; done) | (simp; omega)
   have hj6 : ((cRowsO R).set s (C.s 6 (R[s].length + 1)))[s]? = some (.s 6 (R[s].length + 1)) := by rw [List.getElem?_set_self (by rw [cRowsO_len]; exact hs)]
   have hset6 : ((cRowsO R).set s (C.s 6 (R[s].length + 1))).set s (.o (2, 44) (tArcs (R[s] ++ [(-1, t)]))) = cRowsO (R.set s (R[s] ++ [(-1, t)])) := by rw [set_two, cRowsO_set]
   refine aw_le (le_sink (r := ⟨44, 2, true, cArcs (R[s] ++ [(-1, t)])⟩) (ri := ⟨45, 1, true, (cRowsO R).set s (C.s 6 (R[s].length + 1))⟩) (ts := tArcs (R[s] ++ [(-1, t)])) 2 s 6 (R[s].length + 1) (by decide) rfl hj6 rfl rfl (show 0 < 2 by omega) (by rw [cArcs_len, hm6]) (fz_ca _)) ?_
   simp only [hset6, go_sem]
   refine aw_le (le_ot 2 rfl) ?_
   simp only [cRowsO_ot, go_sem]
   refine aw_le (le_sink (r := ⟨45, 1, true, cRows (R.set s (R[s] ++ [(-1, t)]))⟩) (ri := ⟨25, 1, false, [.s 2 R.length]⟩) (ts := tRows (R.set s (R[s] ++ [(-1, t)]))) 3 0 2 R.length (by decide) rfl rfl rfl rfl (show 0 < 1 by omega) (by simp only [cRows_len, List.length_set]; omega) (fz_cr _)) ?_
   refine aw_le (le_ot 3 rfl) ?_
   simp only [otC, List.map_cons, List.map_nil, go_sem]
   (refine wk0 ?_;(repeat clear hK K);repeat refine kq fun K hK=>?_)
   ((try refine aw_ret ?_); (try simp only [ThenA, InBl]); refine ret_le (le_pick [0, 1] rfl rfl) ?_; (try simp only [List.set_nil, List.take_nil, List.take_zero, List.map_append, go_sem]); ((try refine aw_ret ?_); (try refine lst_nil ?_); (try simp only [ThenA, InBl]); refine ret_mk (by first | exact .inl rfl | exact .inr rfl) rfl ?_; simp only [rtn, resA, resL, resV, Tryz.results20, go_sem, true_and, and_true, C.pl, List.all_cons, List.all_nil, Bool.and_true, List.take_succ_cons, List.take_zero, List.drop_zero]))
   refine ⟨a4, R.set s (R[s] ++ [(-1, t)]), rfl, rfl, by omega, by simp; omega, fun q hq => ?_⟩
   rcases List.mem_or_eq_of_mem_set hq with hq | rfl
   ·have := hr q hq; omega
   ·rw [hm6]; omega
  ·(repeat (((repeat (first | (refine aw_seq ?_; intro K hK) | refine aw_block ?_ | refine aw_region ?_ | (refine lst_x rfl rfl ?_; intro K1 hK1; simp only [go_sem, Int.cast_ofNat_Int, Int.reduceBEq, Int.reduceNeg]; (first | refine hK1 _ ?_ | refine andk (hK1 _ ?_)); clear hK1 K1) | ((first | refine lst_nil ?_ | refine aw_skip ?_); refine hK _ ?_; clear hK K)))); (refine aw_cnd ?_; intro X Y hX hY; simp only [go_sem, Int.cast_ofNat_Int, Int.reduceBEq]); (first | refine hX ?_ | refine hY ?_); clear hX hY X Y))
   (repeat (first | (refine aw_seq ?_; intro K hK) | refine aw_block ?_ | refine aw_region ?_ | (refine lst_x rfl rfl ?_; intro K1 hK1; simp only [go_sem, Int.cast_ofNat_Int, Int.reduceBEq]; (first | refine hK1 _ ?_ | refine andk (hK1 _ ?_)); clear hK1 K1) | ((first | refine lst_nil ?_ | refine aw_skip ?_); refine hK _ ?_; clear hK K)))
   (refine aw_regionZ [3] (.m 0 0 0 (.m 2 0 0 (.m 3 0 0 (.m 5 0 0 (.m 8 0 0 (.m 1 1 14 (.m 4 1 12 (.m 6 0 0 (.m 7 1 12 (.m 9 1 11 (.m 10 0 0 (.a 11 (.a 12 (.m 13 0 0 (.a 14 .e))))))))))))))) (by kernel_rfl) (by kernel_rfl) (by intro c st h; simp [ThenA, InBl, Ret] at h) ?_)
   (refine zk1 (an @cRowsO_len (cRowsO_get hgs)) ?_; repeat clear hK K)
   (refine z_2 rfl rfl ?_; intro K1 hK1; refine stpF_a rfl ?_; simp only [go_sem]; (first | refine hK1 _ ?_ | refine andk (hK1 _ ?_)); clear hK1 K1)
   (refine z_2y rfl rfl rfl ?_; intro K1 hK1; refine stpY_ap rfl rfl rfl rfl (by first | rfl | simp only [rowsB, List.getD_cons_zero, List.getD_cons_succ, hne, List.isEmpty_cons, Bool.not_false, Bool.true_and, Bool.and_true, Bool.and_self]) rfl ?_; simp only [go_sem, tArcs_c, tArcs_len, half2, cArcs_snoc, cRowsO_get hgs]; (first | refine hK1 _ ?_ | refine andk (hK1 _ ?_)); clear hK1 K1)
   (refine zk0 ?_; repeat clear hK K)
   (refine z_3 rfl rfl rfl rfl ?_; intro K1 hK1; refine stp_ev rfl ?_; simp only [go_sem, cRowsO_len, List.length_set, set_two, C.one, C.pl]; (first | refine hK1 _ ?_ | refine andk (hK1 _ ?_)); clear hK1 K1)
   (refine zk0 ?_; repeat clear hK K)
   have hm6 : (R[s] ++ [(1026, t)]).length = R[s].length + 1 := by first | (simp; done) | (simp; omega)
   have hj6 : ((cRowsO R).set s (C.s 6 (R[s].length + 1)))[s]? = some (.s 6 (R[s].length + 1)) := by rw [List.getElem?_set_self (by rw [cRowsO_len]; exact hs)]
   have hset6 : ((cRowsO R).set s (C.s 6 (R[s].length + 1))).set s (.o (2, 44) (tArcs (R[s] ++ [(1026, t)]))) = cRowsO (R.set s (R[s] ++ [(1026, t)])) := by rw [set_two, cRowsO_set]
   refine aw_le (le_sink (r := ⟨44, 2, true, cArcs (R[s] ++ [(1026, t)])⟩) (ri := ⟨45, 1, true, (cRowsO R).set s (C.s 6 (R[s].length + 1))⟩) (ts := tArcs (R[s] ++ [(1026, t)])) 2 s 6 (R[s].length + 1) (by decide) rfl hj6 rfl rfl (show 0 < 2 by omega) (by rw [cArcs_len, hm6]) (fz_ca _)) ?_
   simp only [hset6, go_sem]
   refine aw_le (le_ot 2 rfl) ?_
   simp only [cRowsO_ot, go_sem]
   refine aw_le (le_sink (r := ⟨45, 1, true, cRows (R.set s (R[s] ++ [(1026, t)]))⟩) (ri := ⟨25, 1, false, [.s 2 R.length]⟩) (ts := tRows (R.set s (R[s] ++ [(1026, t)]))) 3 0 2 R.length (by decide) rfl rfl rfl rfl (show 0 < 1 by omega) (by simp only [cRows_len, List.length_set]; omega) (fz_cr _)) ?_
   refine aw_le (le_ot 3 rfl) ?_
   simp only [otC, List.map_cons, List.map_nil, go_sem]
   (refine wk0 ?_;(repeat clear hK K);repeat refine kq fun K hK=>?_)
   ((try refine aw_ret ?_); (try simp only [ThenA, InBl]); refine ret_le (le_pick [0, 1] rfl rfl) ?_; (try simp only [List.set_nil, List.take_nil, List.take_zero, List.map_append, go_sem]); ((try refine aw_ret ?_); (try refine lst_nil ?_); (try simp only [ThenA, InBl]); refine ret_mk (by first | exact .inl rfl | exact .inr rfl) rfl ?_; simp only [rtn, resA, resL, resV, Tryz.results20, go_sem, true_and, and_true, C.pl, List.all_cons, List.all_nil, Bool.and_true, List.take_succ_cons, List.take_zero, List.drop_zero]))
   refine ⟨a4, R.set s (R[s] ++ [(1026, t)]), rfl, rfl, by omega, by simp; omega, fun q hq => ?_⟩
   rcases List.mem_or_eq_of_mem_set hq with hq | rfl
   ·have := hr q hq; omega
   ·rw [hm6]; omega
  ·(repeat (((repeat (first | (refine aw_seq ?_; intro K hK) | refine aw_block ?_ | refine aw_region ?_ | (refine lst_x rfl rfl ?_; intro K1 hK1; simp only [go_sem, Int.cast_ofNat_Int, Int.reduceBEq, Int.reduceNeg]; (first | refine hK1 _ ?_ | refine andk (hK1 _ ?_)); clear hK1 K1) | ((first | refine lst_nil ?_ | refine aw_skip ?_); refine hK _ ?_; clear hK K)))); (refine aw_cnd ?_; intro X Y hX hY; simp only [go_sem, Int.cast_ofNat_Int, Int.reduceBEq]); (first | refine hX ?_ | refine hY ?_); clear hX hY X Y))
   (repeat (first | (refine aw_seq ?_; intro K hK) | refine aw_block ?_ | refine aw_region ?_ | (refine lst_x rfl rfl ?_; intro K1 hK1; simp only [go_sem, Int.cast_ofNat_Int, Int.reduceBEq]; (first | refine hK1 _ ?_ | refine andk (hK1 _ ?_)); clear hK1 K1) | ((first | refine lst_nil ?_ | refine aw_skip ?_); refine hK _ ?_; clear hK K)))
   (refine aw_regionZ [3] (.m 0 0 0 (.m 2 0 0 (.m 3 0 0 (.m 5 0 0 (.m 8 0 0 (.m 10 0 0 (.m 1 1 17 (.m 4 1 15 (.m 6 0 0 (.m 7 1 15 (.m 9 1 14 (.m 11 1 14 (.m 12 0 0 (.m 13 0 0 (.a 14 (.a 15 (.m 16 0 0 (.a 17 .e)))))))))))))))))) (by kernel_rfl) (by kernel_rfl) (by intro c st h; simp [ThenA, InBl, Ret] at h) ?_)
   (refine zk1 (an @cRowsO_len (cRowsO_get hgs)) ?_; repeat clear hK K)
   (refine z_2 rfl rfl ?_; intro K1 hK1; refine stpF_a rfl ?_; simp only [go_sem]; (first | refine hK1 _ ?_ | refine andk (hK1 _ ?_)); clear hK1 K1)
   (refine z_2y rfl rfl rfl ?_; intro K1 hK1; refine stpY_ap rfl rfl rfl rfl (by first | rfl | simp only [rowsB, List.getD_cons_zero, List.getD_cons_succ, hne, List.isEmpty_cons, Bool.not_false, Bool.true_and, Bool.and_true, Bool.and_self]) rfl ?_; simp only [go_sem, tArcs_c, tArcs_len, half2, cArcs_snoc, cRowsO_get hgs]; (first | refine hK1 _ ?_ | refine andk (hK1 _ ?_)); clear hK1 K1)
   (refine zk0 ?_; repeat clear hK K)
   (refine z_3 rfl rfl rfl rfl ?_; intro K1 hK1; refine stp_ev rfl ?_; simp only [go_sem, cRowsO_len, List.length_set, set_two, C.one, C.pl]; (first | refine hK1 _ ?_ | refine andk (hK1 _ ?_)); clear hK1 K1)
   (refine zk0 ?_; repeat clear hK K)
   have hm6 : (R[s] ++ [(e, (R.length : Int))]).length = R[s].length + 1 := by first | (simp; done) | (simp; omega)
   have hj6 : ((cRowsO R).set s (C.s 6 (R[s].length + 1)))[s]? = some (.s 6 (R[s].length + 1)) := by rw [List.getElem?_set_self (by rw [cRowsO_len]; exact hs)]
   have hset6 : ((cRowsO R).set s (C.s 6 (R[s].length + 1))).set s (.o (2, 44) (tArcs (R[s] ++ [(e, (R.length : Int))]))) = cRowsO (R.set s (R[s] ++ [(e, (R.length : Int))])) := by rw [set_two, cRowsO_set]
   refine aw_le (le_sink (r := ⟨44, 2, true, cArcs (R[s] ++ [(e, (R.length : Int))])⟩) (ri := ⟨45, 1, true, (cRowsO R).set s (C.s 6 (R[s].length + 1))⟩) (ts := tArcs (R[s] ++ [(e, (R.length : Int))])) 2 s 6 (R[s].length + 1) (by decide) rfl hj6 rfl rfl (show 0 < 2 by omega) (by rw [cArcs_len, hm6]) (fz_ca _)) ?_
   simp only [hset6, go_sem]
   refine aw_le (le_ot 2 rfl) ?_
   simp only [cRowsO_ot, go_sem]
   refine aw_le (le_sink (r := ⟨45, 1, true, cRows (R.set s (R[s] ++ [(e, (R.length : Int))]))⟩) (ri := ⟨25, 1, false, [.s 2 R.length]⟩) (ts := tRows (R.set s (R[s] ++ [(e, (R.length : Int))]))) 3 0 2 R.length (by decide) rfl rfl rfl rfl (show 0 < 1 by omega) (by simp only [cRows_len, List.length_set]; omega) (fz_cr _)) ?_
   refine aw_le (le_ot 3 rfl) ?_
   simp only [otC, List.map_cons, List.map_nil, go_sem]
   (refine wk0 ?_;(repeat clear hK K);repeat refine kq fun K hK=>?_)
   ((try refine aw_ret ?_); (try simp only [ThenA, InBl]); refine ret_le (le_pick [0, 1] rfl rfl) ?_; (try simp only [List.set_nil, List.take_nil, List.take_zero, List.map_append, go_sem]); ((try refine aw_ret ?_); (try refine lst_nil ?_); (try simp only [ThenA, InBl]); refine ret_mk (by first | exact .inl rfl | exact .inr rfl) rfl ?_; simp only [rtn, resA, resL, resV, Tryz.results20, go_sem, true_and, and_true, C.pl, List.all_cons, List.all_nil, Bool.and_true, List.take_succ_cons, List.take_zero, List.drop_zero]))
   refine ⟨a4, R.set s (R[s] ++ [(e, (R.length : Int))]), rfl, rfl, by omega, by simp; omega, fun q hq => ?_⟩
   rcases List.mem_or_eq_of_mem_set hq with hq | rfl
   ·have := hr q hq; omega
   ·rw [hm6]; omega
  ·(repeat (((repeat (first | (refine aw_seq ?_; intro K hK) | refine aw_block ?_ | refine aw_region ?_ | (refine lst_x rfl rfl ?_; intro K1 hK1; simp only [go_sem, Int.cast_ofNat_Int, Int.reduceBEq, Int.reduceNeg]; (first | refine hK1 _ ?_ | refine andk (hK1 _ ?_)); clear hK1 K1) | ((first | refine lst_nil ?_ | refine aw_skip ?_); refine hK _ ?_; clear hK K)))); (refine aw_cnd ?_; intro X Y hX hY; simp only [go_sem, Int.cast_ofNat_Int, Int.reduceBEq]); (first | refine hX ?_ | refine hY ?_); clear hX hY X Y))
   (repeat (first | (refine aw_seq ?_; intro K hK) | refine aw_block ?_ | refine aw_region ?_ | (refine lst_x rfl rfl ?_; intro K1 hK1; simp only [go_sem, Int.cast_ofNat_Int, Int.reduceBEq]; (first | refine hK1 _ ?_ | refine andk (hK1 _ ?_)); clear hK1 K1) | ((first | refine lst_nil ?_ | refine aw_skip ?_); refine hK _ ?_; clear hK K)))
   (refine aw_regionZ [3] (.m 0 0 0 (.m 2 0 0 (.m 3 0 0 (.m 5 0 0 (.m 8 0 0 (.m 1 1 14 (.m 4 1 12 (.m 6 0 0 (.m 7 1 12 (.m 9 1 11 (.m 10 0 0 (.a 11 (.a 12 (.m 13 0 0 (.a 14 .e))))))))))))))) (by kernel_rfl) (by kernel_rfl) (by intro c st h; simp [ThenA, InBl, Ret] at h) ?_)
   (refine zk1 (an @cRowsO_len (cRowsO_get hgs)) ?_; repeat clear hK K)
   (refine z_2 rfl rfl ?_; intro K1 hK1; refine stpF_a rfl ?_; simp only [go_sem]; (first | refine hK1 _ ?_ | refine andk (hK1 _ ?_)); clear hK1 K1)
   (refine z_2y rfl rfl rfl ?_; intro K1 hK1; refine stpY_ap rfl rfl rfl rfl (by first | rfl | simp only [rowsB, List.getD_cons_zero, List.getD_cons_succ, hne, List.isEmpty_cons, Bool.not_false, Bool.true_and, Bool.and_true, Bool.and_self]) rfl ?_; simp only [go_sem, tArcs_c, tArcs_len, half2, cArcs_snoc, cRowsO_get hgs]; (first | refine hK1 _ ?_ | refine andk (hK1 _ ?_)); clear hK1 K1)
   (refine zk0 ?_; repeat clear hK K)
   (refine z_3 rfl rfl rfl rfl ?_; intro K1 hK1; refine stp_ev rfl ?_; simp only [go_sem, cRowsO_len, List.length_set, set_two, C.one, C.pl]; (first | refine hK1 _ ?_ | refine andk (hK1 _ ?_)); clear hK1 K1)
   (refine zk0 ?_; repeat clear hK K)
   have hm6 : (R[s] ++ [(e, -1)]).length = R[s].length + 1 := by first | (simp; done) | (simp; omega)
   have hj6 : ((cRowsO R).set s (C.s 6 (R[s].length + 1)))[s]? = some (.s 6 (R[s].length + 1)) := by rw [List.getElem?_set_self (by rw [cRowsO_len]; exact hs)]
   have hset6 : ((cRowsO R).set s (C.s 6 (R[s].length + 1))).set s (.o (2, 44) (tArcs (R[s] ++ [(e, -1)]))) = cRowsO (R.set s (R[s] ++ [(e, -1)])) := by rw [set_two, cRowsO_set]
   refine aw_le (le_sink (r := ⟨44, 2, true, cArcs (R[s] ++ [(e, -1)])⟩) (ri := ⟨45, 1, true, (cRowsO R).set s (C.s 6 (R[s].length + 1))⟩) (ts := tArcs (R[s] ++ [(e, -1)])) 2 s 6 (R[s].length + 1) (by decide) rfl hj6 rfl rfl (show 0 < 2 by omega) (by rw [cArcs_len, hm6]) (fz_ca _)) ?_
   simp only [hset6, go_sem]
   refine aw_le (le_ot 2 rfl) ?_
   simp only [cRowsO_ot, go_sem]
   refine aw_le (le_sink (r := ⟨45, 1, true, cRows (R.set s (R[s] ++ [(e, -1)]))⟩) (ri := ⟨25, 1, false, [.s 2 R.length]⟩) (ts := tRows (R.set s (R[s] ++ [(e, -1)]))) 3 0 2 R.length (by decide) rfl rfl rfl rfl (show 0 < 1 by omega) (by simp only [cRows_len, List.length_set]; omega) (fz_cr _)) ?_
   refine aw_le (le_ot 3 rfl) ?_
   simp only [otC, List.map_cons, List.map_nil, go_sem]
   (refine wk0 ?_;(repeat clear hK K);repeat refine kq fun K hK=>?_)
   ((try refine aw_ret ?_); (try simp only [ThenA, InBl]); refine ret_le (le_pick [0, 1] rfl rfl) ?_; (try simp only [List.set_nil, List.take_nil, List.take_zero, List.map_append, go_sem]); ((try refine aw_ret ?_); (try refine lst_nil ?_); (try simp only [ThenA, InBl]); refine ret_mk (by first | exact .inl rfl | exact .inr rfl) rfl ?_; simp only [rtn, resA, resL, resV, Tryz.results20, go_sem, true_and, and_true, C.pl, List.all_cons, List.all_nil, Bool.and_true, List.take_succ_cons, List.take_zero, List.drop_zero]))
   refine ⟨a4, R.set s (R[s] ++ [(e, -1)]), rfl, rfl, by omega, by simp; omega, fun q hq => ?_⟩
   rcases List.mem_or_eq_of_mem_set hq with hq | rfl
   ·have := hr q hq; omega
   ·rw [hm6]; omega
  ·(repeat (((repeat (first | (refine aw_seq ?_; intro K hK) | refine aw_block ?_ | refine aw_region ?_ | (refine lst_x rfl rfl ?_; intro K1 hK1; simp only [go_sem, Int.cast_ofNat_Int, Int.reduceBEq, Int.reduceNeg]; (first | refine hK1 _ ?_ | refine andk (hK1 _ ?_)); clear hK1 K1) | ((first | refine lst_nil ?_ | refine aw_skip ?_); refine hK _ ?_; clear hK K)))); (refine aw_cnd ?_; intro X Y hX hY; simp only [go_sem, Int.cast_ofNat_Int, Int.reduceBEq]); (first | refine hX ?_ | refine hY ?_); clear hX hY X Y))
   (repeat (first | (refine aw_seq ?_; intro K hK) | refine aw_block ?_ | refine aw_region ?_ | (refine lst_x rfl rfl ?_; intro K1 hK1; simp only [go_sem, Int.cast_ofNat_Int, Int.reduceBEq]; (first | refine hK1 _ ?_ | refine andk (hK1 _ ?_)); clear hK1 K1) | ((first | refine lst_nil ?_ | refine aw_skip ?_); refine hK _ ?_; clear hK K)))
   (refine aw_regionZ [3] (.m 0 0 0 (.m 2 0 0 (.m 5 0 0 (.m 7 0 0 (.m 1 1 12 (.m 3 1 4 (.m 6 1 10 (.m 8 0 0 (.m 9 1 10 (.a 4 (.a 10 (.m 11 0 0 (.a 12 .e))))))))))))) (by kernel_rfl) (by kernel_rfl) (by intro c st h; simp [ThenA, InBl, Ret] at h) ?_)
   (refine zk1 (an @cRowsO_len (cRowsO_get hgs)) ?_; repeat clear hK K)
   (refine z_2 rfl rfl ?_; intro K1 hK1; refine stpF_a rfl ?_; simp only [go_sem]; (first | refine hK1 _ ?_ | refine andk (hK1 _ ?_)); clear hK1 K1)
   (refine z_2y rfl rfl rfl ?_; intro K1 hK1; refine stpY_ap rfl rfl rfl rfl (by first | rfl | simp only [rowsB, List.getD_cons_zero, List.getD_cons_succ, hne, List.isEmpty_cons, Bool.not_false, Bool.true_and, Bool.and_true, Bool.and_self]) rfl ?_; simp only [go_sem, tArcs_c, tArcs_len, half2, cRowsO_get hgs, List.cons_append, List.nil_append]; (first | refine hK1 _ ?_ | refine andk (hK1 _ ?_)); clear hK1 K1)
   (refine zk0 ?_; repeat clear hK K)
   (refine z_3 rfl rfl rfl rfl ?_; intro K1 hK1; refine stp_ev rfl ?_; simp only [go_sem, cRowsO_len, List.length_set, set_two, C.one, C.pl]; (first | refine hK1 _ ?_ | refine andk (hK1 _ ?_)); clear hK1 K1)
   (refine zk0 ?_; repeat clear hK K)
   have hm6 : ((e, t) :: R[s]).length = 1 + R[s].length := by first | (simp; done) | (simp; omega)
   have hj6 : ((cRowsO R).set s (C.s 6 (1 + R[s].length)))[s]? = some (.s 6 (1 + R[s].length)) := by rw [List.getElem?_set_self (by rw [cRowsO_len]; exact hs)]
   have hset6 : ((cRowsO R).set s (C.s 6 (1 + R[s].length))).set s (.o (2, 44) (tArcs ((e, t) :: R[s]))) = cRowsO (R.set s ((e, t) :: R[s])) := by rw [set_two, cRowsO_set]
   refine aw_le (le_sink (r := ⟨44, 2, true, cArcs ((e, t) :: R[s])⟩) (ri := ⟨45, 1, true, (cRowsO R).set s (C.s 6 (1 + R[s].length))⟩) (ts := tArcs ((e, t) :: R[s])) 2 s 6 (1 + R[s].length) (by decide) rfl hj6 rfl rfl (show 0 < 2 by omega) (by rw [cArcs_len, hm6]) (fz_ca _)) ?_
   simp only [hset6, go_sem]
   refine aw_le (le_ot 2 rfl) ?_
   simp only [cRowsO_ot, go_sem]
   refine aw_le (le_sink (r := ⟨45, 1, true, cRows (R.set s ((e, t) :: R[s]))⟩) (ri := ⟨25, 1, false, [.s 2 R.length]⟩) (ts := tRows (R.set s ((e, t) :: R[s]))) 3 0 2 R.length (by decide) rfl rfl rfl rfl (show 0 < 1 by omega) (by simp only [cRows_len, List.length_set]; omega) (fz_cr _)) ?_
   refine aw_le (le_ot 3 rfl) ?_
   simp only [otC, List.map_cons, List.map_nil, go_sem]
   (refine wk0 ?_;(repeat clear hK K);repeat refine kq fun K hK=>?_)
   ((try refine aw_ret ?_); (try simp only [ThenA, InBl]); refine ret_le (le_pick [0, 1] rfl rfl) ?_; (try simp only [List.set_nil, List.take_nil, List.take_zero, List.map_append, go_sem]); ((try refine aw_ret ?_); (try refine lst_nil ?_); (try simp only [ThenA, InBl]); refine ret_mk (by first | exact .inl rfl | exact .inr rfl) rfl ?_; simp only [rtn, resA, resL, resV, Tryz.results20, go_sem, true_and, and_true, C.pl, List.all_cons, List.all_nil, Bool.and_true, List.take_succ_cons, List.take_zero, List.drop_zero]))
   refine ⟨a4, R.set s ((e, t) :: R[s]), rfl, rfl, by omega, by simp; omega, fun q hq => ?_⟩
   rcases List.mem_or_eq_of_mem_set hq with hq | rfl
   ·have := hr q hq; omega
   ·rw [hm6]; omega
  ·(repeat (((repeat (first | (refine aw_seq ?_; intro K hK) | refine aw_block ?_ | refine aw_region ?_ | (refine lst_x rfl rfl ?_; intro K1 hK1; simp only [go_sem, Int.cast_ofNat_Int, Int.reduceBEq, Int.reduceNeg]; (first | refine hK1 _ ?_ | refine andk (hK1 _ ?_)); clear hK1 K1) | ((first | refine lst_nil ?_ | refine aw_skip ?_); refine hK _ ?_; clear hK K)))); (refine aw_cnd ?_; intro X Y hX hY; simp only [go_sem, Int.cast_ofNat_Int, Int.reduceBEq]); (first | refine hX ?_ | refine hY ?_); clear hX hY X Y))
   (repeat (first | (refine aw_seq ?_; intro K hK) | refine aw_block ?_ | refine aw_region ?_ | (refine lst_x rfl rfl ?_; intro K1 hK1; simp only [go_sem, Int.cast_ofNat_Int, Int.reduceBEq]; (first | refine hK1 _ ?_ | refine andk (hK1 _ ?_)); clear hK1 K1) | ((first | refine lst_nil ?_ | refine aw_skip ?_); refine hK _ ?_; clear hK K)))
   (refine aw_regionZ [3] (.m 0 0 0 (.m 2 0 0 (.m 3 0 0 (.m 5 0 0 (.m 8 0 0 (.m 10 0 0 (.m 1 1 15 (.m 4 1 13 (.m 6 0 0 (.m 7 1 13 (.m 9 1 13 (.m 11 0 0 (.m 12 1 13 (.a 13 (.m 14 0 0 (.a 15 .e)))))))))))))))) (by kernel_rfl) (by kernel_rfl) (by intro c st h; simp [ThenA, InBl, Ret] at h) ?_)
   (refine zk1 (an @cRowsO_len (cRowsO_get hgs)) ?_; repeat clear hK K)
   (refine z_2y rfl rfl rfl ?_; intro K1 hK1; refine stpY_ap rfl rfl rfl rfl (by first | rfl | simp only [rowsB, List.getD_cons_zero, List.getD_cons_succ, hne, List.isEmpty_cons, Bool.not_false, Bool.true_and, Bool.and_true, Bool.and_self]) rfl ?_; simp only [go_sem, tArcs_c, tArcs_len, half2, cArcs_app, cRowsO_get hgs]; (first | refine hK1 _ ?_ | refine andk (hK1 _ ?_)); clear hK1 K1)
   (refine zk0 ?_; repeat clear hK K)
   (refine z_3 rfl rfl rfl rfl ?_; intro K1 hK1; refine stp_ev rfl ?_; simp only [go_sem, cRowsO_len, List.length_set, set_two, C.one, C.pl]; (first | refine hK1 _ ?_ | refine andk (hK1 _ ?_)); clear hK1 K1)
   (refine zk0 ?_; repeat clear hK K)
   have hm6 : (R[s] ++ R[s]).length = R[s].length + R[s].length := by first | (simp; done) | (simp; omega)
   have hj6 : ((cRowsO R).set s (C.s 5 (R[s].length + R[s].length)))[s]? = some (.s 5 (R[s].length + R[s].length)) := by rw [List.getElem?_set_self (by rw [cRowsO_len]; exact hs)]
   have hset6 : ((cRowsO R).set s (C.s 5 (R[s].length + R[s].length))).set s (.o (2, 44) (tArcs (R[s] ++ R[s]))) = cRowsO (R.set s (R[s] ++ R[s])) := by rw [set_two, cRowsO_set]
   refine aw_le (le_sink (r := ⟨44, 2, true, cArcs (R[s] ++ R[s])⟩) (ri := ⟨45, 1, true, (cRowsO R).set s (C.s 5 (R[s].length + R[s].length))⟩) (ts := tArcs (R[s] ++ R[s])) 2 s 5 (R[s].length + R[s].length) (by decide) rfl hj6 rfl rfl (show 0 < 2 by omega) (by rw [cArcs_len, hm6]) (fz_ca _)) ?_
   simp only [hset6, go_sem]
   refine aw_le (le_ot 2 rfl) ?_
   simp only [cRowsO_ot, go_sem]
   refine aw_le (le_sink (r := ⟨45, 1, true, cRows (R.set s (R[s] ++ R[s]))⟩) (ri := ⟨25, 1, false, [.s 2 R.length]⟩) (ts := tRows (R.set s (R[s] ++ R[s]))) 3 0 2 R.length (by decide) rfl rfl rfl rfl (show 0 < 1 by omega) (by simp only [cRows_len, List.length_set]; omega) (fz_cr _)) ?_
   refine aw_le (le_ot 3 rfl) ?_
   simp only [otC, List.map_cons, List.map_nil, go_sem]
   (refine wk0 ?_;(repeat clear hK K);repeat refine kq fun K hK=>?_)
   ((try refine aw_ret ?_); (try simp only [ThenA, InBl]); refine ret_le (le_pick [0, 1] rfl rfl) ?_; (try simp only [List.set_nil, List.take_nil, List.take_zero, List.map_append, go_sem]); ((try refine aw_ret ?_); (try refine lst_nil ?_); (try simp only [ThenA, InBl]); refine ret_mk (by first | exact .inl rfl | exact .inr rfl) rfl ?_; simp only [rtn, resA, resL, resV, Tryz.results20, go_sem, true_and, and_true, C.pl, List.all_cons, List.all_nil, Bool.and_true, List.take_succ_cons, List.take_zero, List.drop_zero]))
   refine ⟨a4, R.set s (R[s] ++ R[s]), rfl, rfl, by omega, by simp; omega, fun q hq => ?_⟩
   rcases List.mem_or_eq_of_mem_set hq with hq | rfl
   ·have := hr q hq; omega
   ·rw [hm6]; omega
 clear hK
 (refine aw_regionZ [3] (.m 0 0 0 (.m 2 0 0 (.m 3 0 0 (.m 4 1 6 (.m 5 0 0 (.f 1 (.f 6 (.m 7 0 0 (.a 8 (.a 9 .e))) 8 (.a 6 (.m 7 0 0 (.a 9 .e)))) 8 (.a 1 (.a 6 (.m 7 0 0 (.a 9 .e)))))))))) (by kernel_rfl) (by kernel_rfl) (by intro c st h; simp [ThenA, InBl, Ret] at h) ?_)
 (refine zk0 ?_; repeat clear hK K)
 refine z_f ?_ ?_
 ·(refine z_2y rfl rfl rfl ?_; intro K1 hK1; refine yX [0] ?_; refine xy [0] (event_fc T hT (a + 1) (by omega)) ?_ ?_)
  ·rintro _ _ ⟨rfl, v, rfl, _⟩; exact born_one rfl
  rintro _ _ ⟨rfl, e, rfl, he⟩
  (simp only [aInts, aSets, tape, cRowsO_up, List.append_nil, List.nil_append, List.length_map, go_sem]; refine hK1 _ ?_; clear hK1 K1)
  (refine zk0 ?_; repeat clear hK K)
  refine z_f ?_ ?_
  ·(refine z_2y rfl rfl rfl ?_; intro K1 hK1; refine yX [0] ?_; refine xy [0] (next_fc T (a + 1 + 1) R.length hT (by omega) (by omega)) ?_ ?_)
   ·rintro _ _ ⟨rfl, v, rfl, _⟩; exact born_one rfl
   rintro _ _ ⟨rfl, t, rfl, ht⟩
   (simp only [aInts, aSets, tape, cRowsO_up, List.append_nil, List.nil_append, List.length_map, go_sem]; refine hK1 _ ?_; clear hK1 K1)
   (refine zk0 ?_; repeat clear hK K)
   (refine z_2 rfl rfl ?_; intro K1 hK1; refine stpF_a rfl ?_; simp only [go_sem]; (first | refine hK1 _ ?_ | refine andk (hK1 _ ?_)); clear hK1 K1)
   (refine z_3 rfl rfl rfl rfl ?_; intro K1 hK1; refine stp_ev rfl ?_; simp only [go_sem]; (first | refine hK1 _ ?_ | refine andk (hK1 _ ?_)); clear hK1 K1)
   refine z_nil ⟨by simp, by simp, ?_⟩
   refine hK2 _ e t (a + 1 + 1 + 1) (by omega) ?_
   exact lmz
  ·(refine z_2 rfl rfl ?_; intro K1 hK1; refine stpF_a rfl ?_; simp only [go_sem]; (first | refine hK1 _ ?_ | refine andk (hK1 _ ?_)); clear hK1 K1)
   (refine z_2y rfl rfl rfl ?_; intro K1 hK1; refine yX [0] ?_; refine xy [0] (next_fc T (a + 1 + 1) R.length hT (by omega) (by omega)) ?_ ?_)
   ·rintro _ _ ⟨rfl, v, rfl, _⟩; exact born_one rfl
   rintro _ _ ⟨rfl, t, rfl, ht⟩
   (simp only [aInts, aSets, tape, cRowsO_up, List.append_nil, List.nil_append, List.length_map, go_sem]; refine hK1 _ ?_; clear hK1 K1)
   (refine zk0 ?_; repeat clear hK K)
   (refine z_3 rfl rfl rfl rfl ?_; intro K1 hK1; refine stp_ev rfl ?_; simp only [go_sem]; (first | refine hK1 _ ?_ | refine andk (hK1 _ ?_)); clear hK1 K1)
   refine z_nil ⟨by simp, by simp, ?_⟩
   refine hK2 _ e t (a + 1 + 1 + 1) (by omega) ?_
   exact lmz
 ·(refine z_2 rfl rfl ?_; intro K1 hK1; refine stpF_a rfl ?_; simp only [go_sem]; (first | refine hK1 _ ?_ | refine andk (hK1 _ ?_)); clear hK1 K1)
  (refine z_2y rfl rfl rfl ?_; intro K1 hK1; refine yX [0] ?_; refine xy [0] (event_fc T hT (a + 1) (by omega)) ?_ ?_)
  ·rintro _ _ ⟨rfl, v, rfl, _⟩; exact born_one rfl
  rintro _ _ ⟨rfl, e, rfl, he⟩
  (simp only [aInts, aSets, tape, cRowsO_up, List.append_nil, List.nil_append, List.length_map, go_sem]; refine hK1 _ ?_; clear hK1 K1)
  (refine zk0 ?_; repeat clear hK K)
  (refine z_2y rfl rfl rfl ?_; intro K1 hK1; refine yX [0] ?_; refine xy [0] (next_fc T (a + 1 + 1) R.length hT (by omega) (by omega)) ?_ ?_)
  ·rintro _ _ ⟨rfl, v, rfl, _⟩; exact born_one rfl
  rintro _ _ ⟨rfl, t, rfl, ht⟩
  (simp only [aInts, aSets, tape, cRowsO_up, List.append_nil, List.nil_append, List.length_map, go_sem]; refine hK1 _ ?_; clear hK1 K1)
  (refine zk0 ?_; repeat clear hK K)
  (refine z_3 rfl rfl rfl rfl ?_; intro K1 hK1; refine stp_ev rfl ?_; simp only [go_sem]; (first | refine hK1 _ ?_ | refine andk (hK1 _ ?_)); clear hK1 K1)
  refine z_nil ⟨by simp, by simp, ?_⟩
  refine hK2 _ e t (a + 1 + 1 + 1) (by omega) ?_
  exact lmz
theorem spoil_fc (T : List Int) (hT : TpOk T) (a : Nat) (R : List (List Ar)) (ha : a ≤ 1000000) (h1 : 1 ≤ R.length) (hn : R.length ≤ 20) (hr : ∀ r ∈ R, r.length ≤ 1000) :
  FC Tryz.prog 20 [.a (.c (.p 0 0)), aLts R] [tape T a] (fun r o => ∃ (a' : Nat) (R' : List (List Ar)), o = [tape T a', oLts R'] ∧ r = aLts R' ∧ a' ≤ a + 4 ∧ R'.length ≤ 20 ∧ ∀ q ∈ R', q.length ≤ 2001) :=
 spoilB_fc 1000 (by omega) T hT a R ha h1 hn hr
theorem ltsO_fc (T : List Int) (hT : TpOk T) (a0 n : Nat) (ha : a0 ≤ 1000000) (hn1 : 1 ≤ n) (hn : n ≤ 20) :
  FC Tryz.prog 8 [.a (.c (.p 0 0)), .i n] [tape T a0] (fun r o => ∃ (a' : Nat) (R : List (List Ar)), o = [tape T a', .r ⟨45, 1, true, cRows R⟩, .r ⟨25, 1, false, [.s 1 R.length]⟩] ∧ r = .a (.g [.s 1 R.length]) ∧ a' ≤ a0 + 1 + 7 * n ∧ 1 ≤ R.length ∧ R.length ≤ n ∧ OkSys 3 R.length R) := by
 refine fc_intro Tryz.func8 rfl (by rw [Tryz.ntmps8]; simp) ?_
 rw [Tryz.ntmps8]
 simp only [enum, tape, oLts]
 (refine wk0 ?_;(repeat clear hK K);repeat refine kq fun K hK=>?_)
 (refine lst_cons rfl ?_; intro K1 hK1; refine ct [0] (next_fc T a0 n hT (by omega) (by omega)) ?_ ?_)
 ·rintro _ _ ⟨rfl, v, rfl, _⟩; rfl
 rintro _ _ ⟨rfl, m, rfl, hm⟩
 (simp only [aInts, aSets, tape, List.append_nil, List.nil_append, List.length_map, go_sem]; refine hK1 _ ?_; clear hK1 K1)
 have em : (1 + (m : Int)).toNat = m + 1 := by omega
 (refine wk1 (an @em (an @List.set_cons_zero.{0} @List.set_cons_succ.{0})) ?_;(repeat clear hK K);repeat refine kq fun K hK=>?_)
 refine aw_le (le_ot 2 rfl) ?_
 simp only [rows_nil, List.set_cons_zero, List.set_cons_succ]
 refine aw_loop (fun p : Nat × List (List Ar) × Nat => { tm := [(0, .a (.c (.p 0 0))), (4, .a (.c (.p 1 0))), (5, .a (.c (.p 3 0))), (6, .i p.1)], hp := [.r ⟨48, 2, false, [.t 1 (tInts T), .v (.int .i64 p.2.2)]⟩, .r ⟨25, 1, false, [.v (.slice none 0 0)]⟩, .r ⟨45, 1, true, cRows p.2.1⟩, .r ⟨25, 1, false, [.s 2 (m + 1)]⟩], n := 46, pin := 1 })
  (fun p => p.1 ≤ m + 1 ∧ p.2.2 ≤ a0 + 1 + 7 * p.1 ∧ OkSys 3 (m + 1) p.2.1 ∧ ∀ q r, p.1 ≤ q → p.2.1[q]? = some r → r = []) (fun p => m + 1 - p.1) (0, List.replicate (m + 1) [], a0 + 1) ?_ ?_ ?_
 ·refine ⟨by simp, by simp, okSys_nil _, fun q r _ hr => ?_⟩
  exact List.eq_of_mem_replicate (List.mem_of_getElem? hr)
 ·exact lmz
 ·rintro ⟨i, R, a⟩ ⟨hi, hA, hR, hE⟩ K hK
  simp only at hi hA hR hE ⊢
  (refine wk0 ?_;(repeat clear hK K);repeat refine kq fun K hK=>?_)
  (refine aw_cnd ?_; intro X Y hX hY; simp only [go_sem])
  refine ⟨fun h => hX ?_, fun h => hY ?_⟩
  ·have hi1 : i < m + 1 := by simp at h; omega
   clear hX hY X Y
   (refine wk0 ?_;(repeat clear hK K);repeat refine kq fun K hK=>?_)
   (refine lst_cons rfl ?_; intro K1 hK1; refine ct [0] (next_fc T a 4 hT (by omega) (by omega)) ?_ ?_)
   ·rintro _ _ ⟨rfl, v, rfl, _⟩; rfl
   rintro _ _ ⟨rfl, w0, rfl, hw0⟩
   (simp only [aInts, aSets, tape, cRows_up, List.append_nil, List.nil_append, List.length_map, go_sem]; refine hK1 _ ?_; clear hK1 K1)
   (refine wk0 ?_;(repeat clear hK K);repeat refine kq fun K hK=>?_)
   refine aw_loop (fun p : Nat × List (List Ar) × Nat => { tm := [(0, .a (.c (.p 0 0))), (4, .a (.c (.p 1 0))), (5, .a (.c (.p 3 0))), (6, .i i), (7, .i p.1)], hp := [.r ⟨48, 2, false, [.t 1 (tInts T), .v (.int .i64 p.2.2)]⟩, .r ⟨25, 1, false, [.v (.slice none 0 0)]⟩, .r ⟨45, 1, true, cRows p.2.1⟩, .r ⟨25, 1, false, [.s 2 (m + 1)]⟩], n := 46, pin := 1 })
    (fun p => p.1 ≤ 3 ∧ p.2.2 + 2 * p.1 ≤ a + 7 ∧ OkSys 3 (m + 1) p.2.1 ∧ (∀ r, p.2.1[i]? = some r → r.length + p.1 ≤ 3) ∧ ∀ q r, i + 1 ≤ q → p.2.1[q]? = some r → r = []) (fun p => p.1) (w0, R, a + 1) ?_ ?_ ?_
   ·refine ⟨by simp only; omega, by simp only; omega, hR, fun r hr => ?_, fun q r hq hr => hE q r (by omega) hr⟩
    rw [hE i r (Nat.le_refl _) hr]; simp; omega
   ·exact lmz
   ·rintro ⟨w, R2, a2⟩ ⟨hw, hA2, hR2, hi2, hE2⟩ K hK
    simp only at hw hA2 hR2 hi2 hE2 ⊢
    have hl2 : i < R2.length := by rw [hR2.1]; exact hi1
    have hg2 := List.getElem?_eq_getElem hl2
    have hrow := hR2.2 _ (List.getElem_mem hl2)
    (refine wk0 ?_;(repeat clear hK K);repeat refine kq fun K hK=>?_)
    (refine aw_cnd ?_; intro X Y hX hY; simp only [go_sem])
    refine ⟨fun h => hX ?_, fun h => hY ?_⟩
    ·have hw1 : 0 < w := by simpa using h
     clear hX hY X Y
     (refine wk0 ?_;(repeat clear hK K);repeat refine kq fun K hK=>?_)
     refine aw_regionV [0] [(0,0,0),(2,0,0),(3,0,0),(5,0,0),(8,0,0),(10,0,0),(11,0,0),(1,1,18),(4,1,16),(6,0,0),(7,1,16),(12,1,14),(13,0,0),(9,2,0),(14,2,0),(15,0,0),(16,2,0),(17,0,0),(18,2,0)] (by kernel_rfl) (by kernel_rfl) (by intro c st h; simp [ThenA, InBl, Ret] at h) ?_
     (repeat (first | (refine v_0 rfl rfl rfl ?_; intro K1 hK1; simp only [undef, evR, go_sem, cRows_len, cRows_get hg2]; first | (refine hK1 _ ?_; clear hK1 K1) | (refine andk (hK1 _ ?_); clear hK1 K1)) | (refine v_1 rfl rfl rfl rfl rfl rfl rfl rfl rfl ?_; intro K1 hK1; simp only [undef, evR, go_sem, cRows_len, cRows_get hg2]; first | (refine hK1 _ ?_; clear hK1 K1) | (refine andk (hK1 _ ?_); clear hK1 K1))))
     (refine v_2 rfl rfl ?_; intro K1 hK1; refine stpX_call (ids := []) [0] (event_fc T hT a2 (by omega)) rfl rfl (by simp only [evR, go_sem]) (by kernel_rfl) rfl rfl rfl (by (simp only [evR, clos, List.map_append, List.append_nil, AV.ren, A0.ren, C.ren, idx, renIds, ofTr_ren, go_sem]) <;> rfl) (by (simp only [pkh, Ob.ren, C.ren, idx, renIds, ofTr_ren, List.getD_cons_zero, List.getD_cons_succ, tape, go_sem]) <;> rfl) ?_ ?_)
     ·rintro _ _ ⟨rfl, v, rfl, _⟩; exact born_one rfl
     rintro _ _ ⟨rfl, e, rfl, he⟩
     (simp only [aInts, aSets, tape, cRows_up, List.append_nil, List.nil_append, List.length_map, go_sem]; refine hK1 _ ?_; clear hK1 K1)
     (repeat (first | (refine v_0 rfl rfl rfl ?_; intro K1 hK1; simp only [undef, evR, go_sem]; first | (refine hK1 _ ?_; clear hK1 K1) | (refine andk (hK1 _ ?_); clear hK1 K1)) | (refine v_1 rfl rfl rfl rfl rfl rfl rfl rfl rfl ?_; intro K1 hK1; simp only [undef, evR, go_sem]; first | (refine hK1 _ ?_; clear hK1 K1) | (refine andk (hK1 _ ?_); clear hK1 K1))))
     (refine v_2 rfl rfl ?_; intro K1 hK1; refine stpX_call (ids := []) [0] (next_fc T (a2 + 1) (m + 1) hT (by omega) (by omega)) rfl rfl (by simp only [evR, go_sem]) (by kernel_rfl) rfl rfl rfl (by (simp only [evR, clos, List.map_append, List.append_nil, AV.ren, A0.ren, C.ren, idx, renIds, ofTr_ren, go_sem]) <;> rfl) (by (simp only [pkh, Ob.ren, C.ren, idx, renIds, ofTr_ren, List.getD_cons_zero, List.getD_cons_succ, tape, go_sem]) <;> rfl) ?_ ?_)
     ·rintro _ _ ⟨rfl, v, rfl, _⟩; exact born_one rfl
     rintro _ _ ⟨rfl, t, rfl, ht⟩
     (simp only [aInts, aSets, tape, cRows_up, List.append_nil, List.nil_append, List.length_map, go_sem]; refine hK1 _ ?_; clear hK1 K1)
     (repeat (first | (refine v_0 rfl rfl rfl ?_; intro K1 hK1; simp only [undef, evR, go_sem]; first | (refine hK1 _ ?_; clear hK1 K1) | (refine andk (hK1 _ ?_); clear hK1 K1)) | (refine v_1 rfl rfl rfl rfl rfl rfl rfl rfl rfl ?_; intro K1 hK1; simp only [undef, evR, go_sem]; first | (refine hK1 _ ?_; clear hK1 K1) | (refine andk (hK1 _ ?_); clear hK1 K1))))
     (refine v_2 rfl rfl ?_; intro K1 hK1; refine stpX_mono ?_; refine stpX_call (ids := []) [] (insT_fc R2[i] (e, (t : Int)) (by have := hrow.2.1; omega)) rfl rfl (by simp only [evR, go_sem]) (by kernel_rfl) rfl rfl rfl (by (simp only [evR, clos, List.map_append, List.append_nil, AV.ren, A0.ren, C.ren, idx, renIds, ofTr_ren, go_sem]) <;> rfl) (by (simp only [pkh, Ob.ren, C.ren, idx, renIds, ofTr_ren, List.getD_cons_zero, List.getD_cons_succ, aArcs, go_sem]) <;> rfl) ?_ ?_)
     ·rintro _ _ ⟨rfl, rfl⟩ i o hi hl; simp at hl
     rintro _ _ ⟨rfl, rfl⟩
     (simp only [aInts, aSets, aArcs, cRows_up, List.append_nil, List.nil_append, List.length_map, go_sem]; refine hK1 _ ?_; clear hK1 K1)
     (repeat (first | (refine v_0 rfl rfl rfl ?_; intro K1 hK1; simp only [undef, evR, go_sem]; first | (refine hK1 _ ?_; clear hK1 K1) | (refine andk (hK1 _ ?_); clear hK1 K1)) | (refine v_1 rfl rfl rfl rfl rfl rfl rfl rfl rfl ?_; intro K1 hK1; simp only [undef, evR, go_sem]; first | (refine hK1 _ ?_; clear hK1 K1) | (refine andk (hK1 _ ?_); clear hK1 K1))))
     refine v_3 rfl rfl rfl ?_; intro K1 hK1
     refine stp_ev rfl ?_; simp only [undef, evR, ST.put, setC, A0.cells, cRows_len, List.set_cons_zero, List.set_cons_succ, cRows_set, go_sem]
     (first | (refine hK1 _ ?_; clear hK1 K1) | (refine andk (hK1 _ ?_); clear hK1 K1))
     refine v_nil ⟨by simp, by simp, ?_⟩
     refine hK _ ?_; clear hK K
     (refine wk0 ?_;(repeat clear hK K);repeat refine kq fun K hK=>?_)
     refine rnz ?_
     have hx : 0 ≤ e ∧ e ≤ 1025 ∧ 0 ≤ (t : Int) ∧ (t : Int) < ((m + 1 : Nat) : Int) := ⟨he.1, he.2, by omega, by omega⟩
     have e1 : ((w : Int) - 1) = ((w - 1 : Nat) : Int) := by omega
     have hw3 := hi2 _ hg2
     refine hK _ (w - 1, R2.set i (insA (e, (t : Int)) R2[i]), a2 + 2) ⟨by simp only; omega, by simp only; omega, hR2.set ?_ i, fun r hr => ?_, fun q r hq hr => ?_⟩ (by simp only; omega) ?_
     ·exact (OkRow.ins ⟨hrow.1, Nat.le_refl _, hrow.2.2⟩ hx).le (by omega)
     ·simp only at hr ⊢
      rw [List.getElem?_set_self hl2] at hr
      cases hr
      have := insA_len (e, (t : Int)) R2[i]
      omega
     ·simp only at hr
      rw [List.getElem?_set_ne (by omega)] at hr
      exact hE2 q r hq hr
     ·(refine le_tm ?_; simp only [LeTm, go_sem, e1]; try simp)
    ·have hw0 : w = 0 := by simp at h; omega
     clear hX hY X Y
     (refine ekz ?_;repeat clear hK K)
     (refine wk0 ?_;(repeat clear hK K);repeat refine kq fun K hK=>?_)
     refine rnz ?_
     refine hK _ (i + 1, R2, a2) ⟨by simp only; omega, by simp only; omega, hR2, fun q r hq hr => hE2 q r hq hr⟩ (by simp only; omega) ?_
     exact lmz
  ·have hi1 : i = m + 1 := by simp at h; omega
   clear hX hY X Y
   (refine ekz ?_;repeat clear hK K)
   (refine wk1 (an @List.set_cons_zero.{0} @List.set_cons_succ.{0}) ?_;(repeat clear hK K);repeat refine kq fun K hK=>?_)
   (repeat (first | (refine aw_seq ?_; intro K hK) | refine aw_block ?_ | refine aw_region ?_ | (refine lst_x rfl rfl ?_; intro K1 hK1; simp only [go_sem, List.set_cons_zero, List.set_cons_succ, C.pl, C.one, List.all_cons, List.all_nil, Bool.and_true, List.take_succ_cons, List.take_zero, List.drop_zero]; (first | refine hK1 _ ?_ | refine andk (hK1 _ ?_)); clear hK1 K1) | ((first | refine lst_nil ?_ | refine aw_skip ?_); refine hK _ ?_; clear hK K)))
   refine rp1 [0, 2, 1] Tryz.results8 @cRows_ren ?_
   exact ⟨a, R, by simp only [tape, hR.1], by rw [hR.1], by omega, by rw [hR.1]; omega, by rw [hR.1]; omega, by rw [hR.1]; exact hR⟩

set_option maxHeartbeats 1000000 in
theorem chain_fc (T : List Int) (hT : TpOk T) (a0 n : Nat) (ha : a0 ≤ 500000) (hn1 : 1 ≤ n) (hn : n ≤ 20) :
  FC Tryz.prog 17 [.a (.c (.p 0 0)), .i n] [tape T a0] (fun r o => ∃ (a' : Nat) (R : List (List Ar)), o = [tape T a', oLts R] ∧ r = aLts R ∧ a' ≤ a0 + 1 + 8 * n ∧ 1 ≤ R.length ∧ R.length ≤ n ∧ OkSys 4 R.length R) := by
 refine fc_intro Tryz.func17 rfl (by rw [Tryz.ntmps17]; simp) ?_
 rw [Tryz.ntmps17]
 simp only [enum, tape, oLts, aLts]
 (refine wk0 ?_;(repeat clear hK K);repeat refine kq fun K hK=>?_)
 (refine lst_cons rfl ?_; intro K1 hK1; refine ct [0] (ltsO_fc T hT a0 n (by omega) hn1 hn) ?_ ?_)
 ·rintro _ _ ⟨_, _, rfl, rfl, _⟩; rfl
 rintro _ _ ⟨a1, R0, rfl, rfl, ha1, hl1, hl2, hok⟩
 (simp only [aInts, aSets, tape, cRows_up, List.append_nil, List.nil_append, List.length_map, go_sem]; refine hK1 _ ?_; clear hK1 K1)
 (refine wk0 ?_;(repeat clear hK K);repeat refine kq fun K hK=>?_)
 refine aw_le (le_pick [0, 1, 2, 4] rfl rfl) ?_
 (try simp only [List.set_nil, List.take_nil, List.take_zero, List.map_append, go_sem])
 (try simp only [cRows_ren])
 obtain ⟨m, hm⟩ : ∃ m, m = R0.length := ⟨_, rfl⟩
 rw [← hm] at hl1 hl2 hok
 (try rw [← hm])
 refine aw_loop (fun p : Nat × List (List Ar) × Nat => { tm := [(0, .a (.c (.p 0 0))), (4, .a (.c (.p 1 0))), (5, .a (.c (.p 3 0))), (6, .i p.1)], hp := [.r ⟨48, 2, false, [.t 1 (tInts T), .v (.int .i64 p.2.2)]⟩, .r ⟨25, 1, false, [.v (.slice none 0 0)]⟩, .r ⟨45, 1, true, cRows p.2.1⟩, .r ⟨25, 1, false, [.s 2 m]⟩], n := 34, pin := 1 })
  (fun p => p.1 + 1 ≤ m ∧ p.2.2 ≤ a1 + p.1 ∧ OkSys 4 m p.2.1 ∧ ∀ q r, p.1 ≤ q → p.2.1[q]? = some r → r.length ≤ 3) (fun p => m - p.1) (0, R0, a1) ?_ ?_ ?_
 ·exact ⟨by simp only; omega, by simp, hok.le (by omega), fun q r _ hr => (hok.2 r (List.mem_of_getElem? hr)).2.1⟩
 ·exact lmz
 ·rintro ⟨s, R, a⟩ ⟨hs, hA, hR, hE⟩ K hK
  simp only at hs hA hR hE ⊢
  have hRl := hR.1
  by_cases hlt : s + 1 < m
  ·have hl0 : decide ((s : Int) + 1 < (m : Int)) = true := by simp; omega
   have hl2' : s < R.length := by omega
   have hg2 := List.getElem?_eq_getElem hl2'
   have hrow := hR.2 _ (List.getElem_mem hl2')
   have hne : (cRows R).isEmpty = false := by
    have := cRows_len R
    cases hc : cRows R with
    | nil => rw [hc] at this; simp at this; omega
    | cons _ _ => rfl
   (refine wk1 @hl0 ?_;(repeat clear hK K);repeat refine kq fun K hK=>?_)
   refine cxz ?_
   (refine wk0 ?_;(repeat clear hK K);repeat refine kq fun K hK=>?_)
   (refine aw_regionZ [2, 3] (.m 0 0 0 (.m 2 0 0 (.m 3 0 0 (.m 5 0 0 (.m 8 0 0 (.m 10 0 0 (.m 11 0 0 (.m 1 1 15 (.m 4 1 13 (.m 6 0 0 (.m 7 1 13 (.a 9 (.m 12 0 0 (.a 13 (.m 14 0 0 (.a 15 .e)))))))))))))))) (by kernel_rfl) (by kernel_rfl) (by intro c st h; simp [ThenA, InBl, Ret] at h) ?_)
   (refine zk1 (an @cRows_len (cRows_get hg2)) ?_; repeat clear hK K)
   (refine z_2y rfl rfl rfl ?_; intro K1 hK1; refine yX [0] ?_; refine xy [0] (event_fc T hT a (by omega)) ?_ ?_)
   ·rintro _ _ ⟨rfl, v, rfl, _⟩; exact born_one rfl
   rintro _ _ ⟨rfl, e, rfl, he⟩
   (simp only [aInts, aSets, tape, cRows_up, List.append_nil, List.nil_append, List.length_map, go_sem]; refine hK1 _ ?_; clear hK1 K1)
   (refine zk0 ?_; repeat clear hK K)
   (refine z_2y rfl rfl rfl ?_; intro K1 hK1; refine yX [] ?_; refine stpX_call (ids := []) [] (insT_fc R[s] (e, (s : Int) + 1) (by have := hrow.2.1; omega)) rfl rfl (by simp only [go_sem]) (by kernel_rfl) rfl rfl rfl (by (simp only [go_sem]) <;> rfl) (by (simp only [pkh, aArcs, go_sem]) <;> rfl) ?_ ?_)
   ·rintro _ _ ⟨rfl, rfl⟩ i o hi hl; simp at hl
   rintro _ _ ⟨rfl, rfl⟩
   (simp only [aInts, aSets, aArcs, cRows_up, List.append_nil, List.nil_append, List.length_map, go_sem]; refine hK1 _ ?_; clear hK1 K1)
   (refine zk0 ?_; repeat clear hK K)
   (refine z_3 rfl rfl rfl rfl ?_; intro K1 hK1; refine stp_ev rfl ?_; simp only [go_sem, ST.put, setC, A0.cells, cRows_len, cRows_set]; (first | refine hK1 _ ?_ | refine andk (hK1 _ ?_)); clear hK1 K1)
   (refine zk0 ?_; repeat clear hK K)
   (refine wk0 ?_;(repeat clear hK K);repeat refine kq fun K hK=>?_)
   refine rnz ?_
   have hx : 0 ≤ e ∧ e ≤ 1025 ∧ 0 ≤ (s : Int) + 1 ∧ (s : Int) + 1 < (m : Int) := ⟨he.1, he.2, by omega, by omega⟩
   have h3 := hE s _ (Nat.le_refl _) hg2
   refine hK _ (s + 1, R.set s (insA (e, (s : Int) + 1) R[s]), a + 1) ⟨by simp only; omega, by simp only; omega, hR.set ?_ s, fun q r hq hr => ?_⟩ (by simp only; omega) ?_
   ·exact (OkRow.ins (m := m) ⟨hrow.1, h3, hrow.2.2⟩ hx)
   ·simp only at hr hq
    rw [List.getElem?_set_ne (by omega)] at hr
    exact hE q r (by omega) hr
   ·exact lmz
  ·have hl0 : decide ((s : Int) + 1 < (m : Int)) = false := by simp; omega
   (refine wk1 @hl0 ?_;(repeat clear hK K);repeat refine kq fun K hK=>?_)
   refine cyz ?_
   (refine ekz ?_;repeat clear hK K)
   refine aw_le (le_sink (r := ⟨45, 1, true, cRows R⟩) (ri := ⟨25, 1, false, [.s 2 m]⟩) (ts := tRows R) 3 0 2 m (by decide) rfl rfl rfl rfl (show 0 < 1 by omega) (by simp only [cRows_len, hRl]; omega) (fz_cr R)) ?_
   refine aw_le (le_ot 3 rfl) ?_
   simp only [otC, List.map_cons, List.map_nil, go_sem]
   (refine wk0 ?_;(repeat clear hK K);repeat refine kq fun K hK=>?_)
   refine rp0 [0, 1] Tryz.results17 ?_
   exact ⟨a, R, rfl, rfl, by omega, by omega, by omega, by rw [hRl]; exact hR⟩
def hugeB (R : List (List Ar)) : Bool := decide (R.length > 12) || decide (totA R > 60)
theorem huge_fc (R : List (List Ar)) (hn : R.length ≤ 140737488355328) (hr : ∀ r ∈ R, r.length ≤ 140737488355328) : FC Tryz.prog 15 [aLts R] [] (fun r o => o = [] ∧ r = .b (hugeB R)) := by
 refine fc_intro Tryz.func15 rfl (by rw [Tryz.ntmps15]; simp) ?_
 rw [Tryz.ntmps15]
 simp only [enum, aLts]
 (refine wk0 ?_;(repeat clear hK K);repeat refine kq fun K hK=>?_)
 refine aw_loop (fun k : Nat => { tm := [(1, .a (.c (.p 0 0))), (3, .i (totA (R.take k) : Int)), (4, .i k)], hp := [.r ⟨25, 1, false, [.t 1 (tRows R)]⟩], n := 32, pin := 0 }) (fun k => k ≤ R.length) (fun k => R.length - k) 0 ?_ ?_ ?_
 ·omega
 ·(refine le_tm ?_; simp only [LeTm, go_sem, List.take_zero, totA, List.map_nil, List.sum_nil, Int.natCast_zero]; try simp)
 ·rintro k hk K hK
  have hle := totA_le R k
  have hfull : k = R.length → totA (R.take k) = totA R := fun e => by rw [e, List.take_length]
  by_cases hlt : k < R.length
  ·have hl1 : decide ((k : Int) < (R.length : Int)) = true := by simpa using hlt
   have hgk := List.getElem?_eq_getElem hlt
   have hrk := hr _ (List.getElem_mem hlt)
   have htk := totA_take hlt
   generalize hW : totA (R.take k) = W at *
   by_cases h60 : W ≤ 60
   ·have d2 : decide ((W : Int) ≤ 60) = true := by simp; omega
    have e3 : ((W : Int) + (R[k].length : Int)) = (totA (R.take (k + 1)) : Int) := by omega
    (refine wk1 (an @hl1 (an @d2 @tRows_len)) ?_;(repeat clear hK K);repeat refine kq fun K hK=>?_)
    refine cxz ?_
    (refine wk1 (an (tRows_get hgk) (an @tRows_len (an @tArcs_len (an @half2 @e3)))) ?_;(repeat clear hK K);repeat refine kq fun K hK=>?_)
    refine rnz ?_
    refine hK _ (k + 1) (by omega) (by omega) ?_
    exact lmz
   ·have d2 : decide ((W : Int) ≤ 60) = false := by simp; omega
    have d3 : decide ((W : Int) > 60) = true := by simp; omega
    have t60 : decide (totA R > 60) = true := by simp; omega
    (refine wk1 (an @hl1 (an @d2 @tRows_len)) ?_;(repeat clear hK K);repeat refine kq fun K hK=>?_)
    refine cyz ?_
    (refine ekz ?_;repeat clear hK K)
    cases t12 : decide (R.length > 12) with
    | true =>
     have d4 : decide ((R.length : Int) > 12) = true := by simp at t12; simp; omega
     (refine wk1 (an @d3 (an @d4 @tRows_len)) ?_;(repeat clear hK K);repeat refine kq fun K hK=>?_)
     refine rp0 [] Tryz.results15 ?_
     rw [hugeB, t12]; rfl
    | false =>
     have d4 : decide ((R.length : Int) > 12) = false := by simp at t12; simp; omega
     (refine wk1 (an @d3 (an @d4 @tRows_len)) ?_;(repeat clear hK K);repeat refine kq fun K hK=>?_)
     refine rp0 [] Tryz.results15 ?_
     rw [hugeB, t12, t60]; rfl
  ·have hl1 : decide ((k : Int) < (R.length : Int)) = false := by simpa using hlt
   have hke : k = R.length := by omega
   have hf := hfull hke
   generalize hW : totA (R.take k) = W at *
   cases t60 : decide (totA R > 60) with
   | true =>
    have d3 : decide ((W : Int) > 60) = true := by simp at t60; simp; omega
    (refine wk1 (an @hl1 @tRows_len) ?_;(repeat clear hK K);repeat refine kq fun K hK=>?_)
    refine cyz ?_
    (refine ekz ?_;repeat clear hK K)
    cases t12 : decide (R.length > 12) with
    | true =>
     have d4 : decide ((R.length : Int) > 12) = true := by simp at t12; simp; omega
     (refine wk1 (an @d3 (an @d4 @tRows_len)) ?_;(repeat clear hK K);repeat refine kq fun K hK=>?_)
     refine rp0 [] Tryz.results15 ?_
     rw [hugeB, t12]; rfl
    | false =>
     have d4 : decide ((R.length : Int) > 12) = false := by simp at t12; simp; omega
     (refine wk1 (an @d3 (an @d4 @tRows_len)) ?_;(repeat clear hK K);repeat refine kq fun K hK=>?_)
     refine rp0 [] Tryz.results15 ?_
     rw [hugeB, t12, t60]; rfl
   | false =>
    have d3 : decide ((W : Int) > 60) = false := by simp at t60; simp; omega
    (refine wk1 (an @hl1 @tRows_len) ?_;(repeat clear hK K);repeat refine kq fun K hK=>?_)
    refine cyz ?_
    (refine ekz ?_;repeat clear hK K)
    cases t12 : decide (R.length > 12) with
    | true =>
     have d4 : decide ((R.length : Int) > 12) = true := by simp at t12; simp; omega
     (refine wk1 (an @d3 (an @d4 @tRows_len)) ?_;(repeat clear hK K);repeat refine kq fun K hK=>?_)
     refine rp0 [] Tryz.results15 ?_
     rw [hugeB, t12]; rfl
    | false =>
     have d4 : decide ((R.length : Int) > 12) = false := by simp at t12; simp; omega
     (refine wk1 (an @d3 (an @d4 @tRows_len)) ?_;(repeat clear hK K);repeat refine kq fun K hK=>?_)
     refine rp0 [] Tryz.results15 ?_
     rw [hugeB, t12, t60]; rfl

def tiA (f : Nat → Nat) (c : Nat) (o : List (List Ar)) (a : Ar) : List (List Ar) := o.set c (insA (a.1, (f a.2.toNat : Int)) (o.getD c []))
def tiRow (f : Nat → Nat) (c : Nat) (o : List (List Ar)) (row : List Ar) : List (List Ar) := row.foldl (tiA f c) o
theorem tiA_len (f : Nat → Nat) (c : Nat) (o : List (List Ar)) (a : Ar) : (tiA f c o a).length = o.length := by simp [tiA]
def SameS (o p : List (List Ar)) : Prop := o.length = p.length ∧ ∀ i a, a ∈ o.getD i [] ↔ a ∈ p.getD i []
theorem SameS.one {f : Nat → Nat} {c : Nat} {o p : List (List Ar)} (h : SameS o p) (a : Ar) : SameS (tiA f c o a) (tlA f c p a) := by
 refine ⟨by rw [tiA_len, tlA_len]; exact h.1, fun i b => ?_⟩
 have h1 := h.1
 unfold tiA tlA
 simp only [List.getD_eq_getElem?_getD, List.getElem?_set]
 by_cases hi : c = i
 ·subst hi
  by_cases hc : c < o.length
  ·have h2 := h.2 c b
   simp only [List.getD_eq_getElem?_getD] at h2
   rw [if_pos rfl, if_pos hc, if_pos rfl, if_pos (by omega)]
   simp only [Option.getD_some, mem_insA, List.mem_append, List.mem_singleton, h2, or_comm]
  ·rw [if_pos rfl, if_neg hc, if_pos rfl, if_neg (by omega)]
 ·rw [if_neg hi, if_neg hi]
  have h2 := h.2 i b
  simpa only [List.getD_eq_getElem?_getD] using h2
theorem SameS.row {f : Nat → Nat} {c : Nat} : ∀ (row : List Ar) {o p : List (List Ar)}, SameS o p → SameS (tiRow f c o row) (tlRow f c p row)
 | [], _, _, h => h
 | a :: r, _, _, h => SameS.row r (h.one a)
def NumSur (num old : List Int) : Prop := ∀ (j : Nat) (s : Int), old[j]? = some s → 0 ≤ s ∧ num[s.toNat]? = some (j : Int)
theorem NumSur.one {num old : List Int} (h : NumSur num old) {t : Int} (h0 : 0 ≤ t) (h1 : t < num.length) : NumSur (numOne num old t).1 (numOne num old t).2 := by
 have htl : t.toNat < num.length := by omega
 unfold numOne
 split
 ·rename_i hneg
  intro j s hs
  simp only at hs ⊢
  rcases Nat.lt_or_ge j old.length with hj | hj
  ·rw [List.getElem?_append_left hj] at hs
   obtain ⟨q1, q2⟩ := h j s hs
   refine ⟨q1, ?_⟩
   rw [List.getElem?_set, if_neg, q2]
   intro e
   rw [e, List.getD_eq_getElem?_getD, q2, Option.getD_some] at hneg
   omega
  ·rw [List.getElem?_append_right hj] at hs
   have hj' : j = old.length := by
    have := (List.getElem?_eq_some_iff.1 hs).1
    simp at this
    omega
   subst hj'
   simp at hs
   subst hs
   exact ⟨h0, by rw [List.getElem?_set, if_pos rfl, if_pos htl]⟩
 ·exact h
structure RowsG (n : Nat) (out : List (List Ar)) : Prop where
 so : ∀ r ∈ out, SortA r
 bd : ∀ r ∈ out, ∀ a ∈ r, 0 ≤ a.1 ∧ a.1 ≤ 1025 ∧ 0 ≤ a.2 ∧ a.2 < (n : Int)
def mx1 (m c : Int) : Int := if m < c + 1 then c + 1 else m
def mxI (m : Int) (l : List Int) : Int := l.foldl mx1 m
def nmGo : List Int → Int → Bool
 | [], _ => true
 | c :: r, m => (!decide (c < 0) && !decide (c > m)) && nmGo r (mx1 m c)
def numB (C : List Int) (n : Nat) : Bool := nmGo C 0 && decide (C.length = n)
theorem mxI_snoc (m : Int) (l : List Int) (c : Int) : mxI m (l ++ [c]) = mx1 (mxI m l) c := by unfold mxI; rw [List.foldl_append]; rfl
theorem mxI_ge (l : List Int) : ∀ m : Int, m ≤ mxI m l ∧ ∀ c ∈ l, c + 1 ≤ mxI m l := by
 induction l with
 | nil => intro m; exact ⟨Int.le_refl _, by simp⟩
 | cons a r ih =>
  intro m
  obtain ⟨h1, h2⟩ := ih (mx1 m a)
  have e : mxI m (a :: r) = mxI (mx1 m a) r := rfl
  have h3 : m ≤ mx1 m a ∧ a + 1 ≤ mx1 m a := by unfold mx1; split <;> omega
  rw [e]
  refine ⟨by omega, fun c hc => ?_⟩
  rcases List.mem_cons.1 hc with rfl | hc
  ·omega
  ·exact h2 c hc
theorem mxI_le {n : Nat} (l : List Int) : ∀ m : Int, nmGo l m = true → 0 ≤ m → mxI m l ≤ m + l.length ∧ (∀ c ∈ l, 0 ≤ c) := by
 induction l with
 | nil => intro m _ _; exact ⟨by simp [mxI], by simp⟩
 | cons a r ih =>
  intro m h hm
  simp only [nmGo, Bool.and_eq_true, Bool.not_eq_true', decide_eq_false_iff_not] at h
  obtain ⟨⟨h1, h2⟩, h3⟩ := h
  have h4 : 0 ≤ mx1 m a ∧ mx1 m a ≤ m + 1 := by unfold mx1; split <;> omega
  obtain ⟨q1, q2⟩ := ih (mx1 m a) h3 h4.1
  have e : mxI m (a :: r) = mxI (mx1 m a) r := rfl
  rw [e]
  refine ⟨by simp only [List.length_cons]; omega, fun c hc => ?_⟩
  rcases List.mem_cons.1 hc with rfl | hc
  ·omega
  ·exact q2 c hc
def maxL (x : Int) (l : List Int) : Int := l.foldl (fun a b => if a < b then b else a) x
theorem maxL_snoc (x : Int) (l : List Int) (y : Int) : maxL x (l ++ [y]) = if maxL x l < y then y else maxL x l := by unfold maxL; rw [List.foldl_append]; rfl
theorem mxI_max (l : List Int) : ∀ x : Int, mxI (x + 1) l = maxL x l + 1 := by
 induction l with
 | nil => intro x; rfl
 | cons a r ih =>
  intro x
  have e : mx1 (x + 1) a = (if x < a then a else x) + 1 := by unfold mx1; split <;> split <;> omega
  show mxI (mx1 (x + 1) a) r = maxL (if x < a then a else x) r + 1
  rw [e, ih]
theorem mxI_cons {x : Int} (l : List Int) (h : 0 ≤ x) : mxI 0 (x :: l) = maxL x (x :: l) + 1 := by
 have e1 : mx1 0 x = x + 1 := by unfold mx1; rw [if_pos (by omega)]
 have e2 : maxL x (x :: l) = maxL x l := by show maxL (if x < x then x else x) l = _; simp
 rw [e2, ← mxI_max, ← e1]; rfl
def clf (C : List Int) (v : Nat) : Nat := (C.getD v 0).toNat
def mxN (C : List Int) : Nat := (mxI 0 C).toNat
theorem num_ok {C : List Int} {n : Nat} (h : numB C n = true) : C.length = n ∧ mxN C ≤ n ∧ (∀ v, v < n → clf C v < mxN C ∧ C[v]? = some ((clf C v : Nat) : Int)) ∧ mxI 0 C = (mxN C : Int) := by
 simp only [numB, Bool.and_eq_true, decide_eq_true_eq] at h
 obtain ⟨h1, h2⟩ := h
 obtain ⟨q1, q2⟩ := mxI_le (n := n) C 0 h1 (Int.le_refl _)
 obtain ⟨p1, p2⟩ := mxI_ge C 0
 refine ⟨h2, by unfold mxN; omega, fun v hv => ?_, by unfold mxN; omega⟩
 have hl : v < C.length := by omega
 have a1 := q2 _ (List.getElem_mem hl)
 have a2 := p2 _ (List.getElem_mem hl)
 unfold clf mxN
 rw [List.getD_eq_getElem?_getD, List.getElem?_eq_getElem hl, Option.getD_some]
 refine ⟨by omega, by congr 1; omega⟩
def qp1 (f : Nat → Nat) (c : Nat) (a : Ar) : Option Ar := if a.1 ≠ 0 ∨ f a.2.toNat ≠ c then some (a.1, (f a.2.toNat : Int)) else none
def pushO (x : Option Ar) (c : Nat) (o : List (List Ar)) : List (List Ar) := match x with | some b => o.set c (o.getD c [] ++ [b]) | none => o
def qpRow (f : Nat → Nat) (c : Nat) (o : List (List Ar)) (row : List Ar) : List (List Ar) := row.foldl (fun o a => pushO (qp1 f c a) c o) o
def qpOut (f : Nat → Nat) (m : Nat) (R : List (List Ar)) : Nat → List (List Ar)
 | 0 => List.replicate m []
 | k + 1 => qpRow f (f k) (qpOut f m R k) (R.getD k [])
def lpO (b : Bool) (c : Nat) : Option Ar := if b then some (0, (c : Int)) else none
def lcL (f : Nat → Nat) (m : Nat) (B : List Bool) (k : Nat) : List Bool := (List.range m).map fun c => (List.range k).any fun s => decide (f s = c) && B.getD s false
def qlOut (L : List Bool) (o : List (List Ar)) : Nat → List (List Ar)
 | 0 => o
 | c + 1 => pushO (lpO (L.getD c false) c) c (qlOut L o c)
def qR (R : List (List Ar)) (C : List Int) (B : List Bool) : List (List Ar) := qlOut (lcL (clf C) (mxN C) B R.length) (qpOut (clf C) (mxN C) R R.length) (mxN C)
theorem pushO_len (x : Option Ar) (c : Nat) (o : List (List Ar)) : (pushO x c o).length = o.length := by cases x <;> simp [pushO]
theorem qpRow_len (f : Nat → Nat) (c : Nat) (row : List Ar) : ∀ o, (qpRow f c o row).length = o.length := by
 induction row with
 | nil => intro o; rfl
 | cons a r ih => intro o; show (qpRow f c (pushO (qp1 f c a) c o) r).length = _; rw [ih, pushO_len]
theorem qpOut_len (f : Nat → Nat) (m : Nat) (R : List (List Ar)) (k : Nat) : (qpOut f m R k).length = m := by
 induction k with
 | zero => simp [qpOut]
 | succ k ih => rw [qpOut, qpRow_len, ih]
theorem qlOut_len (L : List Bool) (o : List (List Ar)) (k : Nat) : (qlOut L o k).length = o.length := by
 induction k with
 | zero => rfl
 | succ k ih => rw [qlOut, pushO_len, ih]
theorem qpRow_snoc (f : Nat → Nat) (c : Nat) (o : List (List Ar)) (row : List Ar) (a : Ar) : qpRow f c o (row ++ [a]) = pushO (qp1 f c a) c (qpRow f c o row) := by unfold qpRow; rw [List.foldl_append]; rfl
theorem mem_pushO {x : Option Ar} {c d : Nat} {o : List (List Ar)} {a : Ar} (h : c < o.length) : a ∈ (pushO x c o).getD d [] ↔ a ∈ o.getD d [] ∨ (d = c ∧ x = some a) := by
 cases x with
 | none => simp [pushO]
 | some b =>
  unfold pushO
  simp only
  rw [List.getD_eq_getElem?_getD]
  by_cases e : c = d
  ·subst e
   rw [List.getElem?_set_self h, Option.getD_some, List.mem_append]
   simp [eq_comm]
  ·rw [List.getElem?_set_ne e, ← List.getD_eq_getElem?_getD]
   simp [Ne.symm e]
theorem mem_qpRow {f : Nat → Nat} {c d : Nat} {a : Ar} : ∀ (row : List Ar) (o : List (List Ar)), c < o.length → (a ∈ (qpRow f c o row).getD d [] ↔ a ∈ o.getD d [] ∨ (d = c ∧ ∃ b ∈ row, qp1 f c b = some a)) := by
 intro row
 induction row with
 | nil => intro o _; simp [qpRow]
 | cons b r ih =>
  intro o h
  show a ∈ (qpRow f c (pushO (qp1 f c b) c o) r).getD d [] ↔ _
  rw [ih _ (by rw [pushO_len]; exact h), mem_pushO h]
  simp only [List.mem_cons, exists_eq_or_imp]
  rw [or_assoc, ← and_or_left]
def QA (R : List (List Ar)) (f : Nat → Nat) (k d : Nat) (a : Ar) : Prop := ∃ s, s < k ∧ f s = d ∧ ∃ b ∈ R.getD s [], qp1 f d b = some a
def QL (f : Nat → Nat) (B : List Bool) (k d : Nat) (a : Ar) : Prop := a = (0, (d : Int)) ∧ ∃ s, s < k ∧ f s = d ∧ B.getD s false = true
theorem QA.succ {R : List (List Ar)} {f : Nat → Nat} {k d : Nat} {a : Ar} : QA R f (k + 1) d a ↔ QA R f k d a ∨ (d = f k ∧ ∃ b ∈ R.getD k [], qp1 f (f k) b = some a) := by
 constructor
 ·rintro ⟨s, h1, h2, h3⟩
  by_cases e : s = k
  ·subst e; subst h2; exact .inr ⟨rfl, h3⟩
  ·exact .inl ⟨s, by omega, h2, h3⟩
 ·rintro (⟨s, h1, h2, h3⟩ | ⟨rfl, h3⟩)
  ·exact ⟨s, by omega, h2, h3⟩
  ·exact ⟨k, by omega, rfl, h3⟩
theorem QL.succ {f : Nat → Nat} {B : List Bool} {k d : Nat} {a : Ar} : QL f B (k + 1) d a ↔ QL f B k d a ∨ (d = f k ∧ lpO (B.getD k false) (f k) = some a) := by
 unfold QL lpO
 constructor
 ·rintro ⟨h0, s, h1, h2, h3⟩
  by_cases e : s = k
  ·subst e; subst h2; exact .inr ⟨rfl, by rw [if_pos h3, h0]⟩
  ·exact .inl ⟨h0, s, by omega, h2, h3⟩
 ·rintro (⟨h0, s, h1, h2, h3⟩ | ⟨rfl, h3⟩)
  ·exact ⟨h0, s, by omega, h2, h3⟩
  ·split at h3
   ·rename_i hb
    injection h3 with h3
    exact ⟨h3.symm, k, by omega, rfl, hb⟩
   ·cases h3
theorem getD_rep {m d : Nat} : (List.replicate m ([] : List Ar)).getD d [] = [] := by
 rw [List.getD_eq_getElem?_getD, List.getElem?_replicate]; split <;> rfl
theorem mem_qpOut {f : Nat → Nat} {m d : Nat} {R : List (List Ar)} {a : Ar} {n : Nat} (hf : ∀ v, v < n → f v < m) : ∀ k, k ≤ n → (a ∈ (qpOut f m R k).getD d [] ↔ QA R f k d a) := by
 intro k
 induction k with
 | zero => intro _; rw [qpOut, getD_rep]; simp [QA]
 | succ k ih =>
  intro hk
  rw [qpOut, mem_qpRow _ _ (by rw [qpOut_len]; exact hf k hk), ih (by omega), QA.succ]
theorem mem_qlOut {L : List Bool} {d : Nat} {o : List (List Ar)} {a : Ar} : ∀ k, k ≤ o.length → (a ∈ (qlOut L o k).getD d [] ↔ a ∈ o.getD d [] ∨ (d < k ∧ L.getD d false = true ∧ a = (0, (d : Int)))) := by
 intro k
 induction k with
 | zero => intro _; simp [qlOut]
 | succ k ih =>
  intro hk
  rw [qlOut, mem_pushO (by rw [qlOut_len]; exact hk), ih (by omega)]
  unfold lpO
  constructor
  ·rintro ((h | ⟨h1, h2, h3⟩) | ⟨rfl, h2⟩)
   ·exact .inl h
   ·exact .inr ⟨by omega, h2, h3⟩
   ·split at h2
    ·rename_i hb; injection h2 with h2; exact .inr ⟨by omega, hb, h2.symm⟩
    ·cases h2
  ·rintro (h | ⟨h1, h2, h3⟩)
   ·exact .inl (.inl h)
   ·by_cases e : d = k
    ·subst e; exact .inr ⟨rfl, by rw [if_pos h2, h3]⟩
    ·exact .inl (.inr ⟨by omega, h2, h3⟩)
theorem lcL_len (f : Nat → Nat) (m : Nat) (B : List Bool) (k : Nat) : (lcL f m B k).length = m := by simp [lcL]
theorem lcL_get {f : Nat → Nat} {m : Nat} {B : List Bool} {k d : Nat} (hd : d < m) : (lcL f m B k).getD d false = (List.range k).any fun s => decide (f s = d) && B.getD s false := by
 simp [lcL, List.getD_eq_getElem?_getD, hd]
theorem lcL_set {f : Nat → Nat} {m : Nat} {B : List Bool} {k : Nat} (hf : f k < m) : (lcL f m B k).set (f k) ((lcL f m B k).getD (f k) false || B.getD k false) = lcL f m B (k + 1) := by
 have hl := lcL_len f m B k
 refine List.ext_getElem (by simp [lcL]) fun i h1 h2 => ?_
 rw [lcL_len] at h2
 have e2 : (lcL f m B (k + 1))[i]'(by rw [lcL_len]; exact h2) = ((List.range (k + 1)).any fun s => decide (f s = i) && B.getD s false) := by simp [lcL]
 rw [e2, List.range_succ, List.any_append]
 by_cases e : f k = i
 ·subst e
  rw [List.getElem_set_self, lcL_get hf]
  simp
 ·rw [List.getElem_set_ne e]
  have e3 : (lcL f m B k)[i]'(by rw [lcL_len]; exact h2) = ((List.range k).any fun s => decide (f s = i) && B.getD s false) := by simp [lcL]
  rw [e3]
  simp [e]
theorem mem_qR {R : List (List Ar)} {C : List Int} {B : List Bool} (h : numB C R.length = true) {d : Nat} {a : Ar} : a ∈ (qR R C B).getD d [] ↔ QA R (clf C) R.length d a ∨ QL (clf C) B R.length d a := by
 obtain ⟨h1, h2, h3, _⟩ := num_ok h
 have hf : ∀ v, v < R.length → clf C v < mxN C := fun v hv => (h3 v hv).1
 unfold qR
 rw [mem_qlOut _ (by rw [qpOut_len]; exact Nat.le_refl _), mem_qpOut hf _ (Nat.le_refl _)]
 refine or_congr Iff.rfl ?_
 unfold QL
 constructor
 ·rintro ⟨g1, g2, g3⟩
  rw [lcL_get g1, List.any_eq_true] at g2
  obtain ⟨s, hs, hb⟩ := g2
  simp only [Bool.and_eq_true, decide_eq_true_eq] at hb
  exact ⟨g3, s, List.mem_range.1 hs, hb.1, hb.2⟩
 ·rintro ⟨g3, s, hs, rfl, hb⟩
  refine ⟨hf s hs, ?_, g3⟩
  rw [lcL_get (hf s hs), List.any_eq_true]
  exact ⟨s, List.mem_range.2 hs, by simp only [Bool.and_eq_true, decide_eq_true_eq]; exact ⟨trivial, hb⟩⟩
theorem pushO_tot (x : Option Ar) (c : Nat) (o : List (List Ar)) : totA (pushO x c o) ≤ totA o + 1 := by
 cases x with
 | none => simp [pushO]
 | some b =>
  unfold pushO
  by_cases h : c < o.length
  ·simp only; rw [totA_set o h]; exact Nat.le_refl _
  ·simp only; rw [List.set_eq_of_length_le (by omega)]; omega
theorem qpRow_tot (f : Nat → Nat) (c : Nat) (row : List Ar) : ∀ o, totA (qpRow f c o row) ≤ totA o + row.length := by
 induction row with
 | nil => intro o; exact Nat.le_refl _
 | cons a r ih =>
  intro o
  have h1 := ih (pushO (qp1 f c a) c o)
  have h2 := pushO_tot (qp1 f c a) c o
  show totA (qpRow f c (pushO (qp1 f c a) c o) r) ≤ _
  simp only [List.length_cons]; omega
theorem qpOut_tot (f : Nat → Nat) (m : Nat) (R : List (List Ar)) : ∀ k, k ≤ R.length → totA (qpOut f m R k) ≤ totA (R.take k) := by
 intro k
 induction k with
 | zero => intro _; rw [qpOut, totA_rep]; omega
 | succ k ih =>
  intro hk
  have h1 := ih (by omega)
  have h2 := totA_take (R := R) (k := k) hk
  have h3 := qpRow_tot f (f k) (R.getD k []) (qpOut f m R k)
  have h4 : R.getD k [] = R[k] := by rw [List.getD_eq_getElem?_getD, List.getElem?_eq_getElem hk]; rfl
  rw [qpOut]
  rw [h4] at h3 ⊢
  omega
theorem qlOut_tot (L : List Bool) (o : List (List Ar)) : ∀ k, totA (qlOut L o k) ≤ totA o + k := by
 intro k
 induction k with
 | zero => exact Nat.le_refl _
 | succ k ih =>
  have := pushO_tot (lpO (L.getD k false) k) k (qlOut L o k)
  rw [qlOut]; omega
theorem QA.bd {R : List (List Ar)} {f : Nat → Nat} {m k d : Nat} {a : Ar} (hlo : looB R = true) (hk : k ≤ R.length) (hf : ∀ v, v < R.length → f v < m) (h : QA R f k d a) : 0 ≤ a.1 ∧ a.1 ≤ 1025 ∧ 0 ≤ a.2 ∧ a.2 < (m : Int) := by
 obtain ⟨s, h1, h2, b, hb, h3⟩ := h
 have hs : s < R.length := by omega
 rw [List.getD_eq_getElem?_getD, List.getElem?_eq_getElem hs] at hb
 have hbd := (of_decide_eq_true hlo).2.2.2 _ (List.getElem_mem hs) b hb
 unfold qp1 at h3
 split at h3
 ·injection h3 with h3
  subst h3
  have := hf b.2.toNat (by omega)
  simp only; omega
 ·cases h3
theorem qR_bd {R : List (List Ar)} {C : List Int} {B : List Bool} (hlo : looB R = true) (h : numB C R.length = true) : (qR R C B).length = mxN C ∧ (∀ r ∈ qR R C B, ∀ a ∈ r, 0 ≤ a.1 ∧ a.1 ≤ 1025 ∧ 0 ≤ a.2 ∧ a.2 < ((qR R C B).length : Int)) ∧ totA (qR R C B) ≤ totA R + R.length := by
 obtain ⟨h1, h2, h3, _⟩ := num_ok h
 have hf : ∀ v, v < R.length → clf C v < mxN C := fun v hv => (h3 v hv).1
 have hl : (qR R C B).length = mxN C := by unfold qR; rw [qlOut_len, qpOut_len]
 refine ⟨hl, fun r hr a ha => ?_, ?_⟩
 ·obtain ⟨d, hd, rfl⟩ := List.getElem_of_mem hr
  have hd2 : d < mxN C := by omega
  have ha2 : a ∈ (qR R C B).getD d [] := by rw [List.getD_eq_getElem?_getD, List.getElem?_eq_getElem hd]; exact ha
  rw [hl]
  rcases (mem_qR h).1 ha2 with q | ⟨q, _⟩
  ·exact q.bd hlo (Nat.le_refl _) hf
  ·subst q; simp only; omega
 ·have a1 := qlOut_tot (lcL (clf C) (mxN C) B R.length) (qpOut (clf C) (mxN C) R R.length) (mxN C)
  have a2 := qpOut_tot (clf C) (mxN C) R R.length (Nat.le_refl _)
  rw [List.take_length] at a2
  unfold qR
  omega
end Go.Proofs.YtglchakimolfdaaGreatDoor
