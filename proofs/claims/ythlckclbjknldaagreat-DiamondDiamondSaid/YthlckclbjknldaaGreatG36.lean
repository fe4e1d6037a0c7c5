/- Systems spoiled. -/
import Derived.Test.YthlckclbjknldaaGreatZk
import Derived.Test.YthlckclbjknldaaGreatG12
namespace Go.Proofs.YthlckclbjknldaaGreat
set_option linter.unusedVariables false
set_option linter.unusedSimpArgs false
open Go.RowKit
set_option maxRecDepth 100000
attribute [local go_sem] List.set_cons_zero List.set_cons_succ List.map_cons List.map_nil List.take_succ_cons List.take_zero List.drop_zero List.drop_succ_cons C.pl C.one List.all_cons List.all_nil Bool.and_true

theorem set_two (L : List C) (s : Nat) (x y : C) : (L.set s x).set s y = L.set s y := by simp
set_option maxHeartbeats 2000000 in
theorem spoil_fc (T : List Int) (hT : TpOk T) (a : Nat) (R : List (List Ar)) (ha : a ≤ 1000000) (h1 : 1 ≤ R.length) (hn : R.length ≤ 20) (hr : ∀ r ∈ R, r.length ≤ 1000) :
  FC Tryz.prog 13 [.a (.c (.p 0 0)), aLts R] [tape T a] (fun r o => ∃ (a' : Nat) (R' : List (List Ar)), o = [tape T a', oLts R'] ∧ r = aLts R' ∧ a' ≤ a + 4 ∧ R'.length ≤ 20 ∧ ∀ q ∈ R', q.length ≤ 2001) := by
 refine fc_intro Tryz.func13 rfl (by rw [Tryz.ntmps13]; simp) ?_
 rw [Tryz.ntmps13]
 simp only [enum, tape, aLts, oLts]
 have e0 : ((R.length : Int) == 0) = false := beq_eq_false_iff_ne.2 (by omega)
 (refine wk0 ?_; (repeat clear hK K); repeat (refine Kq.mk ?_; intro K hK))
 (refine ckz (copyO_fc R (by omega) (fun q hq => by have := hr q hq; omega)) ?_; intro K1 hK1)
 rintro _ _ ⟨rfl, rfl⟩
 (simp only [aInts, aSets, cRowsO_up, List.append_nil, List.nil_append, List.length_map, go_sem]; refine hK1 _ ?_; clear hK1 K1)
 (refine wk1 @e0 ?_; (repeat clear hK K); repeat (refine Kq.mk ?_; intro K hK))
 refine cyz ?_
 refine aw_le (le_pick [0, 2, 3, 5] rfl rfl) ?_
 (try simp only [List.set_nil, List.take_nil, List.take_zero, List.map_append, go_sem])
 (try simp only [cRowsO_ren])
 (refine wk0 ?_; (repeat clear hK K); repeat (refine Kq.mk ?_; intro K hK))
 (refine lst_cons rfl ?_; intro K1 hK1; refine stp_callσ (ids := []) [0] (next_fc T a R.length hT (by omega) (by omega)) rfl rfl (by simp only [go_sem]) (by first | assumption | kernel_rfl) rfl rfl (by (simp only [List.map_append, List.append_nil, go_sem]) <;> rfl) (by (simp only [pkh, tape, go_sem]) <;> rfl) ?_ ?_)
 ·rintro _ _ ⟨rfl, v, rfl, _⟩; rfl
 rintro _ _ ⟨rfl, s, rfl, hs⟩
 (simp only [aInts, aSets, tape, cRowsO_up, List.append_nil, List.nil_append, List.length_map, go_sem]; refine hK1 _ ?_; clear hK1 K1)
 replace hs : s < R.length := by omega
 (refine wk0 ?_; (repeat clear hK K); repeat (refine Kq.mk ?_; intro K hK))
 have hgs := List.getElem?_eq_getElem hs
 have hrs := hr _ (List.getElem_mem hs)
 have hK2 : ∀ (st' : ST) (e t : Int) (a3 : Nat), a3 ≤ a + 3 → Le st' { tm := [(0, .a (.c (.p 0 0))), (4, .a (.c (.p 1 0))), (5, .a (.c (.p 3 0))), (6, .i s), (7, .a (.c (.p 4 0)))], hp := [.r ⟨51, 2, false, [.t 1 (tInts T), .v (.int .i64 a3)]⟩, .r ⟨25, 1, false, [.v (.slice none 0 0)]⟩, .r ⟨29, 1, true, cRowsO R⟩, .r ⟨25, 1, false, [.s 2 R.length]⟩, .r ⟨40, 2, false, [.v (.int .i64 e), .v (.int .i64 t)]⟩], n := 130, pin := 1 } → K st' := by
  intro st' e t a3 ha3 hl
  refine hK st' (aw_le hl ?_)
  clear hl hK K
  (refine wk0 ?_; (repeat clear hK K); repeat (refine Kq.mk ?_; intro K hK))
  (refine lst_cons rfl ?_; intro K1 hK1; refine stp_callσ (ids := []) [0] (next_fc T a3 7 hT (by omega) (by omega)) rfl rfl (by simp only [go_sem]) (by first | assumption | kernel_rfl) rfl rfl (by (simp only [List.map_append, List.append_nil, go_sem]) <;> rfl) (by (simp only [pkh, tape, go_sem]) <;> rfl) ?_ ?_)
  ·rintro _ _ ⟨rfl, v, rfl, _⟩; rfl
  rintro _ _ ⟨rfl, v, rfl, hv⟩
  (simp only [aInts, aSets, tape, cRowsO_up, List.append_nil, List.nil_append, List.length_map, go_sem]; refine hK1 _ ?_; clear hK1 K1)
  obtain ⟨a4, ha4⟩ : ∃ a4, a4 = a3 + 1 := ⟨_, rfl⟩
  rw [← ha4]
  rcases (show v = 0 ∨ v = 1 ∨ v = 2 ∨ v = 3 ∨ v = 4 ∨ v = 5 ∨ v = 6 by omega) with rfl | rfl | rfl | rfl | rfl | rfl | rfl
  ·(repeat (((repeat (first | (refine aw_seq ?_; intro K hK) | refine aw_block ?_ | refine aw_region ?_ | (refine lst_x rfl rfl ?_; intro K1 hK1; simp only [go_sem, Int.natCast_zero, Int.reduceBEq, Int.reduceNeg]; (first | refine hK1 _ ?_ | refine andk (hK1 _ ?_)); clear hK1 K1) | ((first | refine lst_nil ?_ | refine aw_skip ?_); refine hK _ ?_; clear hK K)))); (refine aw_cnd ?_; intro X Y hX hY; simp only [go_sem, Int.natCast_zero, Int.reduceBEq]); (first | refine hX ?_ | refine hY ?_); clear hX hY X Y))
   (repeat (first | (refine aw_seq ?_; intro K hK) | refine aw_block ?_ | refine aw_region ?_ | (refine lst_x rfl rfl ?_; intro K1 hK1; simp only [go_sem, Int.natCast_zero, Int.reduceBEq]; (first | refine hK1 _ ?_ | refine andk (hK1 _ ?_)); clear hK1 K1) | ((first | refine lst_nil ?_ | refine aw_skip ?_); refine hK _ ?_; clear hK K)))
   (try refine aw_ret ?_)
   (try simp only [ThenA, InBl])
   refine ret_le (le_nt 1 [1] rfl) ?_
   simp only [ntA, ntC, List.set_cons_zero, List.set_cons_succ]
   ((try refine aw_ret ?_); (try simp only [ThenA, InBl]); refine ret_le (le_pick [0, 1] rfl rfl) ?_; (try simp only [List.set_nil, List.take_nil, List.take_zero, List.map_append, go_sem]); ((try refine aw_ret ?_); (try refine lst_nil ?_); (try simp only [ThenA, InBl]); refine ret_mk (by first | exact .inl rfl | exact .inr rfl) rfl ?_; simp only [rtn, resA, resL, resV, Tryz.results13, go_sem, true_and, and_true, C.pl, List.all_cons, List.all_nil, Bool.and_true, List.take_succ_cons, List.take_zero, List.drop_zero]))
   exact ⟨a4, [], rfl, rfl, by omega, by simp, by simp⟩
  ·(repeat (((repeat (first | (refine aw_seq ?_; intro K hK) | refine aw_block ?_ | refine aw_region ?_ | (refine lst_x rfl rfl ?_; intro K1 hK1; simp only [go_sem, Int.natCast_one, Int.reduceBEq, Int.reduceNeg]; (first | refine hK1 _ ?_ | refine andk (hK1 _ ?_)); clear hK1 K1) | ((first | refine lst_nil ?_ | refine aw_skip ?_); refine hK _ ?_; clear hK K)))); (refine aw_cnd ?_; intro X Y hX hY; simp only [go_sem, Int.natCast_one, Int.reduceBEq]); (first | refine hX ?_ | refine hY ?_); clear hX hY X Y))
   (repeat (first | (refine aw_seq ?_; intro K hK) | refine aw_block ?_ | refine aw_region ?_ | (refine lst_x rfl rfl ?_; intro K1 hK1; simp only [go_sem, Int.natCast_one, Int.reduceBEq]; (first | refine hK1 _ ?_ | refine andk (hK1 _ ?_)); clear hK1 K1) | ((first | refine lst_nil ?_ | refine aw_skip ?_); refine hK _ ?_; clear hK K)))
   (refine aw_regionZ [3] (.m 0 0 0 (.m 2 0 0 (.m 3 0 0 (.m 5 0 0 (.m 8 0 0 (.m 1 1 14 (.m 4 1 12 (.m 6 0 0 (.m 7 1 12 (.m 9 1 11 (.m 10 0 0 (.a 11 (.a 12 (.m 13 0 0 (.a 14 .e))))))))))))))) (by kernel_rfl) (by kernel_rfl) (by intro c st h; simp [ThenA, InBl, Ret] at h) ?_)
   (refine zk1 (an @cRowsO_len (cRowsO_get hgs)) ?_; repeat clear hK K)
   (refine z_2 rfl rfl ?_; intro K1 hK1; refine stpF_a rfl ?_; simp only [go_sem]; (first | refine hK1 _ ?_ | refine andk (hK1 _ ?_)); clear hK1 K1)
   (refine z_2y rfl rfl rfl ?_; intro K1 hK1; refine stpY_ap rfl rfl rfl rfl (by first | rfl | simp only [rowsB, List.getD_cons_zero, List.getD_cons_succ, hne, List.isEmpty_cons, Bool.not_false, Bool.true_and, Bool.and_true, Bool.and_self]) rfl ?_; simp only [go_sem, tArcs_c, tArcs_len, half2, cArcs_snoc, cRowsO_get hgs]; (first | refine hK1 _ ?_ | refine andk (hK1 _ ?_)); clear hK1 K1)
   (refine zk0 ?_; repeat clear hK K)
   (refine z_3 rfl rfl rfl rfl ?_; intro K1 hK1; refine stp_ev rfl ?_; simp only [go_sem, cRowsO_len, List.length_set, set_two, C.one, C.pl]; (first | refine hK1 _ ?_ | refine andk (hK1 _ ?_)); clear hK1 K1)
   (refine zk0 ?_; repeat clear hK K)
   have hm6 : (R[s] ++ [(-1, t)]).length = R[s].length + 1 := by first | (simp; done) | (simp; omega)
   have hj6 : ((cRowsO R).set s (C.s 6 (R[s].length + 1)))[s]? = some (.s 6 (R[s].length + 1)) := by rw [List.getElem?_set_self (by rw [cRowsO_len]; exact hs)]
   have hset6 : ((cRowsO R).set s (C.s 6 (R[s].length + 1))).set s (.o (2, 40) (tArcs (R[s] ++ [(-1, t)]))) = cRowsO (R.set s (R[s] ++ [(-1, t)])) := by rw [set_two, cRowsO_set]
   refine aw_le (le_sink (r := ⟨40, 2, true, cArcs (R[s] ++ [(-1, t)])⟩) (ri := ⟨29, 1, true, (cRowsO R).set s (C.s 6 (R[s].length + 1))⟩) (ts := tArcs (R[s] ++ [(-1, t)])) 2 s 6 (R[s].length + 1) (by decide) rfl hj6 rfl rfl (show 0 < 2 by omega) (by rw [cArcs_len, hm6]) (fz_ca _)) ?_
   simp only [hset6, go_sem]
   refine aw_le (le_ot 2 rfl) ?_
   simp only [cRowsO_ot, go_sem]
   refine aw_le (le_sink (r := ⟨29, 1, true, cRows (R.set s (R[s] ++ [(-1, t)]))⟩) (ri := ⟨25, 1, false, [.s 2 R.length]⟩) (ts := tRows (R.set s (R[s] ++ [(-1, t)]))) 3 0 2 R.length (by decide) rfl rfl rfl rfl (show 0 < 1 by omega) (by simp only [cRows_len, List.length_set]; omega) (fz_cr _)) ?_
   refine aw_le (le_ot 3 rfl) ?_
   simp only [otC, List.map_cons, List.map_nil, go_sem]
   (refine wk0 ?_; (repeat clear hK K); repeat (refine Kq.mk ?_; intro K hK))
   ((try refine aw_ret ?_); (try simp only [ThenA, InBl]); refine ret_le (le_pick [0, 1] rfl rfl) ?_; (try simp only [List.set_nil, List.take_nil, List.take_zero, List.map_append, go_sem]); ((try refine aw_ret ?_); (try refine lst_nil ?_); (try simp only [ThenA, InBl]); refine ret_mk (by first | exact .inl rfl | exact .inr rfl) rfl ?_; simp only [rtn, resA, resL, resV, Tryz.results13, go_sem, true_and, and_true, C.pl, List.all_cons, List.all_nil, Bool.and_true, List.take_succ_cons, List.take_zero, List.drop_zero]))
   refine ⟨a4, R.set s (R[s] ++ [(-1, t)]), rfl, rfl, by omega, by simp; omega, fun q hq => ?_⟩
   rcases List.mem_or_eq_of_mem_set hq with hq | rfl
   ·have := hr q hq; omega
   ·rw [hm6]; omega
  ·(repeat (((repeat (first | (refine aw_seq ?_; intro K hK) | refine aw_block ?_ | refine aw_region ?_ | (refine lst_x rfl rfl ?_; intro K1 hK1; simp only [go_sem, Int.cast_ofNat_Int, Int.reduceBEq, Int.reduceNeg]; (first | refine hK1 _ ?_ | refine andk (hK1 _ ?_)); clear hK1 K1) | ((first | refine lst_nil ?_ | refine aw_skip ?_); refine hK _ ?_; clear hK K)))); (refine aw_cnd ?_; intro X Y hX hY; simp only [go_sem, Int.cast_ofNat_Int, Int.reduceBEq]); (first | refine hX ?_ | refine hY ?_); clear hX hY X Y))
   (repeat (first | (refine aw_seq ?_; intro K hK) | refine aw_block ?_ | refine aw_region ?_ | (refine lst_x rfl rfl ?_; intro K1 hK1; simp only [go_sem, Int.cast_ofNat_Int, Int.reduceBEq]; (first | refine hK1 _ ?_ | refine andk (hK1 _ ?_)); clear hK1 K1) | ((first | refine lst_nil ?_ | refine aw_skip ?_); refine hK _ ?_; clear hK K)))
   (refine aw_regionZ [3] (.m 0 0 0 (.m 2 0 0 (.m 3 0 0 (.m 5 0 0 (.m 8 0 0 (.m 1 1 14 (.m 4 1 12 (.m 6 0 0 (.m 7 1 12 (.m 9 1 11 (.m 10 0 0 (.a 11 (.a 12 (.m 13 0 0 (.a 14 .e))))))))))))))) (by kernel_rfl) (by kernel_rfl) (by intro c st h; simp [ThenA, InBl, Ret] at h) ?_)
   (refine zk1 (an @cRowsO_len (cRowsO_get hgs)) ?_; repeat clear hK K)
   (refine z_2 rfl rfl ?_; intro K1 hK1; refine stpF_a rfl ?_; simp only [go_sem]; (first | refine hK1 _ ?_ | refine andk (hK1 _ ?_)); clear hK1 K1)
   (refine z_2y rfl rfl rfl ?_; intro K1 hK1; refine stpY_ap rfl rfl rfl rfl (by first | rfl | simp only [rowsB, List.getD_cons_zero, List.getD_cons_succ, hne, List.isEmpty_cons, Bool.not_false, Bool.true_and, Bool.and_true, Bool.and_self]) rfl ?_; simp only [go_sem, tArcs_c, tArcs_len, half2, cArcs_snoc, cRowsO_get hgs]; (first | refine hK1 _ ?_ | refine andk (hK1 _ ?_)); clear hK1 K1)
   (refine zk0 ?_; repeat clear hK K)
   (refine z_3 rfl rfl rfl rfl ?_; intro K1 hK1; refine stp_ev rfl ?_; simp only [go_sem, cRowsO_len, List.length_set, set_two, C.one, C.pl]; (first | refine hK1 _ ?_ | refine andk (hK1 _ ?_)); clear hK1 K1)
   (refine zk0 ?_; repeat clear hK K)
   have hm6 : (R[s] ++ [(1026, t)]).length = R[s].length + 1 := by first | (simp; done) | (simp; omega)
   have hj6 : ((cRowsO R).set s (C.s 6 (R[s].length + 1)))[s]? = some (.s 6 (R[s].length + 1)) := by rw [List.getElem?_set_self (by rw [cRowsO_len]; exact hs)]
   have hset6 : ((cRowsO R).set s (C.s 6 (R[s].length + 1))).set s (.o (2, 40) (tArcs (R[s] ++ [(1026, t)]))) = cRowsO (R.set s (R[s] ++ [(1026, t)])) := by rw [set_two, cRowsO_set]
   refine aw_le (le_sink (r := ⟨40, 2, true, cArcs (R[s] ++ [(1026, t)])⟩) (ri := ⟨29, 1, true, (cRowsO R).set s (C.s 6 (R[s].length + 1))⟩) (ts := tArcs (R[s] ++ [(1026, t)])) 2 s 6 (R[s].length + 1) (by decide) rfl hj6 rfl rfl (show 0 < 2 by omega) (by rw [cArcs_len, hm6]) (fz_ca _)) ?_
   simp only [hset6, go_sem]
   refine aw_le (le_ot 2 rfl) ?_
   simp only [cRowsO_ot, go_sem]
   refine aw_le (le_sink (r := ⟨29, 1, true, cRows (R.set s (R[s] ++ [(1026, t)]))⟩) (ri := ⟨25, 1, false, [.s 2 R.length]⟩) (ts := tRows (R.set s (R[s] ++ [(1026, t)]))) 3 0 2 R.length (by decide) rfl rfl rfl rfl (show 0 < 1 by omega) (by simp only [cRows_len, List.length_set]; omega) (fz_cr _)) ?_
   refine aw_le (le_ot 3 rfl) ?_
   simp only [otC, List.map_cons, List.map_nil, go_sem]
   (refine wk0 ?_; (repeat clear hK K); repeat (refine Kq.mk ?_; intro K hK))
   ((try refine aw_ret ?_); (try simp only [ThenA, InBl]); refine ret_le (le_pick [0, 1] rfl rfl) ?_; (try simp only [List.set_nil, List.take_nil, List.take_zero, List.map_append, go_sem]); ((try refine aw_ret ?_); (try refine lst_nil ?_); (try simp only [ThenA, InBl]); refine ret_mk (by first | exact .inl rfl | exact .inr rfl) rfl ?_; simp only [rtn, resA, resL, resV, Tryz.results13, go_sem, true_and, and_true, C.pl, List.all_cons, List.all_nil, Bool.and_true, List.take_succ_cons, List.take_zero, List.drop_zero]))
   refine ⟨a4, R.set s (R[s] ++ [(1026, t)]), rfl, rfl, by omega, by simp; omega, fun q hq => ?_⟩
   rcases List.mem_or_eq_of_mem_set hq with hq | rfl
   ·have := hr q hq; omega
   ·rw [hm6]; omega
  ·(repeat (((repeat (first | (refine aw_seq ?_; intro K hK) | refine aw_block ?_ | refine aw_region ?_ | (refine lst_x rfl rfl ?_; intro K1 hK1; simp only [go_sem, Int.cast_ofNat_Int, Int.reduceBEq, Int.reduceNeg]; (first | refine hK1 _ ?_ | refine andk (hK1 _ ?_)); clear hK1 K1) | ((first | refine lst_nil ?_ | refine aw_skip ?_); refine hK _ ?_; clear hK K)))); (refine aw_cnd ?_; intro X Y hX hY; simp only [go_sem, Int.cast_ofNat_Int, Int.reduceBEq]); (first | refine hX ?_ | refine hY ?_); clear hX hY X Y))
   (repeat (first | (refine aw_seq ?_; intro K hK) | refine aw_block ?_ | refine aw_region ?_ | (refine lst_x rfl rfl ?_; intro K1 hK1; simp only [go_sem, Int.cast_ofNat_Int, Int.reduceBEq]; (first | refine hK1 _ ?_ | refine andk (hK1 _ ?_)); clear hK1 K1) | ((first | refine lst_nil ?_ | refine aw_skip ?_); refine hK _ ?_; clear hK K)))
   (refine aw_regionZ [3] (.m 0 0 0 (.m 2 0 0 (.m 3 0 0 (.m 5 0 0 (.m 8 0 0 (.m 10 0 0 (.m 1 1 17 (.m 4 1 15 (.m 6 0 0 (.m 7 1 15 (.m 9 1 14 (.m 11 1 14 (.m 12 0 0 (.m 13 0 0 (.a 14 (.a 15 (.m 16 0 0 (.a 17 .e)))))))))))))))))) (by kernel_rfl) (by kernel_rfl) (by intro c st h; simp [ThenA, InBl, Ret] at h) ?_)
   (refine zk1 (an @cRowsO_len (cRowsO_get hgs)) ?_; repeat clear hK K)
   (refine z_2 rfl rfl ?_; intro K1 hK1; refine stpF_a rfl ?_; simp only [go_sem]; (first | refine hK1 _ ?_ | refine andk (hK1 _ ?_)); clear hK1 K1)
   (refine z_2y rfl rfl rfl ?_; intro K1 hK1; refine stpY_ap rfl rfl rfl rfl (by first | rfl | simp only [rowsB, List.getD_cons_zero, List.getD_cons_succ, hne, List.isEmpty_cons, Bool.not_false, Bool.true_and, Bool.and_true, Bool.and_self]) rfl ?_; simp only [go_sem, tArcs_c, tArcs_len, half2, cArcs_snoc, cRowsO_get hgs]; (first | refine hK1 _ ?_ | refine andk (hK1 _ ?_)); clear hK1 K1)
   (refine zk0 ?_; repeat clear hK K)
   (refine z_3 rfl rfl rfl rfl ?_; intro K1 hK1; refine stp_ev rfl ?_; simp only [go_sem, cRowsO_len, List.length_set, set_two, C.one, C.pl]; (first | refine hK1 _ ?_ | refine andk (hK1 _ ?_)); clear hK1 K1)
   (refine zk0 ?_; repeat clear hK K)
   have hm6 : (R[s] ++ [(e, (R.length : Int))]).length = R[s].length + 1 := by first | (simp; done) | (simp; omega)
   have hj6 : ((cRowsO R).set s (C.s 6 (R[s].length + 1)))[s]? = some (.s 6 (R[s].length + 1)) := by rw [List.getElem?_set_self (by rw [cRowsO_len]; exact hs)]
   have hset6 : ((cRowsO R).set s (C.s 6 (R[s].length + 1))).set s (.o (2, 40) (tArcs (R[s] ++ [(e, (R.length : Int))]))) = cRowsO (R.set s (R[s] ++ [(e, (R.length : Int))])) := by rw [set_two, cRowsO_set]
   refine aw_le (le_sink (r := ⟨40, 2, true, cArcs (R[s] ++ [(e, (R.length : Int))])⟩) (ri := ⟨29, 1, true, (cRowsO R).set s (C.s 6 (R[s].length + 1))⟩) (ts := tArcs (R[s] ++ [(e, (R.length : Int))])) 2 s 6 (R[s].length + 1) (by decide) rfl hj6 rfl rfl (show 0 < 2 by omega) (by rw [cArcs_len, hm6]) (fz_ca _)) ?_
   simp only [hset6, go_sem]
   refine aw_le (le_ot 2 rfl) ?_
   simp only [cRowsO_ot, go_sem]
   refine aw_le (le_sink (r := ⟨29, 1, true, cRows (R.set s (R[s] ++ [(e, (R.length : Int))]))⟩) (ri := ⟨25, 1, false, [.s 2 R.length]⟩) (ts := tRows (R.set s (R[s] ++ [(e, (R.length : Int))]))) 3 0 2 R.length (by decide) rfl rfl rfl rfl (show 0 < 1 by omega) (by simp only [cRows_len, List.length_set]; omega) (fz_cr _)) ?_
   refine aw_le (le_ot 3 rfl) ?_
   simp only [otC, List.map_cons, List.map_nil, go_sem]
   (refine wk0 ?_; (repeat clear hK K); repeat (refine Kq.mk ?_; intro K hK))
   ((try refine aw_ret ?_); (try simp only [ThenA, InBl]); refine ret_le (le_pick [0, 1] rfl rfl) ?_; (try simp only [List.set_nil, List.take_nil, List.take_zero, List.map_append, go_sem]); ((try refine aw_ret ?_); (try refine lst_nil ?_); (try simp only [ThenA, InBl]); refine ret_mk (by first | exact .inl rfl | exact .inr rfl) rfl ?_; simp only [rtn, resA, resL, resV, Tryz.results13, go_sem, true_and, and_true, C.pl, List.all_cons, List.all_nil, Bool.and_true, List.take_succ_cons, List.take_zero, List.drop_zero]))
   refine ⟨a4, R.set s (R[s] ++ [(e, (R.length : Int))]), rfl, rfl, by omega, by simp; omega, fun q hq => ?_⟩
   rcases List.mem_or_eq_of_mem_set hq with hq | rfl
   ·have := hr q hq; omega
   ·rw [hm6]; omega
  ·(repeat (((repeat (first | (refine aw_seq ?_; intro K hK) | refine aw_block ?_ | refine aw_region ?_ | (refine lst_x rfl rfl ?_; intro K1 hK1; simp only [go_sem, Int.cast_ofNat_Int, Int.reduceBEq, Int.reduceNeg]; (first | refine hK1 _ ?_ | refine andk (hK1 _ ?_)); clear hK1 K1) | ((first | refine lst_nil ?_ | refine aw_skip ?_); refine hK _ ?_; clear hK K)))); (refine aw_cnd ?_; intro X Y hX hY; simp only [go_sem, Int.cast_ofNat_Int, Int.reduceBEq]); (first | refine hX ?_ | refine hY ?_); clear hX hY X Y))
   (repeat (first | (refine aw_seq ?_; intro K hK) | refine aw_block ?_ | refine aw_region ?_ | (refine lst_x rfl rfl ?_; intro K1 hK1; simp only [go_sem, Int.cast_ofNat_Int, Int.reduceBEq]; (first | refine hK1 _ ?_ | refine andk (hK1 _ ?_)); clear hK1 K1) | ((first | refine lst_nil ?_ | refine aw_skip ?_); refine hK _ ?_; clear hK K)))
   (refine aw_regionZ [3] (.m 0 0 0 (.m 2 0 0 (.m 3 0 0 (.m 5 0 0 (.m 8 0 0 (.m 1 1 14 (.m 4 1 12 (.m 6 0 0 (.m 7 1 12 (.m 9 1 11 (.m 10 0 0 (.a 11 (.a 12 (.m 13 0 0 (.a 14 .e))))))))))))))) (by kernel_rfl) (by kernel_rfl) (by intro c st h; simp [ThenA, InBl, Ret] at h) ?_)
   (refine zk1 (an @cRowsO_len (cRowsO_get hgs)) ?_; repeat clear hK K)
   (refine z_2 rfl rfl ?_; intro K1 hK1; refine stpF_a rfl ?_; simp only [go_sem]; (first | refine hK1 _ ?_ | refine andk (hK1 _ ?_)); clear hK1 K1)
   (refine z_2y rfl rfl rfl ?_; intro K1 hK1; refine stpY_ap rfl rfl rfl rfl (by first | rfl | simp only [rowsB, List.getD_cons_zero, List.getD_cons_succ, hne, List.isEmpty_cons, Bool.not_false, Bool.true_and, Bool.and_true, Bool.and_self]) rfl ?_; simp only [go_sem, tArcs_c, tArcs_len, half2, cArcs_snoc, cRowsO_get hgs]; (first | refine hK1 _ ?_ | refine andk (hK1 _ ?_)); clear hK1 K1)
   (refine zk0 ?_; repeat clear hK K)
   (refine z_3 rfl rfl rfl rfl ?_; intro K1 hK1; refine stp_ev rfl ?_; simp only [go_sem, cRowsO_len, List.length_set, set_two, C.one, C.pl]; (first | refine hK1 _ ?_ | refine andk (hK1 _ ?_)); clear hK1 K1)
   (refine zk0 ?_; repeat clear hK K)
   have hm6 : (R[s] ++ [(e, -1)]).length = R[s].length + 1 := by first | (simp; done) | (simp; omega)
   have hj6 : ((cRowsO R).set s (C.s 6 (R[s].length + 1)))[s]? = some (.s 6 (R[s].length + 1)) := by rw [List.getElem?_set_self (by rw [cRowsO_len]; exact hs)]
   have hset6 : ((cRowsO R).set s (C.s 6 (R[s].length + 1))).set s (.o (2, 40) (tArcs (R[s] ++ [(e, -1)]))) = cRowsO (R.set s (R[s] ++ [(e, -1)])) := by rw [set_two, cRowsO_set]
   refine aw_le (le_sink (r := ⟨40, 2, true, cArcs (R[s] ++ [(e, -1)])⟩) (ri := ⟨29, 1, true, (cRowsO R).set s (C.s 6 (R[s].length + 1))⟩) (ts := tArcs (R[s] ++ [(e, -1)])) 2 s 6 (R[s].length + 1) (by decide) rfl hj6 rfl rfl (show 0 < 2 by omega) (by rw [cArcs_len, hm6]) (fz_ca _)) ?_
   simp only [hset6, go_sem]
   refine aw_le (le_ot 2 rfl) ?_
   simp only [cRowsO_ot, go_sem]
   refine aw_le (le_sink (r := ⟨29, 1, true, cRows (R.set s (R[s] ++ [(e, -1)]))⟩) (ri := ⟨25, 1, false, [.s 2 R.length]⟩) (ts := tRows (R.set s (R[s] ++ [(e, -1)]))) 3 0 2 R.length (by decide) rfl rfl rfl rfl (show 0 < 1 by omega) (by simp only [cRows_len, List.length_set]; omega) (fz_cr _)) ?_
   refine aw_le (le_ot 3 rfl) ?_
   simp only [otC, List.map_cons, List.map_nil, go_sem]
   (refine wk0 ?_; (repeat clear hK K); repeat (refine Kq.mk ?_; intro K hK))
   ((try refine aw_ret ?_); (try simp only [ThenA, InBl]); refine ret_le (le_pick [0, 1] rfl rfl) ?_; (try simp only [List.set_nil, List.take_nil, List.take_zero, List.map_append, go_sem]); ((try refine aw_ret ?_); (try refine lst_nil ?_); (try simp only [ThenA, InBl]); refine ret_mk (by first | exact .inl rfl | exact .inr rfl) rfl ?_; simp only [rtn, resA, resL, resV, Tryz.results13, go_sem, true_and, and_true, C.pl, List.all_cons, List.all_nil, Bool.and_true, List.take_succ_cons, List.take_zero, List.drop_zero]))
   refine ⟨a4, R.set s (R[s] ++ [(e, -1)]), rfl, rfl, by omega, by simp; omega, fun q hq => ?_⟩
   rcases List.mem_or_eq_of_mem_set hq with hq | rfl
   ·have := hr q hq; omega
   ·rw [hm6]; omega
  ·(repeat (((repeat (first | (refine aw_seq ?_; intro K hK) | refine aw_block ?_ | refine aw_region ?_ | (refine lst_x rfl rfl ?_; intro K1 hK1; simp only [go_sem, Int.cast_ofNat_Int, Int.reduceBEq, Int.reduceNeg]; (first | refine hK1 _ ?_ | refine andk (hK1 _ ?_)); clear hK1 K1) | ((first | refine lst_nil ?_ | refine aw_skip ?_); refine hK _ ?_; clear hK K)))); (refine aw_cnd ?_; intro X Y hX hY; simp only [go_sem, Int.cast_ofNat_Int, Int.reduceBEq]); (first | refine hX ?_ | refine hY ?_); clear hX hY X Y))
   (repeat (first | (refine aw_seq ?_; intro K hK) | refine aw_block ?_ | refine aw_region ?_ | (refine lst_x rfl rfl ?_; intro K1 hK1; simp only [go_sem, Int.cast_ofNat_Int, Int.reduceBEq]; (first | refine hK1 _ ?_ | refine andk (hK1 _ ?_)); clear hK1 K1) | ((first | refine lst_nil ?_ | refine aw_skip ?_); refine hK _ ?_; clear hK K)))
   (refine aw_regionZ [3] (.m 0 0 0 (.m 2 0 0 (.m 5 0 0 (.m 7 0 0 (.m 1 1 12 (.m 3 1 4 (.m 6 1 10 (.m 8 0 0 (.m 9 1 10 (.a 4 (.a 10 (.m 11 0 0 (.a 12 .e))))))))))))) (by kernel_rfl) (by kernel_rfl) (by intro c st h; simp [ThenA, InBl, Ret] at h) ?_)
   (refine zk1 (an @cRowsO_len (cRowsO_get hgs)) ?_; repeat clear hK K)
   (refine z_2 rfl rfl ?_; intro K1 hK1; refine stpF_a rfl ?_; simp only [go_sem]; (first | refine hK1 _ ?_ | refine andk (hK1 _ ?_)); clear hK1 K1)
   (refine z_2y rfl rfl rfl ?_; intro K1 hK1; refine stpY_ap rfl rfl rfl rfl (by first | rfl | simp only [rowsB, List.getD_cons_zero, List.getD_cons_succ, hne, List.isEmpty_cons, Bool.not_false, Bool.true_and, Bool.and_true, Bool.and_self]) rfl ?_; simp only [go_sem, tArcs_c, tArcs_len, half2, cRowsO_get hgs, List.cons_append, List.nil_append]; (first | refine hK1 _ ?_ | refine andk (hK1 _ ?_)); clear hK1 K1)
   (refine zk0 ?_; repeat clear hK K)
   (refine z_3 rfl rfl rfl rfl ?_; intro K1 hK1; refine stp_ev rfl ?_; simp only [go_sem, cRowsO_len, List.length_set, set_two, C.one, C.pl]; (first | refine hK1 _ ?_ | refine andk (hK1 _ ?_)); clear hK1 K1)
   (refine zk0 ?_; repeat clear hK K)
   have hm6 : ((e, t) :: R[s]).length = 1 + R[s].length := by first | (simp; done) | (simp; omega)
   have hj6 : ((cRowsO R).set s (C.s 6 (1 + R[s].length)))[s]? = some (.s 6 (1 + R[s].length)) := by rw [List.getElem?_set_self (by rw [cRowsO_len]; exact hs)]
   have hset6 : ((cRowsO R).set s (C.s 6 (1 + R[s].length))).set s (.o (2, 40) (tArcs ((e, t) :: R[s]))) = cRowsO (R.set s ((e, t) :: R[s])) := by rw [set_two, cRowsO_set]
   refine aw_le (le_sink (r := ⟨40, 2, true, cArcs ((e, t) :: R[s])⟩) (ri := ⟨29, 1, true, (cRowsO R).set s (C.s 6 (1 + R[s].length))⟩) (ts := tArcs ((e, t) :: R[s])) 2 s 6 (1 + R[s].length) (by decide) rfl hj6 rfl rfl (show 0 < 2 by omega) (by rw [cArcs_len, hm6]) (fz_ca _)) ?_
   simp only [hset6, go_sem]
   refine aw_le (le_ot 2 rfl) ?_
   simp only [cRowsO_ot, go_sem]
   refine aw_le (le_sink (r := ⟨29, 1, true, cRows (R.set s ((e, t) :: R[s]))⟩) (ri := ⟨25, 1, false, [.s 2 R.length]⟩) (ts := tRows (R.set s ((e, t) :: R[s]))) 3 0 2 R.length (by decide) rfl rfl rfl rfl (show 0 < 1 by omega) (by simp only [cRows_len, List.length_set]; omega) (fz_cr _)) ?_
   refine aw_le (le_ot 3 rfl) ?_
   simp only [otC, List.map_cons, List.map_nil, go_sem]
   (refine wk0 ?_; (repeat clear hK K); repeat (refine Kq.mk ?_; intro K hK))
   ((try refine aw_ret ?_); (try simp only [ThenA, InBl]); refine ret_le (le_pick [0, 1] rfl rfl) ?_; (try simp only [List.set_nil, List.take_nil, List.take_zero, List.map_append, go_sem]); ((try refine aw_ret ?_); (try refine lst_nil ?_); (try simp only [ThenA, InBl]); refine ret_mk (by first | exact .inl rfl | exact .inr rfl) rfl ?_; simp only [rtn, resA, resL, resV, Tryz.results13, go_sem, true_and, and_true, C.pl, List.all_cons, List.all_nil, Bool.and_true, List.take_succ_cons, List.take_zero, List.drop_zero]))
   refine ⟨a4, R.set s ((e, t) :: R[s]), rfl, rfl, by omega, by simp; omega, fun q hq => ?_⟩
   rcases List.mem_or_eq_of_mem_set hq with hq | rfl
   ·have := hr q hq; omega
   ·rw [hm6]; omega
  ·(repeat (((repeat (first | (refine aw_seq ?_; intro K hK) | refine aw_block ?_ | refine aw_region ?_ | (refine lst_x rfl rfl ?_; intro K1 hK1; simp only [go_sem, Int.cast_ofNat_Int, Int.reduceBEq, Int.reduceNeg]; (first | refine hK1 _ ?_ | refine andk (hK1 _ ?_)); clear hK1 K1) | ((first | refine lst_nil ?_ | refine aw_skip ?_); refine hK _ ?_; clear hK K)))); (refine aw_cnd ?_; intro X Y hX hY; simp only [go_sem, Int.cast_ofNat_Int, Int.reduceBEq]); (first | refine hX ?_ | refine hY ?_); clear hX hY X Y))
   (repeat (first | (refine aw_seq ?_; intro K hK) | refine aw_block ?_ | refine aw_region ?_ | (refine lst_x rfl rfl ?_; intro K1 hK1; simp only [go_sem, Int.cast_ofNat_Int, Int.reduceBEq]; (first | refine hK1 _ ?_ | refine andk (hK1 _ ?_)); clear hK1 K1) | ((first | refine lst_nil ?_ | refine aw_skip ?_); refine hK _ ?_; clear hK K)))
   (refine aw_regionZ [3] (.m 0 0 0 (.m 2 0 0 (.m 3 0 0 (.m 5 0 0 (.m 8 0 0 (.m 10 0 0 (.m 1 1 15 (.m 4 1 13 (.m 6 0 0 (.m 7 1 13 (.m 9 1 13 (.m 11 0 0 (.m 12 1 13 (.a 13 (.m 14 0 0 (.a 15 .e)))))))))))))))) (by kernel_rfl) (by kernel_rfl) (by intro c st h; simp [ThenA, InBl, Ret] at h) ?_)
   (refine zk1 (an @cRowsO_len (cRowsO_get hgs)) ?_; repeat clear hK K)
   (refine z_2y rfl rfl rfl ?_; intro K1 hK1; refine stpY_ap rfl rfl rfl rfl (by first | rfl | simp only [rowsB, List.getD_cons_zero, List.getD_cons_succ, hne, List.isEmpty_cons, Bool.not_false, Bool.true_and, Bool.and_true, Bool.and_self]) rfl ?_; simp only [go_sem, tArcs_c, tArcs_len, half2, cArcs_app, cRowsO_get hgs]; (first | refine hK1 _ ?_ | refine andk (hK1 _ ?_)); clear hK1 K1)
   (refine zk0 ?_; repeat clear hK K)
   (refine z_3 rfl rfl rfl rfl ?_; intro K1 hK1; refine stp_ev rfl ?_; simp only [go_sem, cRowsO_len, List.length_set, set_two, C.one, C.pl]; (first | refine hK1 _ ?_ | refine andk (hK1 _ ?_)); clear hK1 K1)
   (refine zk0 ?_; repeat clear hK K)
   have hm6 : (R[s] ++ R[s]).length = R[s].length + R[s].length := by first | (simp; done) | (simp; omega)
   have hj6 : ((cRowsO R).set s (C.s 5 (R[s].length + R[s].length)))[s]? = some (.s 5 (R[s].length + R[s].length)) := by rw [List.getElem?_set_self (by rw [cRowsO_len]; exact hs)]
   have hset6 : ((cRowsO R).set s (C.s 5 (R[s].length + R[s].length))).set s (.o (2, 40) (tArcs (R[s] ++ R[s]))) = cRowsO (R.set s (R[s] ++ R[s])) := by rw [set_two, cRowsO_set]
   refine aw_le (le_sink (r := ⟨40, 2, true, cArcs (R[s] ++ R[s])⟩) (ri := ⟨29, 1, true, (cRowsO R).set s (C.s 5 (R[s].length + R[s].length))⟩) (ts := tArcs (R[s] ++ R[s])) 2 s 5 (R[s].length + R[s].length) (by decide) rfl hj6 rfl rfl (show 0 < 2 by omega) (by rw [cArcs_len, hm6]) (fz_ca _)) ?_
   simp only [hset6, go_sem]
   refine aw_le (le_ot 2 rfl) ?_
   simp only [cRowsO_ot, go_sem]
   refine aw_le (le_sink (r := ⟨29, 1, true, cRows (R.set s (R[s] ++ R[s]))⟩) (ri := ⟨25, 1, false, [.s 2 R.length]⟩) (ts := tRows (R.set s (R[s] ++ R[s]))) 3 0 2 R.length (by decide) rfl rfl rfl rfl (show 0 < 1 by omega) (by simp only [cRows_len, List.length_set]; omega) (fz_cr _)) ?_
   refine aw_le (le_ot 3 rfl) ?_
   simp only [otC, List.map_cons, List.map_nil, go_sem]
   (refine wk0 ?_; (repeat clear hK K); repeat (refine Kq.mk ?_; intro K hK))
   ((try refine aw_ret ?_); (try simp only [ThenA, InBl]); refine ret_le (le_pick [0, 1] rfl rfl) ?_; (try simp only [List.set_nil, List.take_nil, List.take_zero, List.map_append, go_sem]); ((try refine aw_ret ?_); (try refine lst_nil ?_); (try simp only [ThenA, InBl]); refine ret_mk (by first | exact .inl rfl | exact .inr rfl) rfl ?_; simp only [rtn, resA, resL, resV, Tryz.results13, go_sem, true_and, and_true, C.pl, List.all_cons, List.all_nil, Bool.and_true, List.take_succ_cons, List.take_zero, List.drop_zero]))
   refine ⟨a4, R.set s (R[s] ++ R[s]), rfl, rfl, by omega, by simp; omega, fun q hq => ?_⟩
   rcases List.mem_or_eq_of_mem_set hq with hq | rfl
   ·have := hr q hq; omega
   ·rw [hm6]; omega
 clear hK
 (refine aw_regionZ [3] (.m 0 0 0 (.m 2 0 0 (.m 3 0 0 (.m 4 1 6 (.m 5 0 0 (.f 1 (.f 6 (.m 7 0 0 (.a 8 (.a 9 .e))) 8 (.a 6 (.m 7 0 0 (.a 9 .e)))) 8 (.a 1 (.a 6 (.m 7 0 0 (.a 9 .e)))))))))) (by kernel_rfl) (by kernel_rfl) (by intro c st h; simp [ThenA, InBl, Ret] at h) ?_)
 (refine zk0 ?_; repeat clear hK K)
 refine z_f ?_ ?_
 ·(refine z_2y rfl rfl rfl ?_; intro K1 hK1; refine stpY_X (σ := [0]) (by first | rfl | simp only [rowsB, List.getD_cons_zero, List.getD_cons_succ, hne, List.isEmpty_cons, Bool.not_false, Bool.true_and, Bool.and_true, Bool.and_self]) rfl rfl rfl rfl ?_; refine stpX_call (ids := []) [0] (event_fc T hT (a + 1) (by omega)) rfl rfl (by simp only [go_sem]) (by kernel_rfl) rfl rfl rfl (by (simp only [go_sem]) <;> rfl) (by (simp only [pkh, tape, go_sem]) <;> rfl) ?_ ?_)
  ·rintro _ _ ⟨rfl, v, rfl, _⟩; exact born_one rfl
  rintro _ _ ⟨rfl, e, rfl, he⟩
  (simp only [aInts, aSets, tape, cRowsO_up, List.append_nil, List.nil_append, List.length_map, go_sem]; refine hK1 _ ?_; clear hK1 K1)
  (refine zk0 ?_; repeat clear hK K)
  refine z_f ?_ ?_
  ·(refine z_2y rfl rfl rfl ?_; intro K1 hK1; refine stpY_X (σ := [0]) (by first | rfl | simp only [rowsB, List.getD_cons_zero, List.getD_cons_succ, hne, List.isEmpty_cons, Bool.not_false, Bool.true_and, Bool.and_true, Bool.and_self]) rfl rfl rfl rfl ?_; refine stpX_call (ids := []) [0] (next_fc T (a + 1 + 1) R.length hT (by omega) (by omega)) rfl rfl (by simp only [go_sem]) (by kernel_rfl) rfl rfl rfl (by (simp only [go_sem]) <;> rfl) (by (simp only [pkh, tape, go_sem]) <;> rfl) ?_ ?_)
   ·rintro _ _ ⟨rfl, v, rfl, _⟩; exact born_one rfl
   rintro _ _ ⟨rfl, t, rfl, ht⟩
   (simp only [aInts, aSets, tape, cRowsO_up, List.append_nil, List.nil_append, List.length_map, go_sem]; refine hK1 _ ?_; clear hK1 K1)
   (refine zk0 ?_; repeat clear hK K)
   (refine z_2 rfl rfl ?_; intro K1 hK1; refine stpF_a rfl ?_; simp only [go_sem]; (first | refine hK1 _ ?_ | refine andk (hK1 _ ?_)); clear hK1 K1)
   (refine z_3 rfl rfl rfl rfl ?_; intro K1 hK1; refine stp_ev rfl ?_; simp only [go_sem]; (first | refine hK1 _ ?_ | refine andk (hK1 _ ?_)); clear hK1 K1)
   refine z_nil ⟨by simp, by simp, ?_⟩
   refine hK2 _ e t (a + 1 + 1 + 1) (by omega) ?_
   exact lmz
  ·(refine z_2 rfl rfl ?_; intro K1 hK1; refine stpF_a rfl ?_; simp only [go_sem]; (first | refine hK1 _ ?_ | refine andk (hK1 _ ?_)); clear hK1 K1)
   (refine z_2y rfl rfl rfl ?_; intro K1 hK1; refine stpY_X (σ := [0]) (by first | rfl | simp only [rowsB, List.getD_cons_zero, List.getD_cons_succ, hne, List.isEmpty_cons, Bool.not_false, Bool.true_and, Bool.and_true, Bool.and_self]) rfl rfl rfl rfl ?_; refine stpX_call (ids := []) [0] (next_fc T (a + 1 + 1) R.length hT (by omega) (by omega)) rfl rfl (by simp only [go_sem]) (by kernel_rfl) rfl rfl rfl (by (simp only [go_sem]) <;> rfl) (by (simp only [pkh, tape, go_sem]) <;> rfl) ?_ ?_)
   ·rintro _ _ ⟨rfl, v, rfl, _⟩; exact born_one rfl
   rintro _ _ ⟨rfl, t, rfl, ht⟩
   (simp only [aInts, aSets, tape, cRowsO_up, List.append_nil, List.nil_append, List.length_map, go_sem]; refine hK1 _ ?_; clear hK1 K1)
   (refine zk0 ?_; repeat clear hK K)
   (refine z_3 rfl rfl rfl rfl ?_; intro K1 hK1; refine stp_ev rfl ?_; simp only [go_sem]; (first | refine hK1 _ ?_ | refine andk (hK1 _ ?_)); clear hK1 K1)
   refine z_nil ⟨by simp, by simp, ?_⟩
   refine hK2 _ e t (a + 1 + 1 + 1) (by omega) ?_
   exact lmz
 ·(refine z_2 rfl rfl ?_; intro K1 hK1; refine stpF_a rfl ?_; simp only [go_sem]; (first | refine hK1 _ ?_ | refine andk (hK1 _ ?_)); clear hK1 K1)
  (refine z_2y rfl rfl rfl ?_; intro K1 hK1; refine stpY_X (σ := [0]) (by first | rfl | simp only [rowsB, List.getD_cons_zero, List.getD_cons_succ, hne, List.isEmpty_cons, Bool.not_false, Bool.true_and, Bool.and_true, Bool.and_self]) rfl rfl rfl rfl ?_; refine stpX_call (ids := []) [0] (event_fc T hT (a + 1) (by omega)) rfl rfl (by simp only [go_sem]) (by kernel_rfl) rfl rfl rfl (by (simp only [go_sem]) <;> rfl) (by (simp only [pkh, tape, go_sem]) <;> rfl) ?_ ?_)
  ·rintro _ _ ⟨rfl, v, rfl, _⟩; exact born_one rfl
  rintro _ _ ⟨rfl, e, rfl, he⟩
  (simp only [aInts, aSets, tape, cRowsO_up, List.append_nil, List.nil_append, List.length_map, go_sem]; refine hK1 _ ?_; clear hK1 K1)
  (refine zk0 ?_; repeat clear hK K)
  (refine z_2y rfl rfl rfl ?_; intro K1 hK1; refine stpY_X (σ := [0]) (by first | rfl | simp only [rowsB, List.getD_cons_zero, List.getD_cons_succ, hne, List.isEmpty_cons, Bool.not_false, Bool.true_and, Bool.and_true, Bool.and_self]) rfl rfl rfl rfl ?_; refine stpX_call (ids := []) [0] (next_fc T (a + 1 + 1) R.length hT (by omega) (by omega)) rfl rfl (by simp only [go_sem]) (by kernel_rfl) rfl rfl rfl (by (simp only [go_sem]) <;> rfl) (by (simp only [pkh, tape, go_sem]) <;> rfl) ?_ ?_)
  ·rintro _ _ ⟨rfl, v, rfl, _⟩; exact born_one rfl
  rintro _ _ ⟨rfl, t, rfl, ht⟩
  (simp only [aInts, aSets, tape, cRowsO_up, List.append_nil, List.nil_append, List.length_map, go_sem]; refine hK1 _ ?_; clear hK1 K1)
  (refine zk0 ?_; repeat clear hK K)
  (refine z_3 rfl rfl rfl rfl ?_; intro K1 hK1; refine stp_ev rfl ?_; simp only [go_sem]; (first | refine hK1 _ ?_ | refine andk (hK1 _ ?_)); clear hK1 K1)
  refine z_nil ⟨by simp, by simp, ?_⟩
  refine hK2 _ e t (a + 1 + 1 + 1) (by omega) ?_
  exact lmz
end Go.Proofs.YthlckclbjknldaaGreat
