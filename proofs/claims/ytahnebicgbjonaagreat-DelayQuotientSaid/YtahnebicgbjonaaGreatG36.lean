/- Systems spoiled. Systems drawn as rows of the caller's: LTS; Chain. Calm; Huge. Bounds of the canonical form, Same at nil systems, Chain at 8. ref25.SilentQuotient; both quotients are the same. Numbering by first occurrence, and rounds of refinement, plain. -/
import Derived.Test.YtahnebicgbjonaaGreatZk
import Derived.Test.YtahnebicgbjonaaGreatMG
import Derived.Test.YtahnebicgbjonaaGreatG11
import Derived.Test.YtahnebicgbjonaaGreatFw1
import Derived.Test.YtahnebicgbjonaaGreatG45
namespace Go.Proofs.YtahnebicgbjonaaGreat
set_option linter.unusedVariables false
set_option linter.unusedSimpArgs false
open Go.RowKit
set_option maxRecDepth 100000
attribute [local go_sem] List.set_cons_zero List.set_cons_succ List.map_cons List.map_nil List.take_succ_cons List.take_zero List.drop_zero List.drop_succ_cons C.pl C.one List.all_cons List.all_nil Bool.and_true

theorem set_two (L : List C) (s : Nat) (x y : C) : (L.set s x).set s y = L.set s y := by simp
set_option maxHeartbeats 2000000 in
theorem spoil_fc (T : List Int) (hT : TpOk T) (a : Nat) (R : List (List Ar)) (ha : a ≤ 1000000) (h1 : 1 ≤ R.length) (hn : R.length ≤ 20) (hr : ∀ r ∈ R, r.length ≤ 1000) :
  FC Tryz.prog 19 [.a (.c (.p 0 0)), aLts R] [tape T a] (fun r o => ∃ (a' : Nat) (R' : List (List Ar)), o = [tape T a', oLts R'] ∧ r = aLts R' ∧ a' ≤ a + 4 ∧ R'.length ≤ 20 ∧ ∀ q ∈ R', q.length ≤ 2001) := by
 refine fc_intro Tryz.func19 rfl (by rw [Tryz.ntmps19]; simp) ?_
 rw [Tryz.ntmps19]
 simp only [enum, tape, aLts, oLts]
 have e0 : ((R.length : Int) == 0) = false := beq_eq_false_iff_ne.2 (by omega)
 (refine wk0 ?_; (repeat clear hK K); repeat (refine Kq.mk ?_; intro K hK))
 (refine ckz (copyO_fc R (by omega) (fun q hq => by have := hr q hq; omega)) ?_; intro K1 hK1)
 rintro _ _ ⟨rfl, rfl⟩
 (simp only [aInts, aSets, cRowsO_up, List.append_nil, List.nil_append, List.length_map, go_sem]; refine hK1 _ ?_; clear hK1 K1)
 (refine wk1 @e0 ?_; (repeat clear hK K); repeat (refine Kq.mk ?_; intro K hK))
 refine cyz ?_
 refine aw_le (le_pick [0, 2, 3, 5] rfl rfl) ?_
 (try simp only [List.set_nil, List.take_nil, List.take_zero, List.map_append, go_sem])
 (try simp only [cRowsO_ren])
 (refine wk0 ?_; (repeat clear hK K); repeat (refine Kq.mk ?_; intro K hK))
 (refine lst_cons rfl ?_; intro K1 hK1; refine stp_callσ (ids := []) [0] (next_fc T a R.length hT (by omega) (by omega)) rfl rfl (by simp only [go_sem]) (by first | assumption | kernel_rfl) rfl rfl (by (simp only [List.map_append, List.append_nil, go_sem]) <;> rfl) (by (simp only [pkh, tape, go_sem]) <;> rfl) ?_ ?_)
 ·rintro _ _ ⟨rfl, v, rfl, _⟩; rfl
 rintro _ _ ⟨rfl, s, rfl, hs⟩
 (simp only [aInts, aSets, tape, cRowsO_up, List.append_nil, List.nil_append, List.length_map, go_sem]; refine hK1 _ ?_; clear hK1 K1)
 replace hs : s < R.length := by omega
 (refine wk0 ?_; (repeat clear hK K); repeat (refine Kq.mk ?_; intro K hK))
 have hgs := List.getElem?_eq_getElem hs
 have hrs := hr _ (List.getElem_mem hs)
 have hK2 : ∀ (st' : ST) (e t : Int) (a3 : Nat), a3 ≤ a + 3 → Le st' { tm := [(0, .a (.c (.p 0 0))), (4, .a (.c (.p 1 0))), (5, .a (.c (.p 3 0))), (6, .i s), (7, .a (.c (.p 4 0)))], hp := [.r ⟨43, 2, false, [.t 1 (tInts T), .v (.int .i64 a3)]⟩, .r ⟨25, 1, false, [.v (.slice none 0 0)]⟩, .r ⟨45, 1, true, cRowsO R⟩, .r ⟨25, 1, false, [.s 2 R.length]⟩, .r ⟨49, 2, false, [.v (.int .i64 e), .v (.int .i64 t)]⟩], n := 130, pin := 1 } → K st' := by
  intro st' e t a3 ha3 hl
  refine hK st' (aw_le hl ?_)
  clear hl hK K
  (refine wk0 ?_; (repeat clear hK K); repeat (refine Kq.mk ?_; intro K hK))
  (refine lst_cons rfl ?_; intro K1 hK1; refine stp_callσ (ids := []) [0] (next_fc T a3 7 hT (by omega) (by omega)) rfl rfl (by simp only [go_sem]) (by first | assumption | kernel_rfl) rfl rfl (by (simp only [List.map_append, List.append_nil, go_sem]) <;> rfl) (by (simp only [pkh, tape, go_sem]) <;> rfl) ?_ ?_)
  ·rintro _ _ ⟨rfl, v, rfl, _⟩; rfl
  rintro _ _ ⟨rfl, v, rfl, hv⟩
  (simp only [aInts, aSets, tape, cRowsO_up, List.append_nil, List.nil_append, List.length_map, go_sem]; refine hK1 _ ?_; clear hK1 K1)
  obtain ⟨a4, ha4⟩ : ∃ a4, a4 = a3 + 1 := ⟨_, rfl⟩
  rw [← ha4]
  rcases (show v = 0 ∨ v = 1 ∨ v = 2 ∨ v = 3 ∨ v = 4 ∨ v = 5 ∨ v = 6 by omega) with rfl | rfl | rfl | rfl | rfl | rfl | rfl
  ·(repeat (((repeat (first | (refine aw_seq ?_; intro K hK) | refine aw_block ?_ | refine aw_region ?_ | (refine lst_x rfl rfl ?_; intro K1 hK1; simp only [go_sem, Int.natCast_zero, Int.reduceBEq, Int.reduceNeg]; (first | refine hK1 _ ?_ | refine andk (hK1 _ ?_)); clear hK1 K1) | ((first | refine lst_nil ?_ | refine aw_skip ?_); refine hK _ ?_; clear hK K)))); (refine aw_cnd ?_; intro X Y hX hY; simp only [go_sem, Int.natCast_zero, Int.reduceBEq]); (first | refine hX ?_ | refine hY ?_); clear hX hY X Y))
   (repeat (first | (refine aw_seq ?_; intro K hK) | refine aw_block ?_ | refine aw_region ?_ | (refine lst_x rfl rfl ?_; intro K1 hK1; simp only [go_sem, Int.natCast_zero, Int.reduceBEq]; (first | refine hK1 _ ?_ | refine andk (hK1 _ ?_)); clear hK1 K1) | ((first | refine lst_nil ?_ | refine aw_skip ?_); refine hK _ ?_; clear hK K)))
   (try refine aw_ret ?_)
   (try simp only [ThenA, InBl])
   refine ret_le (le_nt 1 [1] rfl) ?_
   simp only [ntA, ntC, List.set_cons_zero, List.set_cons_succ]
   ((try refine aw_ret ?_); (try simp only [ThenA, InBl]); refine ret_le (le_pick [0, 1] rfl rfl) ?_; (try simp only [List.set_nil, List.take_nil, List.take_zero, List.map_append, go_sem]); ((try refine aw_ret ?_); (try refine lst_nil ?_); (try simp only [ThenA, InBl]); refine ret_mk (by first | exact .inl rfl | exact .inr rfl) rfl ?_; simp only [rtn, resA, resL, resV, Tryz.results19, go_sem, true_and, and_true, C.pl, List.all_cons, List.all_nil, Bool.and_true, List.take_succ_cons, List.take_zero, List.drop_zero]))
   exact ⟨a4, [], rfl, rfl, by omega, by simp, by simp⟩
  ·(repeat (((repeat (first | (refine aw_seq ?_; intro K hK) | refine aw_block ?_ | refine aw_region ?_ | (refine lst_x rfl rfl ?_; intro K1 hK1; simp only [go_sem, Int.natCast_one, Int.reduceBEq, Int.reduceNeg]; (first | refine hK1 _ ?_ | refine andk (hK1 _ ?_)); clear hK1 K1) | ((first | refine lst_nil ?_ | refine aw_skip ?_); refine hK _ ?_; clear hK K)))); (refine aw_cnd ?_; intro X Y hX hY; simp only [go_sem, Int.natCast_one, Int.reduceBEq]); (first | refine hX ?_ | refine hY ?_); clear hX hY X Y))
   (repeat (first | (refine aw_seq ?_; intro K hK) | refine aw_block ?_ | refine aw_region ?_ | (refine lst_x rfl rfl ?_; intro K1 hK1; simp only [go_sem, Int.natCast_one, Int.reduceBEq]; (first | refine hK1 _ ?_ | refine andk (hK1 _ ?_)); clear hK1 K1) | ((first | refine lst_nil ?_ | refine aw_skip ?_); refine hK _ ?_; clear hK K)))
   (refine aw_regionZ [3] (.m 0 0 0 (.m 2 0 0 (.m 3 0 0 (.m 5 0 0 (.m 8 0 0 (.m 1 1 14 (.m 4 1 12 (.m 6 0 0 (.m 7 1 12 (.m 9 1 11 (.m 10 0 0 (.a 11 (.a 12 (.m 13 0 0 (.a 14 .e))))))))))))))) (by kernel_rfl) (by kernel_rfl) (by intro c st h; simp [ThenA, InBl, Ret] at h) ?_)
   (refine zk1 (an @cRowsO_len (cRowsO_get hgs)) ?_; repeat clear hK K)
   (refine z_2 rfl rfl ?_; intro K1 hK1; refine stpF_a rfl ?_; simp only [go_sem]; (first | refine hK1 _ ?_ | refine andk (hK1 _ ?_)); clear hK1 K1)
   (refine z_2y rfl rfl rfl ?_; intro K1 hK1; refine stpY_ap rfl rfl rfl rfl (by first | rfl | simp only [rowsB, List.getD_cons_zero, List.getD_cons_succ, hne, List.isEmpty_cons, Bool.not_false, Bool.true_and, Bool.and_true, Bool.and_self]) rfl ?_; simp only [go_sem, tArcs_c, tArcs_len, half2, cArcs_snoc, cRowsO_get hgs]; (first | refine hK1 _ ?_ | refine andk (hK1 _ ?_)); clear hK1 K1)
   (refine zk0 ?_; repeat clear hK K)
   (refine z_3 rfl rfl rfl rfl ?_; intro K1 hK1; refine stp_ev rfl ?_; simp only [go_sem, cRowsO_len, List.length_set, set_two, C.one, C.pl]; (first | refine hK1 _ ?_ | refine andk (hK1 _ ?_)); clear hK1 K1)
   (refine zk0 ?_; repeat clear hK K)
   have hm6 : (R[s] ++ [(-1, t)]).length = R[s].length + 1 := by first | (simp; done) | (simp; omega)
   have hj6 : ((cRowsO R).set s (C.s 6 (R[s].length + 1)))[s]? = some (.s 6 (R[s].length + 1)) := by rw [List.getElem?_set_self (by rw [cRowsO_len]; exact hs)]
   have hset6 : ((cRowsO R).set s (C.s 6 (R[s].length + 1))).set s (.o (2, 49) (tArcs (R[s] ++ [(-1, t)]))) = cRowsO (R.set s (R[s] ++ [(-1, t)])) := by rw [set_two, cRowsO_set]
   refine aw_le (le_sink (r := ⟨49, 2, true, cArcs (R[s] ++ [(-1, t)])⟩) (ri := ⟨45, 1, true, (cRowsO R).set s (C.s 6 (R[s].length + 1))⟩) (ts := tArcs (R[s] ++ [(-1, t)])) 2 s 6 (R[s].length + 1) (by decide) rfl hj6 rfl rfl (show 0 < 2 by omega) (by rw [cArcs_len, hm6]) (fz_ca _)) ?_
   simp only [hset6, go_sem]
   refine aw_le (le_ot 2 rfl) ?_
   simp only [cRowsO_ot, go_sem]
   refine aw_le (le_sink (r := ⟨45, 1, true, cRows (R.set s (R[s] ++ [(-1, t)]))⟩) (ri := ⟨25, 1, false, [.s 2 R.length]⟩) (ts := tRows (R.set s (R[s] ++ [(-1, t)]))) 3 0 2 R.length (by decide) rfl rfl rfl rfl (show 0 < 1 by omega) (by simp only [cRows_len, List.length_set]; omega) (fz_cr _)) ?_
   refine aw_le (le_ot 3 rfl) ?_
   simp only [otC, List.map_cons, List.map_nil, go_sem]
   (refine wk0 ?_; (repeat clear hK K); repeat (refine Kq.mk ?_; intro K hK))
   ((try refine aw_ret ?_); (try simp only [ThenA, InBl]); refine ret_le (le_pick [0, 1] rfl rfl) ?_; (try simp only [List.set_nil, List.take_nil, List.take_zero, List.map_append, go_sem]); ((try refine aw_ret ?_); (try refine lst_nil ?_); (try simp only [ThenA, InBl]); refine ret_mk (by first | exact .inl rfl | exact .inr rfl) rfl ?_; simp only [rtn, resA, resL, resV, Tryz.results19, go_sem, true_and, and_true, C.pl, List.all_cons, List.all_nil, Bool.and_true, List.take_succ_cons, List.take_zero, List.drop_zero]))
   refine ⟨a4, R.set s (R[s] ++ [(-1, t)]), rfl, rfl, by omega, by simp; omega, fun q hq => ?_⟩
   rcases List.mem_or_eq_of_mem_set hq with hq | rfl
   ·have := hr q hq; omega
   ·rw [hm6]; omega
  ·(repeat (((repeat (first | (refine aw_seq ?_; intro K hK) | refine aw_block ?_ | refine aw_region ?_ | (refine lst_x rfl rfl ?_; intro K1 hK1; simp only [go_sem, Int.cast_ofNat_Int, Int.reduceBEq, Int.reduceNeg]; (first | refine hK1 _ ?_ | refine andk (hK1 _ ?_)); clear hK1 K1) | ((first | refine lst_nil ?_ | refine aw_skip ?_); refine hK _ ?_; clear hK K)))); (refine aw_cnd ?_; intro X Y hX hY; simp only [go_sem, Int.cast_ofNat_Int, Int.reduceBEq]); (first | refine hX ?_ | refine hY ?_); clear hX hY X Y))
   (repeat (first | (refine aw_seq ?_; intro K hK) | refine aw_block ?_ | refine aw_region ?_ | (refine lst_x rfl rfl ?_; intro K1 hK1; simp only [go_sem, Int.cast_ofNat_Int, Int.reduceBEq]; (first | refine hK1 _ ?_ | refine andk (hK1 _ ?_)); clear hK1 K1) | ((first | refine lst_nil ?_ | refine aw_skip ?_); refine hK _ ?_; clear hK K)))
   (refine aw_regionZ [3] (.m 0 0 0 (.m 2 0 0 (.m 3 0 0 (.m 5 0 0 (.m 8 0 0 (.m 1 1 14 (.m 4 1 12 (.m 6 0 0 (.m 7 1 12 (.m 9 1 11 (.m 10 0 0 (.a 11 (.a 12 (.m 13 0 0 (.a 14 .e))))))))))))))) (by kernel_rfl) (by kernel_rfl) (by intro c st h; simp [ThenA, InBl, Ret] at h) ?_)
   (refine zk1 (an @cRowsO_len (cRowsO_get hgs)) ?_; repeat clear hK K)
   (refine z_2 rfl rfl ?_; intro K1 hK1; refine stpF_a rfl ?_; simp only [go_sem]; (first | refine hK1 _ ?_ | refine andk (hK1 _ ?_)); clear hK1 K1)
   (refine z_2y rfl rfl rfl ?_; intro K1 hK1; refine stpY_ap rfl rfl rfl rfl (by first | rfl | simp only [rowsB, List.getD_cons_zero, List.getD_cons_succ, hne, List.isEmpty_cons, Bool.not_false, Bool.true_and, Bool.and_true, Bool.and_self]) rfl ?_; simp only [go_sem, tArcs_c, tArcs_len, half2, cArcs_snoc, cRowsO_get hgs]; (first | refine hK1 _ ?_ | refine andk (hK1 _ ?_)); clear hK1 K1)
   (refine zk0 ?_; repeat clear hK K)
   (refine z_3 rfl rfl rfl rfl ?_; intro K1 hK1; refine stp_ev rfl ?_; simp only [go_sem, cRowsO_len, List.length_set, set_two, C.one, C.pl]; (first | refine hK1 _ ?_ | refine andk (hK1 _ ?_)); clear hK1 K1)
   (refine zk0 ?_; repeat clear hK K)
   have hm6 : (R[s] ++ [(1026, t)]).length = R[s].length + 1 := by first | (simp; done) | (simp; omega)
   have hj6 : ((cRowsO R).set s (C.s 6 (R[s].length + 1)))[s]? = some (.s 6 (R[s].length + 1)) := by rw [List.getElem?_set_self (by rw [cRowsO_len]; exact hs)]
   have hset6 : ((cRowsO R).set s (C.s 6 (R[s].length + 1))).set s (.o (2, 49) (tArcs (R[s] ++ [(1026, t)]))) = cRowsO (R.set s (R[s] ++ [(1026, t)])) := by rw [set_two, cRowsO_set]
   refine aw_le (le_sink (r := ⟨49, 2, true, cArcs (R[s] ++ [(1026, t)])⟩) (ri := ⟨45, 1, true, (cRowsO R).set s (C.s 6 (R[s].length + 1))⟩) (ts := tArcs (R[s] ++ [(1026, t)])) 2 s 6 (R[s].length + 1) (by decide) rfl hj6 rfl rfl (show 0 < 2 by omega) (by rw [cArcs_len, hm6]) (fz_ca _)) ?_
   simp only [hset6, go_sem]
   refine aw_le (le_ot 2 rfl) ?_
   simp only [cRowsO_ot, go_sem]
   refine aw_le (le_sink (r := ⟨45, 1, true, cRows (R.set s (R[s] ++ [(1026, t)]))⟩) (ri := ⟨25, 1, false, [.s 2 R.length]⟩) (ts := tRows (R.set s (R[s] ++ [(1026, t)]))) 3 0 2 R.length (by decide) rfl rfl rfl rfl (show 0 < 1 by omega) (by simp only [cRows_len, List.length_set]; omega) (fz_cr _)) ?_
   refine aw_le (le_ot 3 rfl) ?_
   simp only [otC, List.map_cons, List.map_nil, go_sem]
   (refine wk0 ?_; (repeat clear hK K); repeat (refine Kq.mk ?_; intro K hK))
   ((try refine aw_ret ?_); (try simp only [ThenA, InBl]); refine ret_le (le_pick [0, 1] rfl rfl) ?_; (try simp only [List.set_nil, List.take_nil, List.take_zero, List.map_append, go_sem]); ((try refine aw_ret ?_); (try refine lst_nil ?_); (try simp only [ThenA, InBl]); refine ret_mk (by first | exact .inl rfl | exact .inr rfl) rfl ?_; simp only [rtn, resA, resL, resV, Tryz.results19, go_sem, true_and, and_true, C.pl, List.all_cons, List.all_nil, Bool.and_true, List.take_succ_cons, List.take_zero, List.drop_zero]))
   refine ⟨a4, R.set s (R[s] ++ [(1026, t)]), rfl, rfl, by omega, by simp; omega, fun q hq => ?_⟩
   rcases List.mem_or_eq_of_mem_set hq with hq | rfl
   ·have := hr q hq; omega
   ·rw [hm6]; omega
  ·(repeat (((repeat (first | (refine aw_seq ?_; intro K hK) | refine aw_block ?_ | refine aw_region ?_ | (refine lst_x rfl rfl ?_; intro K1 hK1; simp only [go_sem, Int.cast_ofNat_Int, Int.reduceBEq, Int.reduceNeg]; (first | refine hK1 _ ?_ | refine andk (hK1 _ ?_)); clear hK1 K1) | ((first | refine lst_nil ?_ | refine aw_skip ?_); refine hK _ ?_; clear hK K)))); (refine aw_cnd ?_; intro X Y hX hY; simp only [go_sem, Int.cast_ofNat_Int, Int.reduceBEq]); (first | refine hX ?_ | refine hY ?_); clear hX hY X Y))
   (repeat (first | (refine aw_seq ?_; intro K hK) | refine aw_block ?_ | refine aw_region ?_ | (refine lst_x rfl rfl ?_; intro K1 hK1; simp only [go_sem, Int.cast_ofNat_Int, Int.reduceBEq]; (first | refine hK1 _ ?_ | refine andk (hK1 _ ?_)); clear hK1 K1) | ((first | refine lst_nil ?_ | refine aw_skip ?_); refine hK _ ?_; clear hK K)))
   (refine aw_regionZ [3] (.m 0 0 0 (.m 2 0 0 (.m 3 0 0 (.m 5 0 0 (.m 8 0 0 (.m 10 0 0 (.m 1 1 17 (.m 4 1 15 (.m 6 0 0 (.m 7 1 15 (.m 9 1 14 (.m 11 1 14 (.m 12 0 0 (.m 13 0 0 (.a 14 (.a 15 (.m 16 0 0 (.a 17 .e)))))))))))))))))) (by kernel_rfl) (by kernel_rfl) (by intro c st h; simp [ThenA, InBl, Ret] at h) ?_)
   (refine zk1 (an @cRowsO_len (cRowsO_get hgs)) ?_; repeat clear hK K)
   (refine z_2 rfl rfl ?_; intro K1 hK1; refine stpF_a rfl ?_; simp only [go_sem]; (first | refine hK1 _ ?_ | refine andk (hK1 _ ?_)); clear hK1 K1)
   (refine z_2y rfl rfl rfl ?_; intro K1 hK1; refine stpY_ap rfl rfl rfl rfl (by first | rfl | simp only [rowsB, List.getD_cons_zero, List.getD_cons_succ, hne, List.isEmpty_cons, Bool.not_false, Bool.true_and, Bool.and_true, Bool.and_self]) rfl ?_; simp only [go_sem, tArcs_c, tArcs_len, half2, cArcs_snoc, cRowsO_get hgs]; (first | refine hK1 _ ?_ | refine andk (hK1 _ ?_)); clear hK1 K1)
   (refine zk0 ?_; repeat clear hK K)
   (refine z_3 rfl rfl rfl rfl ?_; intro K1 hK1; refine stp_ev rfl ?_; simp only [go_sem, cRowsO_len, List.length_set, set_two, C.one, C.pl]; (first | refine hK1 _ ?_ | refine andk (hK1 _ ?_)); clear hK1 K1)
   (refine zk0 ?_; repeat clear hK K)
   have hm6 : (R[s] ++ [(e, (R.length : Int))]).length = R[s].length + 1 := by first | (simp; done) | (simp; omega)
   have hj6 : ((cRowsO R).set s (C.s 6 (R[s].length + 1)))[s]? = some (.s 6 (R[s].length + 1)) := by rw [List.getElem?_set_self (by rw [cRowsO_len]; exact hs)]
   have hset6 : ((cRowsO R).set s (C.s 6 (R[s].length + 1))).set s (.o (2, 49) (tArcs (R[s] ++ [(e, (R.length : Int))]))) = cRowsO (R.set s (R[s] ++ [(e, (R.length : Int))])) := by rw [set_two, cRowsO_set]
   refine aw_le (le_sink (r := ⟨49, 2, true, cArcs (R[s] ++ [(e, (R.length : Int))])⟩) (ri := ⟨45, 1, true, (cRowsO R).set s (C.s 6 (R[s].length + 1))⟩) (ts := tArcs (R[s] ++ [(e, (R.length : Int))])) 2 s 6 (R[s].length + 1) (by decide) rfl hj6 rfl rfl (show 0 < 2 by omega) (by rw [cArcs_len, hm6]) (fz_ca _)) ?_
   simp only [hset6, go_sem]
   refine aw_le (le_ot 2 rfl) ?_
   simp only [cRowsO_ot, go_sem]
   refine aw_le (le_sink (r := ⟨45, 1, true, cRows (R.set s (R[s] ++ [(e, (R.length : Int))]))⟩) (ri := ⟨25, 1, false, [.s 2 R.length]⟩) (ts := tRows (R.set s (R[s] ++ [(e, (R.length : Int))]))) 3 0 2 R.length (by decide) rfl rfl rfl rfl (show 0 < 1 by omega) (by simp only [cRows_len, List.length_set]; omega) (fz_cr _)) ?_
   refine aw_le (le_ot 3 rfl) ?_
   simp only [otC, List.map_cons, List.map_nil, go_sem]
   (refine wk0 ?_; (repeat clear hK K); repeat (refine Kq.mk ?_; intro K hK))
   ((try refine aw_ret ?_); (try simp only [ThenA, InBl]); refine ret_le (le_pick [0, 1] rfl rfl) ?_; (try simp only [List.set_nil, List.take_nil, List.take_zero, List.map_append, go_sem]); ((try refine aw_ret ?_); (try refine lst_nil ?_); (try simp only [ThenA, InBl]); refine ret_mk (by first | exact .inl rfl | exact .inr rfl) rfl ?_; simp only [rtn, resA, resL, resV, Tryz.results19, go_sem, true_and, and_true, C.pl, List.all_cons, List.all_nil, Bool.and_true, List.take_succ_cons, List.take_zero, List.drop_zero]))
   refine ⟨a4, R.set s (R[s] ++ [(e, (R.length : Int))]), rfl, rfl, by omega, by simp; omega, fun q hq => ?_⟩
   rcases List.mem_or_eq_of_mem_set hq with hq | rfl
   ·have := hr q hq; omega
   ·rw [hm6]; omega
  ·(repeat (((repeat (first | (refine aw_seq ?_; intro K hK) | refine aw_block ?_ | refine aw_region ?_ | (refine lst_x rfl rfl ?_; intro K1 hK1; simp only [go_sem, Int.cast_ofNat_Int, Int.reduceBEq, Int.reduceNeg]; (first | refine hK1 _ ?_ | refine andk (hK1 _ ?_)); clear hK1 K1) | ((first | refine lst_nil ?_ | refine aw_skip ?_); refine hK _ ?_; clear hK K)))); (refine aw_cnd ?_; intro X Y hX hY; simp only [go_sem, Int.cast_ofNat_Int, Int.reduceBEq]); (first | refine hX ?_ | refine hY ?_); clear hX hY X Y))
   (repeat (first | (refine aw_seq ?_; intro K hK) | refine aw_block ?_ | refine aw_region ?_ | (refine lst_x rfl rfl ?_; intro K1 hK1; simp only [go_sem, Int.cast_ofNat_Int, Int.reduceBEq]; (first | refine hK1 _ ?_ | refine andk (hK1 _ ?_)); clear hK1 K1) | ((first | refine lst_nil ?_ | refine aw_skip ?_); refine hK _ ?_; clear hK K)))
   (refine aw_regionZ [3] (.m 0 0 0 (.m 2 0 0 (.m 3 0 0 (.m 5 0 0 (.m 8 0 0 (.m 1 1 14 (.m 4 1 12 (.m 6 0 0 (.m 7 1 12 (.m 9 1 11 (.m 10 0 0 (.a 11 (.a 12 (.m 13 0 0 (.a 14 .e))))))))))))))) (by kernel_rfl) (by kernel_rfl) (by intro c st h; simp [ThenA, InBl, Ret] at h) ?_)
   (refine zk1 (an @cRowsO_len (cRowsO_get hgs)) ?_; repeat clear hK K)
   (refine z_2 rfl rfl ?_; intro K1 hK1; refine stpF_a rfl ?_; simp only [go_sem]; (first | refine hK1 _ ?_ | refine andk (hK1 _ ?_)); clear hK1 K1)
   (refine z_2y rfl rfl rfl ?_; intro K1 hK1; refine stpY_ap rfl rfl rfl rfl (by first | rfl | simp only [rowsB, List.getD_cons_zero, List.getD_cons_succ, hne, List.isEmpty_cons, Bool.not_false, Bool.true_and, Bool.and_true, Bool.and_self]) rfl ?_; simp only [go_sem, tArcs_c, tArcs_len, half2, cArcs_snoc, cRowsO_get hgs]; (first | refine hK1 _ ?_ | refine andk (hK1 _ ?_)); clear hK1 K1)
   (refine zk0 ?_; repeat clear hK K)
   (refine z_3 rfl rfl rfl rfl ?_; intro K1 hK1; refine stp_ev rfl ?_; simp only [go_sem, cRowsO_len, List.length_set, set_two, C.one, C.pl]; (first | refine hK1 _ ?_ | refine andk (hK1 _ ?_)); clear hK1 K1)
   (refine zk0 ?_; repeat clear hK K)
   have hm6 : (R[s] ++ [(e, -1)]).length = R[s].length + 1 := by first | (simp; done) | (simp; omega)
   have hj6 : ((cRowsO R).set s (C.s 6 (R[s].length + 1)))[s]? = some (.s 6 (R[s].length + 1)) := by rw [List.getElem?_set_self (by rw [cRowsO_len]; exact hs)]
   have hset6 : ((cRowsO R).set s (C.s 6 (R[s].length + 1))).set s (.o (2, 49) (tArcs (R[s] ++ [(e, -1)]))) = cRowsO (R.set s (R[s] ++ [(e, -1)])) := by rw [set_two, cRowsO_set]
   refine aw_le (le_sink (r := ⟨49, 2, true, cArcs (R[s] ++ [(e, -1)])⟩) (ri := ⟨45, 1, true, (cRowsO R).set s (C.s 6 (R[s].length + 1))⟩) (ts := tArcs (R[s] ++ [(e, -1)])) 2 s 6 (R[s].length + 1) (by decide) rfl hj6 rfl rfl (show 0 < 2 by omega) (by rw [cArcs_len, hm6]) (fz_ca _)) ?_
   simp only [hset6, go_sem]
   refine aw_le (le_ot 2 rfl) ?_
   simp only [cRowsO_ot, go_sem]
   refine aw_le (le_sink (r := ⟨45, 1, true, cRows (R.set s (R[s] ++ [(e, -1)]))⟩) (ri := ⟨25, 1, false, [.s 2 R.length]⟩) (ts := tRows (R.set s (R[s] ++ [(e, -1)]))) 3 0 2 R.length (by decide) rfl rfl rfl rfl (show 0 < 1 by omega) (by simp only [cRows_len, List.length_set]; omega) (fz_cr _)) ?_
   refine aw_le (le_ot 3 rfl) ?_
   simp only [otC, List.map_cons, List.map_nil, go_sem]
   (refine wk0 ?_; (repeat clear hK K); repeat (refine Kq.mk ?_; intro K hK))
   ((try refine aw_ret ?_); (try simp only [ThenA, InBl]); refine ret_le (le_pick [0, 1] rfl rfl) ?_; (try simp only [List.set_nil, List.take_nil, List.take_zero, List.map_append, go_sem]); ((try refine aw_ret ?_); (try refine lst_nil ?_); (try simp only [ThenA, InBl]); refine ret_mk (by first | exact .inl rfl | exact .inr rfl) rfl ?_; simp only [rtn, resA, resL, resV, Tryz.results19, go_sem, true_and, and_true, C.pl, List.all_cons, List.all_nil, Bool.and_true, List.take_succ_cons, List.take_zero, List.drop_zero]))
   refine ⟨a4, R.set s (R[s] ++ [(e, -1)]), rfl, rfl, by omega, by simp; omega, fun q hq => ?_⟩
   rcases List.mem_or_eq_of_mem_set hq with hq | rfl
   ·have := hr q hq; omega
   ·rw [hm6]; omega
  ·(repeat (((repeat (first | (refine aw_seq ?_; intro K hK) | refine aw_block ?_ | refine aw_region ?_ | (refine lst_x rfl rfl ?_; intro K1 hK1; simp only [go_sem, Int.cast_ofNat_Int, Int.reduceBEq, Int.reduceNeg]; (first | refine hK1 _ ?_ | refine andk (hK1 _ ?_)); clear hK1 K1) | ((first | refine lst_nil ?_ | refine aw_skip ?_); refine hK _ ?_; clear hK K)))); (refine aw_cnd ?_; intro X Y hX hY; simp only [go_sem, Int.cast_ofNat_Int, Int.reduceBEq]); (first | refine hX ?_ | refine hY ?_); clear hX hY X Y))
   (repeat (first | (refine aw_seq ?_; intro K hK) | refine aw_block ?_ | refine aw_region ?_ | (refine lst_x rfl rfl ?_; intro K1 hK1; simp only [go_sem, Int.cast_ofNat_Int, Int.reduceBEq]; (first | refine hK1 _ ?_ | refine andk (hK1 _ ?_)); clear hK1 K1) | ((first | refine lst_nil ?_ | refine aw_skip ?_); refine hK _ ?_; clear hK K)))
   (refine aw_regionZ [3] (.m 0 0 0 (.m 2 0 0 (.m 5 0 0 (.m 7 0 0 (.m 1 1 12 (.m 3 1 4 (.m 6 1 10 (.m 8 0 0 (.m 9 1 10 (.a 4 (.a 10 (.m 11 0 0 (.a 12 .e))))))))))))) (by kernel_rfl) (by kernel_rfl) (by intro c st h; simp [ThenA, InBl, Ret] at h) ?_)
   (refine zk1 (an @cRowsO_len (cRowsO_get hgs)) ?_; repeat clear hK K)
   (refine z_2 rfl rfl ?_; intro K1 hK1; refine stpF_a rfl ?_; simp only [go_sem]; (first | refine hK1 _ ?_ | refine andk (hK1 _ ?_)); clear hK1 K1)
   (refine z_2y rfl rfl rfl ?_; intro K1 hK1; refine stpY_ap rfl rfl rfl rfl (by first | rfl | simp only [rowsB, List.getD_cons_zero, List.getD_cons_succ, hne, List.isEmpty_cons, Bool.not_false, Bool.true_and, Bool.and_true, Bool.and_self]) rfl ?_; simp only [go_sem, tArcs_c, tArcs_len, half2, cRowsO_get hgs, List.cons_append, List.nil_append]; (first | refine hK1 _ ?_ | refine andk (hK1 _ ?_)); clear hK1 K1)
   (refine zk0 ?_; repeat clear hK K)
   (refine z_3 rfl rfl rfl rfl ?_; intro K1 hK1; refine stp_ev rfl ?_; simp only [go_sem, cRowsO_len, List.length_set, set_two, C.one, C.pl]; (first | refine hK1 _ ?_ | refine andk (hK1 _ ?_)); clear hK1 K1)
   (refine zk0 ?_; repeat clear hK K)
   have hm6 : ((e, t) :: R[s]).length = 1 + R[s].length := by first | (simp; done) | (simp; omega)
   have hj6 : ((cRowsO R).set s (C.s 6 (1 + R[s].length)))[s]? = some (.s 6 (1 + R[s].length)) := by rw [List.getElem?_set_self (by rw [cRowsO_len]; exact hs)]
   have hset6 : ((cRowsO R).set s (C.s 6 (1 + R[s].length))).set s (.o (2, 49) (tArcs ((e, t) :: R[s]))) = cRowsO (R.set s ((e, t) :: R[s])) := by rw [set_two, cRowsO_set]
   refine aw_le (le_sink (r := ⟨49, 2, true, cArcs ((e, t) :: R[s])⟩) (ri := ⟨45, 1, true, (cRowsO R).set s (C.s 6 (1 + R[s].length))⟩) (ts := tArcs ((e, t) :: R[s])) 2 s 6 (1 + R[s].length) (by decide) rfl hj6 rfl rfl (show 0 < 2 by omega) (by rw [cArcs_len, hm6]) (fz_ca _)) ?_
   simp only [hset6, go_sem]
   refine aw_le (le_ot 2 rfl) ?_
   simp only [cRowsO_ot, go_sem]
   refine aw_le (le_sink (r := ⟨45, 1, true, cRows (R.set s ((e, t) :: R[s]))⟩) (ri := ⟨25, 1, false, [.s 2 R.length]⟩) (ts := tRows (R.set s ((e, t) :: R[s]))) 3 0 2 R.length (by decide) rfl rfl rfl rfl (show 0 < 1 by omega) (by simp only [cRows_len, List.length_set]; omega) (fz_cr _)) ?_
   refine aw_le (le_ot 3 rfl) ?_
   simp only [otC, List.map_cons, List.map_nil, go_sem]
   (refine wk0 ?_; (repeat clear hK K); repeat (refine Kq.mk ?_; intro K hK))
   ((try refine aw_ret ?_); (try simp only [ThenA, InBl]); refine ret_le (le_pick [0, 1] rfl rfl) ?_; (try simp only [List.set_nil, List.take_nil, List.take_zero, List.map_append, go_sem]); ((try refine aw_ret ?_); (try refine lst_nil ?_); (try simp only [ThenA, InBl]); refine ret_mk (by first | exact .inl rfl | exact .inr rfl) rfl ?_; simp only [rtn, resA, resL, resV, Tryz.results19, go_sem, true_and, and_true, C.pl, List.all_cons, List.all_nil, Bool.and_true, List.take_succ_cons, List.take_zero, List.drop_zero]))
   refine ⟨a4, R.set s ((e, t) :: R[s]), rfl, rfl, by omega, by simp; omega, fun q hq => ?_⟩
   rcases List.mem_or_eq_of_mem_set hq with hq | rfl
   ·have := hr q hq; omega
   ·rw [hm6]; omega
  ·(repeat (((repeat (first | (refine aw_seq ?_; intro K hK) | refine aw_block ?_ | refine aw_region ?_ | (refine lst_x rfl rfl ?_; intro K1 hK1; simp only [go_sem, Int.cast_ofNat_Int, Int.reduceBEq, Int.reduceNeg]; (first | refine hK1 _ ?_ | refine andk (hK1 _ ?_)); clear hK1 K1) | ((first | refine lst_nil ?_ | refine aw_skip ?_); refine hK _ ?_; clear hK K)))); (refine aw_cnd ?_; intro X Y hX hY; simp only [go_sem, Int.cast_ofNat_Int, Int.reduceBEq]); (first | refine hX ?_ | refine hY ?_); clear hX hY X Y))
   (repeat (first | (refine aw_seq ?_; intro K hK) | refine aw_block ?_ | refine aw_region ?_ | (refine lst_x rfl rfl ?_; intro K1 hK1; simp only [go_sem, Int.cast_ofNat_Int, Int.reduceBEq]; (first | refine hK1 _ ?_ | refine andk (hK1 _ ?_)); clear hK1 K1) | ((first | refine lst_nil ?_ | refine aw_skip ?_); refine hK _ ?_; clear hK K)))
   (refine aw_regionZ [3] (.m 0 0 0 (.m 2 0 0 (.m 3 0 0 (.m 5 0 0 (.m 8 0 0 (.m 10 0 0 (.m 1 1 15 (.m 4 1 13 (.m 6 0 0 (.m 7 1 13 (.m 9 1 13 (.m 11 0 0 (.m 12 1 13 (.a 13 (.m 14 0 0 (.a 15 .e)))))))))))))))) (by kernel_rfl) (by kernel_rfl) (by intro c st h; simp [ThenA, InBl, Ret] at h) ?_)
   (refine zk1 (an @cRowsO_len (cRowsO_get hgs)) ?_; repeat clear hK K)
   (refine z_2y rfl rfl rfl ?_; intro K1 hK1; refine stpY_ap rfl rfl rfl rfl (by first | rfl | simp only [rowsB, List.getD_cons_zero, List.getD_cons_succ, hne, List.isEmpty_cons, Bool.not_false, Bool.true_and, Bool.and_true, Bool.and_self]) rfl ?_; simp only [go_sem, tArcs_c, tArcs_len, half2, cArcs_app, cRowsO_get hgs]; (first | refine hK1 _ ?_ | refine andk (hK1 _ ?_)); clear hK1 K1)
   (refine zk0 ?_; repeat clear hK K)
   (refine z_3 rfl rfl rfl rfl ?_; intro K1 hK1; refine stp_ev rfl ?_; simp only [go_sem, cRowsO_len, List.length_set, set_two, C.one, C.pl]; (first | refine hK1 _ ?_ | refine andk (hK1 _ ?_)); clear hK1 K1)
   (refine zk0 ?_; repeat clear hK K)
   have hm6 : (R[s] ++ R[s]).length = R[s].length + R[s].length := by first | (simp; done) | (simp; omega)
   have hj6 : ((cRowsO R).set s (C.s 5 (R[s].length + R[s].length)))[s]? = some (.s 5 (R[s].length + R[s].length)) := by rw [List.getElem?_set_self (by rw [cRowsO_len]; exact hs)]
   have hset6 : ((cRowsO R).set s (C.s 5 (R[s].length + R[s].length))).set s (.o (2, 49) (tArcs (R[s] ++ R[s]))) = cRowsO (R.set s (R[s] ++ R[s])) := by rw [set_two, cRowsO_set]
   refine aw_le (le_sink (r := ⟨49, 2, true, cArcs (R[s] ++ R[s])⟩) (ri := ⟨45, 1, true, (cRowsO R).set s (C.s 5 (R[s].length + R[s].length))⟩) (ts := tArcs (R[s] ++ R[s])) 2 s 5 (R[s].length + R[s].length) (by decide) rfl hj6 rfl rfl (show 0 < 2 by omega) (by rw [cArcs_len, hm6]) (fz_ca _)) ?_
   simp only [hset6, go_sem]
   refine aw_le (le_ot 2 rfl) ?_
   simp only [cRowsO_ot, go_sem]
   refine aw_le (le_sink (r := ⟨45, 1, true, cRows (R.set s (R[s] ++ R[s]))⟩) (ri := ⟨25, 1, false, [.s 2 R.length]⟩) (ts := tRows (R.set s (R[s] ++ R[s]))) 3 0 2 R.length (by decide) rfl rfl rfl rfl (show 0 < 1 by omega) (by simp only [cRows_len, List.length_set]; omega) (fz_cr _)) ?_
   refine aw_le (le_ot 3 rfl) ?_
   simp only [otC, List.map_cons, List.map_nil, go_sem]
   (refine wk0 ?_; (repeat clear hK K); repeat (refine Kq.mk ?_; intro K hK))
   ((try refine aw_ret ?_); (try simp only [ThenA, InBl]); refine ret_le (le_pick [0, 1] rfl rfl) ?_; (try simp only [List.set_nil, List.take_nil, List.take_zero, List.map_append, go_sem]); ((try refine aw_ret ?_); (try refine lst_nil ?_); (try simp only [ThenA, InBl]); refine ret_mk (by first | exact .inl rfl | exact .inr rfl) rfl ?_; simp only [rtn, resA, resL, resV, Tryz.results19, go_sem, true_and, and_true, C.pl, List.all_cons, List.all_nil, Bool.and_true, List.take_succ_cons, List.take_zero, List.drop_zero]))
   refine ⟨a4, R.set s (R[s] ++ R[s]), rfl, rfl, by omega, by simp; omega, fun q hq => ?_⟩
   rcases List.mem_or_eq_of_mem_set hq with hq | rfl
   ·have := hr q hq; omega
   ·rw [hm6]; omega
 clear hK
 (refine aw_regionZ [3] (.m 0 0 0 (.m 2 0 0 (.m 3 0 0 (.m 4 1 6 (.m 5 0 0 (.f 1 (.f 6 (.m 7 0 0 (.a 8 (.a 9 .e))) 8 (.a 6 (.m 7 0 0 (.a 9 .e)))) 8 (.a 1 (.a 6 (.m 7 0 0 (.a 9 .e)))))))))) (by kernel_rfl) (by kernel_rfl) (by intro c st h; simp [ThenA, InBl, Ret] at h) ?_)
 (refine zk0 ?_; repeat clear hK K)
 refine z_f ?_ ?_
 ·(refine z_2y rfl rfl rfl ?_; intro K1 hK1; refine stpY_X (σ := [0]) (by first | rfl | simp only [rowsB, List.getD_cons_zero, List.getD_cons_succ, hne, List.isEmpty_cons, Bool.not_false, Bool.true_and, Bool.and_true, Bool.and_self]) rfl rfl rfl rfl ?_; refine stpX_call (ids := []) [0] (event_fc T hT (a + 1) (by omega)) rfl rfl (by simp only [go_sem]) (by kernel_rfl) rfl rfl rfl (by (simp only [go_sem]) <;> rfl) (by (simp only [pkh, tape, go_sem]) <;> rfl) ?_ ?_)
  ·rintro _ _ ⟨rfl, v, rfl, _⟩; exact born_one rfl
  rintro _ _ ⟨rfl, e, rfl, he⟩
  (simp only [aInts, aSets, tape, cRowsO_up, List.append_nil, List.nil_append, List.length_map, go_sem]; refine hK1 _ ?_; clear hK1 K1)
  (refine zk0 ?_; repeat clear hK K)
  refine z_f ?_ ?_
  ·(refine z_2y rfl rfl rfl ?_; intro K1 hK1; refine stpY_X (σ := [0]) (by first | rfl | simp only [rowsB, List.getD_cons_zero, List.getD_cons_succ, hne, List.isEmpty_cons, Bool.not_false, Bool.true_and, Bool.and_true, Bool.and_self]) rfl rfl rfl rfl ?_; refine stpX_call (ids := []) [0] (next_fc T (a + 1 + 1) R.length hT (by omega) (by omega)) rfl rfl (by simp only [go_sem]) (by kernel_rfl) rfl rfl rfl (by (simp only [go_sem]) <;> rfl) (by (simp only [pkh, tape, go_sem]) <;> rfl) ?_ ?_)
   ·rintro _ _ ⟨rfl, v, rfl, _⟩; exact born_one rfl
   rintro _ _ ⟨rfl, t, rfl, ht⟩
   (simp only [aInts, aSets, tape, cRowsO_up, List.append_nil, List.nil_append, List.length_map, go_sem]; refine hK1 _ ?_; clear hK1 K1)
   (refine zk0 ?_; repeat clear hK K)
   (refine z_2 rfl rfl ?_; intro K1 hK1; refine stpF_a rfl ?_; simp only [go_sem]; (first | refine hK1 _ ?_ | refine andk (hK1 _ ?_)); clear hK1 K1)
   (refine z_3 rfl rfl rfl rfl ?_; intro K1 hK1; refine stp_ev rfl ?_; simp only [go_sem]; (first | refine hK1 _ ?_ | refine andk (hK1 _ ?_)); clear hK1 K1)
   refine z_nil ⟨by simp, by simp, ?_⟩
   refine hK2 _ e t (a + 1 + 1 + 1) (by omega) ?_
   exact lmz
  ·(refine z_2 rfl rfl ?_; intro K1 hK1; refine stpF_a rfl ?_; simp only [go_sem]; (first | refine hK1 _ ?_ | refine andk (hK1 _ ?_)); clear hK1 K1)
   (refine z_2y rfl rfl rfl ?_; intro K1 hK1; refine stpY_X (σ := [0]) (by first | rfl | simp only [rowsB, List.getD_cons_zero, List.getD_cons_succ, hne, List.isEmpty_cons, Bool.not_false, Bool.true_and, Bool.and_true, Bool.and_self]) rfl rfl rfl rfl ?_; refine stpX_call (ids := []) [0] (next_fc T (a + 1 + 1) R.length hT (by omega) (by omega)) rfl rfl (by simp only [go_sem]) (by kernel_rfl) rfl rfl rfl (by (simp only [go_sem]) <;> rfl) (by (simp only [pkh, tape, go_sem]) <;> rfl) ?_ ?_)
   ·rintro _ _ ⟨rfl, v, rfl, _⟩; exact born_one rfl
   rintro _ _ ⟨rfl, t, rfl, ht⟩
   (simp only [aInts, aSets, tape, cRowsO_up, List.append_nil, List.nil_append, List.length_map, go_sem]; refine hK1 _ ?_; clear hK1 K1)
   (refine zk0 ?_; repeat clear hK K)
   (refine z_3 rfl rfl rfl rfl ?_; intro K1 hK1; refine stp_ev rfl ?_; simp only [go_sem]; (first | refine hK1 _ ?_ | refine andk (hK1 _ ?_)); clear hK1 K1)
   refine z_nil ⟨by simp, by simp, ?_⟩
   refine hK2 _ e t (a + 1 + 1 + 1) (by omega) ?_
   exact lmz
 ·(refine z_2 rfl rfl ?_; intro K1 hK1; refine stpF_a rfl ?_; simp only [go_sem]; (first | refine hK1 _ ?_ | refine andk (hK1 _ ?_)); clear hK1 K1)
  (refine z_2y rfl rfl rfl ?_; intro K1 hK1; refine stpY_X (σ := [0]) (by first | rfl | simp only [rowsB, List.getD_cons_zero, List.getD_cons_succ, hne, List.isEmpty_cons, Bool.not_false, Bool.true_and, Bool.and_true, Bool.and_self]) rfl rfl rfl rfl ?_; refine stpX_call (ids := []) [0] (event_fc T hT (a + 1) (by omega)) rfl rfl (by simp only [go_sem]) (by kernel_rfl) rfl rfl rfl (by (simp only [go_sem]) <;> rfl) (by (simp only [pkh, tape, go_sem]) <;> rfl) ?_ ?_)
  ·rintro _ _ ⟨rfl, v, rfl, _⟩; exact born_one rfl
  rintro _ _ ⟨rfl, e, rfl, he⟩
  (simp only [aInts, aSets, tape, cRowsO_up, List.append_nil, List.nil_append, List.length_map, go_sem]; refine hK1 _ ?_; clear hK1 K1)
  (refine zk0 ?_; repeat clear hK K)
  (refine z_2y rfl rfl rfl ?_; intro K1 hK1; refine stpY_X (σ := [0]) (by first | rfl | simp only [rowsB, List.getD_cons_zero, List.getD_cons_succ, hne, List.isEmpty_cons, Bool.not_false, Bool.true_and, Bool.and_true, Bool.and_self]) rfl rfl rfl rfl ?_; refine stpX_call (ids := []) [0] (next_fc T (a + 1 + 1) R.length hT (by omega) (by omega)) rfl rfl (by simp only [go_sem]) (by kernel_rfl) rfl rfl rfl (by (simp only [go_sem]) <;> rfl) (by (simp only [pkh, tape, go_sem]) <;> rfl) ?_ ?_)
  ·rintro _ _ ⟨rfl, v, rfl, _⟩; exact born_one rfl
  rintro _ _ ⟨rfl, t, rfl, ht⟩
  (simp only [aInts, aSets, tape, cRowsO_up, List.append_nil, List.nil_append, List.length_map, go_sem]; refine hK1 _ ?_; clear hK1 K1)
  (refine zk0 ?_; repeat clear hK K)
  (refine z_3 rfl rfl rfl rfl ?_; intro K1 hK1; refine stp_ev rfl ?_; simp only [go_sem]; (first | refine hK1 _ ?_ | refine andk (hK1 _ ?_)); clear hK1 K1)
  refine z_nil ⟨by simp, by simp, ?_⟩
  refine hK2 _ e t (a + 1 + 1 + 1) (by omega) ?_
  exact lmz
theorem ltsO_fc (T : List Int) (hT : TpOk T) (a0 n : Nat) (ha : a0 ≤ 1000000) (hn1 : 1 ≤ n) (hn : n ≤ 20) :
  FC Tryz.prog 7 [.a (.c (.p 0 0)), .i n] [tape T a0] (fun r o => ∃ (a' : Nat) (R : List (List Ar)), o = [tape T a', .r ⟨45, 1, true, cRows R⟩, .r ⟨25, 1, false, [.s 1 R.length]⟩] ∧ r = .a (.g [.s 1 R.length]) ∧ a' ≤ a0 + 1 + 7 * n ∧ 1 ≤ R.length ∧ R.length ≤ n ∧ OkSys 3 R.length R) := by
 refine fc_intro Tryz.func7 rfl (by rw [Tryz.ntmps7]; simp) ?_
 rw [Tryz.ntmps7]
 simp only [enum, tape, oLts]
 (refine wk0 ?_; (repeat clear hK K); repeat (refine Kq.mk ?_; intro K hK))
 (refine lst_cons rfl ?_; intro K1 hK1; refine stp_callσ (ids := []) [0] (next_fc T a0 n hT (by omega) (by omega)) rfl rfl (by simp only [go_sem]) (by first | assumption | kernel_rfl) rfl rfl (by (simp only [List.map_append, List.append_nil, go_sem]) <;> rfl) (by (simp only [pkh, tape, go_sem]) <;> rfl) ?_ ?_)
 ·rintro _ _ ⟨rfl, v, rfl, _⟩; rfl
 rintro _ _ ⟨rfl, m, rfl, hm⟩
 (simp only [aInts, aSets, tape, List.append_nil, List.nil_append, List.length_map, go_sem]; refine hK1 _ ?_; clear hK1 K1)
 have em : (1 + (m : Int)).toNat = m + 1 := by omega
 (refine wk1 (an @em (an @List.set_cons_zero.{0} @List.set_cons_succ.{0})) ?_; (repeat clear hK K); repeat (refine Kq.mk ?_; intro K hK))
 refine aw_le (le_ot 2 rfl) ?_
 simp only [rows_nil, List.set_cons_zero, List.set_cons_succ]
 refine aw_loop (fun p : Nat × List (List Ar) × Nat => { tm := [(0, .a (.c (.p 0 0))), (4, .a (.c (.p 1 0))), (5, .a (.c (.p 3 0))), (6, .i p.1)], hp := [.r ⟨43, 2, false, [.t 1 (tInts T), .v (.int .i64 p.2.2)]⟩, .r ⟨25, 1, false, [.v (.slice none 0 0)]⟩, .r ⟨45, 1, true, cRows p.2.1⟩, .r ⟨25, 1, false, [.s 2 (m + 1)]⟩], n := 46, pin := 1 })
  (fun p => p.1 ≤ m + 1 ∧ p.2.2 ≤ a0 + 1 + 7 * p.1 ∧ OkSys 3 (m + 1) p.2.1 ∧ ∀ q r, p.1 ≤ q → p.2.1[q]? = some r → r = []) (fun p => m + 1 - p.1) (0, List.replicate (m + 1) [], a0 + 1) ?_ ?_ ?_
 ·refine ⟨by simp, by simp, okSys_nil _, fun q r _ hr => ?_⟩
  exact List.eq_of_mem_replicate (List.mem_of_getElem? hr)
 ·exact lmz
 ·rintro ⟨i, R, a⟩ ⟨hi, hA, hR, hE⟩ K hK
  simp only at hi hA hR hE ⊢
  (refine wk0 ?_; (repeat clear hK K); repeat (refine Kq.mk ?_; intro K hK))
  (refine aw_cnd ?_; intro X Y hX hY; simp only [go_sem])
  refine ⟨fun h => hX ?_, fun h => hY ?_⟩
  ·have hi1 : i < m + 1 := by simp at h; omega
   clear hX hY X Y
   (refine wk0 ?_; (repeat clear hK K); repeat (refine Kq.mk ?_; intro K hK))
   (refine lst_cons rfl ?_; intro K1 hK1; refine stp_callσ (ids := []) [0] (next_fc T a 4 hT (by omega) (by omega)) rfl rfl (by simp only [go_sem]) (by first | assumption | kernel_rfl) rfl rfl (by (simp only [List.map_append, List.append_nil, go_sem]) <;> rfl) (by (simp only [pkh, tape, go_sem]) <;> rfl) ?_ ?_)
   ·rintro _ _ ⟨rfl, v, rfl, _⟩; rfl
   rintro _ _ ⟨rfl, w0, rfl, hw0⟩
   (simp only [aInts, aSets, tape, cRows_up, List.append_nil, List.nil_append, List.length_map, go_sem]; refine hK1 _ ?_; clear hK1 K1)
   (refine wk0 ?_; (repeat clear hK K); repeat (refine Kq.mk ?_; intro K hK))
   refine aw_loop (fun p : Nat × List (List Ar) × Nat => { tm := [(0, .a (.c (.p 0 0))), (4, .a (.c (.p 1 0))), (5, .a (.c (.p 3 0))), (6, .i i), (7, .i p.1)], hp := [.r ⟨43, 2, false, [.t 1 (tInts T), .v (.int .i64 p.2.2)]⟩, .r ⟨25, 1, false, [.v (.slice none 0 0)]⟩, .r ⟨45, 1, true, cRows p.2.1⟩, .r ⟨25, 1, false, [.s 2 (m + 1)]⟩], n := 46, pin := 1 })
    (fun p => p.1 ≤ 3 ∧ p.2.2 + 2 * p.1 ≤ a + 7 ∧ OkSys 3 (m + 1) p.2.1 ∧ (∀ r, p.2.1[i]? = some r → r.length + p.1 ≤ 3) ∧ ∀ q r, i + 1 ≤ q → p.2.1[q]? = some r → r = []) (fun p => p.1) (w0, R, a + 1) ?_ ?_ ?_
   ·refine ⟨by simp only; omega, by simp only; omega, hR, fun r hr => ?_, fun q r hq hr => hE q r (by omega) hr⟩
    rw [hE i r (Nat.le_refl _) hr]; simp; omega
   ·exact lmz
   ·rintro ⟨w, R2, a2⟩ ⟨hw, hA2, hR2, hi2, hE2⟩ K hK
    simp only at hw hA2 hR2 hi2 hE2 ⊢
    have hl2 : i < R2.length := by rw [hR2.1]; exact hi1
    have hg2 := List.getElem?_eq_getElem hl2
    have hrow := hR2.2 _ (List.getElem_mem hl2)
    (refine wk0 ?_; (repeat clear hK K); repeat (refine Kq.mk ?_; intro K hK))
    (refine aw_cnd ?_; intro X Y hX hY; simp only [go_sem])
    refine ⟨fun h => hX ?_, fun h => hY ?_⟩
    ·have hw1 : 0 < w := by simpa using h
     clear hX hY X Y
     (refine wk0 ?_; (repeat clear hK K); repeat (refine Kq.mk ?_; intro K hK))
     refine aw_regionV [0] [(0,0,0),(2,0,0),(3,0,0),(5,0,0),(8,0,0),(10,0,0),(11,0,0),(1,1,18),(4,1,16),(6,0,0),(7,1,16),(12,1,14),(13,0,0),(9,2,0),(14,2,0),(15,0,0),(16,2,0),(17,0,0),(18,2,0)] (by kernel_rfl) (by kernel_rfl) (by intro c st h; simp [ThenA, InBl, Ret] at h) ?_
     (repeat (first | (refine v_0 rfl rfl rfl ?_; intro K1 hK1; simp only [undef, evR, go_sem, cRows_len, cRows_get hg2]; first | (refine hK1 _ ?_; clear hK1 K1) | (refine andk (hK1 _ ?_); clear hK1 K1)) | (refine v_1 rfl rfl rfl rfl rfl rfl rfl rfl rfl ?_; intro K1 hK1; simp only [undef, evR, go_sem, cRows_len, cRows_get hg2]; first | (refine hK1 _ ?_; clear hK1 K1) | (refine andk (hK1 _ ?_); clear hK1 K1))))
     (refine v_2 rfl rfl ?_; intro K1 hK1; refine stpX_call (ids := []) [0] (event_fc T hT a2 (by omega)) rfl rfl (by simp only [evR, go_sem]) (by kernel_rfl) rfl rfl rfl (by (simp only [evR, clos, List.map_append, List.append_nil, AV.ren, A0.ren, C.ren, idx, renIds, ofTr_ren, go_sem]) <;> rfl) (by (simp only [pkh, Ob.ren, C.ren, idx, renIds, ofTr_ren, List.getD_cons_zero, List.getD_cons_succ, tape, go_sem]) <;> rfl) ?_ ?_)
     ·rintro _ _ ⟨rfl, v, rfl, _⟩; exact born_one rfl
     rintro _ _ ⟨rfl, e, rfl, he⟩
     (simp only [aInts, aSets, tape, cRows_up, List.append_nil, List.nil_append, List.length_map, go_sem]; refine hK1 _ ?_; clear hK1 K1)
     (repeat (first | (refine v_0 rfl rfl rfl ?_; intro K1 hK1; simp only [undef, evR, go_sem]; first | (refine hK1 _ ?_; clear hK1 K1) | (refine andk (hK1 _ ?_); clear hK1 K1)) | (refine v_1 rfl rfl rfl rfl rfl rfl rfl rfl rfl ?_; intro K1 hK1; simp only [undef, evR, go_sem]; first | (refine hK1 _ ?_; clear hK1 K1) | (refine andk (hK1 _ ?_); clear hK1 K1))))
     (refine v_2 rfl rfl ?_; intro K1 hK1; refine stpX_call (ids := []) [0] (next_fc T (a2 + 1) (m + 1) hT (by omega) (by omega)) rfl rfl (by simp only [evR, go_sem]) (by kernel_rfl) rfl rfl rfl (by (simp only [evR, clos, List.map_append, List.append_nil, AV.ren, A0.ren, C.ren, idx, renIds, ofTr_ren, go_sem]) <;> rfl) (by (simp only [pkh, Ob.ren, C.ren, idx, renIds, ofTr_ren, List.getD_cons_zero, List.getD_cons_succ, tape, go_sem]) <;> rfl) ?_ ?_)
     ·rintro _ _ ⟨rfl, v, rfl, _⟩; exact born_one rfl
     rintro _ _ ⟨rfl, t, rfl, ht⟩
     (simp only [aInts, aSets, tape, cRows_up, List.append_nil, List.nil_append, List.length_map, go_sem]; refine hK1 _ ?_; clear hK1 K1)
     (repeat (first | (refine v_0 rfl rfl rfl ?_; intro K1 hK1; simp only [undef, evR, go_sem]; first | (refine hK1 _ ?_; clear hK1 K1) | (refine andk (hK1 _ ?_); clear hK1 K1)) | (refine v_1 rfl rfl rfl rfl rfl rfl rfl rfl rfl ?_; intro K1 hK1; simp only [undef, evR, go_sem]; first | (refine hK1 _ ?_; clear hK1 K1) | (refine andk (hK1 _ ?_); clear hK1 K1))))
     (refine v_2 rfl rfl ?_; intro K1 hK1; refine stpX_mono ?_; refine stpX_call (ids := []) [] (insT_fc R2[i] (e, (t : Int)) (by have := hrow.2.1; omega)) rfl rfl (by simp only [evR, go_sem]) (by kernel_rfl) rfl rfl rfl (by (simp only [evR, clos, List.map_append, List.append_nil, AV.ren, A0.ren, C.ren, idx, renIds, ofTr_ren, go_sem]) <;> rfl) (by (simp only [pkh, Ob.ren, C.ren, idx, renIds, ofTr_ren, List.getD_cons_zero, List.getD_cons_succ, aArcs, go_sem]) <;> rfl) ?_ ?_)
     ·rintro _ _ ⟨rfl, rfl⟩ i o hi hl; simp at hl
     rintro _ _ ⟨rfl, rfl⟩
     (simp only [aInts, aSets, aArcs, cRows_up, List.append_nil, List.nil_append, List.length_map, go_sem]; refine hK1 _ ?_; clear hK1 K1)
     (repeat (first | (refine v_0 rfl rfl rfl ?_; intro K1 hK1; simp only [undef, evR, go_sem]; first | (refine hK1 _ ?_; clear hK1 K1) | (refine andk (hK1 _ ?_); clear hK1 K1)) | (refine v_1 rfl rfl rfl rfl rfl rfl rfl rfl rfl ?_; intro K1 hK1; simp only [undef, evR, go_sem]; first | (refine hK1 _ ?_; clear hK1 K1) | (refine andk (hK1 _ ?_); clear hK1 K1))))
     refine v_3 rfl rfl rfl ?_; intro K1 hK1
     refine stp_ev rfl ?_; simp only [undef, evR, ST.put, setC, A0.cells, cRows_len, List.set_cons_zero, List.set_cons_succ, cRows_set, go_sem]
     (first | (refine hK1 _ ?_; clear hK1 K1) | (refine andk (hK1 _ ?_); clear hK1 K1))
     refine v_nil ⟨by simp, by simp, ?_⟩
     refine hK _ ?_; clear hK K
     (refine wk0 ?_; (repeat clear hK K); repeat (refine Kq.mk ?_; intro K hK))
     refine rnz ?_
     have hx : 0 ≤ e ∧ e ≤ 1025 ∧ 0 ≤ (t : Int) ∧ (t : Int) < ((m + 1 : Nat) : Int) := ⟨he.1, he.2, by omega, by omega⟩
     have e1 : ((w : Int) - 1) = ((w - 1 : Nat) : Int) := by omega
     have hw3 := hi2 _ hg2
     refine hK _ (w - 1, R2.set i (insA (e, (t : Int)) R2[i]), a2 + 2) ⟨by simp only; omega, by simp only; omega, hR2.set ?_ i, fun r hr => ?_, fun q r hq hr => ?_⟩ (by simp only; omega) ?_
     ·exact (OkRow.ins ⟨hrow.1, Nat.le_refl _, hrow.2.2⟩ hx).le (by omega)
     ·simp only at hr ⊢
      rw [List.getElem?_set_self hl2] at hr
      cases hr
      have := insA_len (e, (t : Int)) R2[i]
      omega
     ·simp only at hr
      rw [List.getElem?_set_ne (by omega)] at hr
      exact hE2 q r hq hr
     ·(refine le_tm ?_; simp only [LeTm, go_sem, e1]; try simp)
    ·have hw0 : w = 0 := by simp at h; omega
     clear hX hY X Y
     (refine ekz ?_; repeat clear hK K)
     (refine wk0 ?_; (repeat clear hK K); repeat (refine Kq.mk ?_; intro K hK))
     refine rnz ?_
     refine hK _ (i + 1, R2, a2) ⟨by simp only; omega, by simp only; omega, hR2, fun q r hq hr => hE2 q r hq hr⟩ (by simp only; omega) ?_
     exact lmz
  ·have hi1 : i = m + 1 := by simp at h; omega
   clear hX hY X Y
   (refine ekz ?_; repeat clear hK K)
   (refine wk1 (an @List.set_cons_zero.{0} @List.set_cons_succ.{0}) ?_; (repeat clear hK K); repeat (refine Kq.mk ?_; intro K hK))
   (repeat (first | (refine aw_seq ?_; intro K hK) | refine aw_block ?_ | refine aw_region ?_ | (refine lst_x rfl rfl ?_; intro K1 hK1; simp only [go_sem, List.set_cons_zero, List.set_cons_succ, C.pl, C.one, List.all_cons, List.all_nil, Bool.and_true, List.take_succ_cons, List.take_zero, List.drop_zero]; (first | refine hK1 _ ?_ | refine andk (hK1 _ ?_)); clear hK1 K1) | ((first | refine lst_nil ?_ | refine aw_skip ?_); refine hK _ ?_; clear hK K)))
   ((try refine aw_ret ?_); (try simp only [ThenA, InBl]); refine ret_le (le_pick [0, 2, 1] rfl rfl) ?_; (try simp only [List.set_nil, List.take_nil, List.take_zero, List.map_append, go_sem]); ((try refine aw_ret ?_); (try refine lst_nil ?_); (try simp only [ThenA, InBl]); refine ret_mk (by first | exact .inl rfl | exact .inr rfl) rfl ?_; simp only [rtn, resA, resL, resV, Tryz.results7, go_sem, true_and, and_true, cRows_ren]))
   exact ⟨a, R, by simp only [tape, hR.1], by rw [hR.1], by omega, by rw [hR.1]; omega, by rw [hR.1]; omega, by rw [hR.1]; exact hR⟩

set_option maxHeartbeats 1000000 in
theorem chain_fc (T : List Int) (hT : TpOk T) (a0 n : Nat) (ha : a0 ≤ 500000) (hn1 : 1 ≤ n) (hn : n ≤ 20) :
  FC Tryz.prog 16 [.a (.c (.p 0 0)), .i n] [tape T a0] (fun r o => ∃ (a' : Nat) (R : List (List Ar)), o = [tape T a', oLts R] ∧ r = aLts R ∧ a' ≤ a0 + 1 + 8 * n ∧ 1 ≤ R.length ∧ R.length ≤ n ∧ OkSys 4 R.length R) := by
 refine fc_intro Tryz.func16 rfl (by rw [Tryz.ntmps16]; simp) ?_
 rw [Tryz.ntmps16]
 simp only [enum, tape, oLts, aLts]
 (refine wk0 ?_; (repeat clear hK K); repeat (refine Kq.mk ?_; intro K hK))
 (refine lst_cons rfl ?_; intro K1 hK1; refine stp_callσ (ids := []) [0] (ltsO_fc T hT a0 n (by omega) hn1 hn) rfl rfl (by simp only [go_sem]) (by first | assumption | kernel_rfl) rfl rfl (by (simp only [List.map_append, List.append_nil, go_sem]) <;> rfl) (by (simp only [pkh, tape, go_sem]) <;> rfl) ?_ ?_)
 ·rintro _ _ ⟨_, _, rfl, rfl, _⟩; rfl
 rintro _ _ ⟨a1, R0, rfl, rfl, ha1, hl1, hl2, hok⟩
 (simp only [aInts, aSets, tape, cRows_up, List.append_nil, List.nil_append, List.length_map, go_sem]; refine hK1 _ ?_; clear hK1 K1)
 (refine wk0 ?_; (repeat clear hK K); repeat (refine Kq.mk ?_; intro K hK))
 refine aw_le (le_pick [0, 1, 2, 4] rfl rfl) ?_
 (try simp only [List.set_nil, List.take_nil, List.take_zero, List.map_append, go_sem])
 (try simp only [cRows_ren])
 obtain ⟨m, hm⟩ : ∃ m, m = R0.length := ⟨_, rfl⟩
 rw [← hm] at hl1 hl2 hok
 (try rw [← hm])
 refine aw_loop (fun p : Nat × List (List Ar) × Nat => { tm := [(0, .a (.c (.p 0 0))), (4, .a (.c (.p 1 0))), (5, .a (.c (.p 3 0))), (6, .i p.1)], hp := [.r ⟨43, 2, false, [.t 1 (tInts T), .v (.int .i64 p.2.2)]⟩, .r ⟨25, 1, false, [.v (.slice none 0 0)]⟩, .r ⟨45, 1, true, cRows p.2.1⟩, .r ⟨25, 1, false, [.s 2 m]⟩], n := 34, pin := 1 })
  (fun p => p.1 + 1 ≤ m ∧ p.2.2 ≤ a1 + p.1 ∧ OkSys 4 m p.2.1 ∧ ∀ q r, p.1 ≤ q → p.2.1[q]? = some r → r.length ≤ 3) (fun p => m - p.1) (0, R0, a1) ?_ ?_ ?_
 ·exact ⟨by simp only; omega, by simp, hok.le (by omega), fun q r _ hr => (hok.2 r (List.mem_of_getElem? hr)).2.1⟩
 ·exact lmz
 ·rintro ⟨s, R, a⟩ ⟨hs, hA, hR, hE⟩ K hK
  simp only at hs hA hR hE ⊢
  have hRl := hR.1
  by_cases hlt : s + 1 < m
  ·have hl0 : decide ((s : Int) + 1 < (m : Int)) = true := by simp; omega
   have hl2' : s < R.length := by omega
   have hg2 := List.getElem?_eq_getElem hl2'
   have hrow := hR.2 _ (List.getElem_mem hl2')
   have hne : (cRows R).isEmpty = false := by
    have := cRows_len R
    cases hc : cRows R with
    | nil => rw [hc] at this; simp at this; omega
    | cons _ _ => rfl
   (refine wk1 @hl0 ?_; (repeat clear hK K); repeat (refine Kq.mk ?_; intro K hK))
   refine cxz ?_
   (refine wk0 ?_; (repeat clear hK K); repeat (refine Kq.mk ?_; intro K hK))
   (refine aw_regionZ [2, 3] (.m 0 0 0 (.m 2 0 0 (.m 3 0 0 (.m 5 0 0 (.m 8 0 0 (.m 10 0 0 (.m 11 0 0 (.m 1 1 15 (.m 4 1 13 (.m 6 0 0 (.m 7 1 13 (.a 9 (.m 12 0 0 (.a 13 (.m 14 0 0 (.a 15 .e)))))))))))))))) (by kernel_rfl) (by kernel_rfl) (by intro c st h; simp [ThenA, InBl, Ret] at h) ?_)
   (refine zk1 (an @cRows_len (cRows_get hg2)) ?_; repeat clear hK K)
   (refine z_2y rfl rfl rfl ?_; intro K1 hK1; refine stpY_X (σ := [0]) (by first | rfl | simp only [rowsB, List.getD_cons_zero, List.getD_cons_succ, hne, List.isEmpty_cons, Bool.not_false, Bool.true_and, Bool.and_true, Bool.and_self]) rfl rfl rfl rfl ?_; refine stpX_call (ids := []) [0] (event_fc T hT a (by omega)) rfl rfl (by simp only [go_sem]) (by kernel_rfl) rfl rfl rfl (by (simp only [go_sem]) <;> rfl) (by (simp only [pkh, tape, go_sem]) <;> rfl) ?_ ?_)
   ·rintro _ _ ⟨rfl, v, rfl, _⟩; exact born_one rfl
   rintro _ _ ⟨rfl, e, rfl, he⟩
   (simp only [aInts, aSets, tape, cRows_up, List.append_nil, List.nil_append, List.length_map, go_sem]; refine hK1 _ ?_; clear hK1 K1)
   (refine zk0 ?_; repeat clear hK K)
   (refine z_2y rfl rfl rfl ?_; intro K1 hK1; refine stpY_X (σ := []) (by first | rfl | simp only [rowsB, List.getD_cons_zero, List.getD_cons_succ, hne, List.isEmpty_cons, Bool.not_false, Bool.true_and, Bool.and_true, Bool.and_self]) rfl rfl rfl rfl ?_; refine stpX_call (ids := []) [] (insT_fc R[s] (e, (s : Int) + 1) (by have := hrow.2.1; omega)) rfl rfl (by simp only [go_sem]) (by kernel_rfl) rfl rfl rfl (by (simp only [go_sem]) <;> rfl) (by (simp only [pkh, aArcs, go_sem]) <;> rfl) ?_ ?_)
   ·rintro _ _ ⟨rfl, rfl⟩ i o hi hl; simp at hl
   rintro _ _ ⟨rfl, rfl⟩
   (simp only [aInts, aSets, aArcs, cRows_up, List.append_nil, List.nil_append, List.length_map, go_sem]; refine hK1 _ ?_; clear hK1 K1)
   (refine zk0 ?_; repeat clear hK K)
   (refine z_3 rfl rfl rfl rfl ?_; intro K1 hK1; refine stp_ev rfl ?_; simp only [go_sem, ST.put, setC, A0.cells, cRows_len, cRows_set]; (first | refine hK1 _ ?_ | refine andk (hK1 _ ?_)); clear hK1 K1)
   (refine zk0 ?_; repeat clear hK K)
   (refine wk0 ?_; (repeat clear hK K); repeat (refine Kq.mk ?_; intro K hK))
   refine rnz ?_
   have hx : 0 ≤ e ∧ e ≤ 1025 ∧ 0 ≤ (s : Int) + 1 ∧ (s : Int) + 1 < (m : Int) := ⟨he.1, he.2, by omega, by omega⟩
   have h3 := hE s _ (Nat.le_refl _) hg2
   refine hK _ (s + 1, R.set s (insA (e, (s : Int) + 1) R[s]), a + 1) ⟨by simp only; omega, by simp only; omega, hR.set ?_ s, fun q r hq hr => ?_⟩ (by simp only; omega) ?_
   ·exact (OkRow.ins (m := m) ⟨hrow.1, h3, hrow.2.2⟩ hx)
   ·simp only at hr hq
    rw [List.getElem?_set_ne (by omega)] at hr
    exact hE q r (by omega) hr
   ·exact lmz
  ·have hl0 : decide ((s : Int) + 1 < (m : Int)) = false := by simp; omega
   (refine wk1 @hl0 ?_; (repeat clear hK K); repeat (refine Kq.mk ?_; intro K hK))
   refine cyz ?_
   (refine ekz ?_; repeat clear hK K)
   refine aw_le (le_sink (r := ⟨45, 1, true, cRows R⟩) (ri := ⟨25, 1, false, [.s 2 m]⟩) (ts := tRows R) 3 0 2 m (by decide) rfl rfl rfl rfl (show 0 < 1 by omega) (by simp only [cRows_len, hRl]; omega) (fz_cr R)) ?_
   refine aw_le (le_ot 3 rfl) ?_
   simp only [otC, List.map_cons, List.map_nil, go_sem]
   (refine wk0 ?_; (repeat clear hK K); repeat (refine Kq.mk ?_; intro K hK))
   ((try refine aw_ret ?_); (try simp only [ThenA, InBl]); refine ret_le (le_pick [0, 1] rfl rfl) ?_; (try simp only [List.set_nil, List.take_nil, List.take_zero, List.map_append, go_sem]); ((try refine aw_ret ?_); (try refine lst_nil ?_); (try simp only [ThenA, InBl]); refine ret_mk (by first | exact .inl rfl | exact .inr rfl) rfl ?_; simp only [rtn, resA, resL, resV, Tryz.results16, go_sem, true_and, and_true]))
   exact ⟨a, R, rfl, rfl, by omega, by omega, by omega, by rw [hRl]; exact hR⟩
def hugeB (R : List (List Ar)) : Bool := decide (R.length > 12) || decide (totA R > 60)
theorem huge_fc (R : List (List Ar)) (hn : R.length ≤ 140737488355328) (hr : ∀ r ∈ R, r.length ≤ 140737488355328) : FC Tryz.prog 14 [aLts R] [] (fun r o => o = [] ∧ r = .b (hugeB R)) := by
 refine fc_intro Tryz.func14 rfl (by rw [Tryz.ntmps14]; simp) ?_
 rw [Tryz.ntmps14]
 simp only [enum, aLts]
 (refine wk0 ?_; (repeat clear hK K); repeat (refine Kq.mk ?_; intro K hK))
 refine aw_loop (fun k : Nat => { tm := [(1, .a (.c (.p 0 0))), (3, .i (totA (R.take k) : Int)), (4, .i k)], hp := [.r ⟨25, 1, false, [.t 1 (tRows R)]⟩], n := 32, pin := 0 }) (fun k => k ≤ R.length) (fun k => R.length - k) 0 ?_ ?_ ?_
 ·omega
 ·(refine le_tm ?_; simp only [LeTm, go_sem, List.take_zero, totA, List.map_nil, List.sum_nil, Int.natCast_zero]; try simp)
 ·rintro k hk K hK
  have hle := totA_le R k
  have hfull : k = R.length → totA (R.take k) = totA R := fun e => by rw [e, List.take_length]
  by_cases hlt : k < R.length
  ·have hl1 : decide ((k : Int) < (R.length : Int)) = true := by simpa using hlt
   have hgk := List.getElem?_eq_getElem hlt
   have hrk := hr _ (List.getElem_mem hlt)
   have htk := totA_take hlt
   generalize hW : totA (R.take k) = W at *
   by_cases h60 : W ≤ 60
   ·have d2 : decide ((W : Int) ≤ 60) = true := by simp; omega
    have e3 : ((W : Int) + (R[k].length : Int)) = (totA (R.take (k + 1)) : Int) := by omega
    (refine wk1 (an @hl1 (an @d2 @tRows_len)) ?_; (repeat clear hK K); repeat (refine Kq.mk ?_; intro K hK))
    refine cxz ?_
    (refine wk1 (an (tRows_get hgk) (an @tRows_len (an @tArcs_len (an @half2 @e3)))) ?_; (repeat clear hK K); repeat (refine Kq.mk ?_; intro K hK))
    refine rnz ?_
    refine hK _ (k + 1) (by omega) (by omega) ?_
    exact lmz
   ·have d2 : decide ((W : Int) ≤ 60) = false := by simp; omega
    have d3 : decide ((W : Int) > 60) = true := by simp; omega
    have t60 : decide (totA R > 60) = true := by simp; omega
    (refine wk1 (an @hl1 (an @d2 @tRows_len)) ?_; (repeat clear hK K); repeat (refine Kq.mk ?_; intro K hK))
    refine cyz ?_
    (refine ekz ?_; repeat clear hK K)
    cases t12 : decide (R.length > 12) with
    | true =>
     have d4 : decide ((R.length : Int) > 12) = true := by simp at t12; simp; omega
     (refine wk1 (an @d3 (an @d4 @tRows_len)) ?_; (repeat clear hK K); repeat (refine Kq.mk ?_; intro K hK))
     ((try refine aw_ret ?_); (try simp only [ThenA, InBl]); refine ret_le (le_pick [] rfl rfl) ?_; (try simp only [List.set_nil, List.take_nil, List.take_zero, List.map_append, go_sem]); ((try refine aw_ret ?_); (try refine lst_nil ?_); (try simp only [ThenA, InBl]); refine ret_mk (by first | exact .inl rfl | exact .inr rfl) rfl ?_; simp only [rtn, resA, resL, resV, Tryz.results14, go_sem, true_and, and_true]))
     rw [hugeB, t12]; rfl
    | false =>
     have d4 : decide ((R.length : Int) > 12) = false := by simp at t12; simp; omega
     (refine wk1 (an @d3 (an @d4 @tRows_len)) ?_; (repeat clear hK K); repeat (refine Kq.mk ?_; intro K hK))
     ((try refine aw_ret ?_); (try simp only [ThenA, InBl]); refine ret_le (le_pick [] rfl rfl) ?_; (try simp only [List.set_nil, List.take_nil, List.take_zero, List.map_append, go_sem]); ((try refine aw_ret ?_); (try refine lst_nil ?_); (try simp only [ThenA, InBl]); refine ret_mk (by first | exact .inl rfl | exact .inr rfl) rfl ?_; simp only [rtn, resA, resL, resV, Tryz.results14, go_sem, true_and, and_true]))
     rw [hugeB, t12, t60]; rfl
  ·have hl1 : decide ((k : Int) < (R.length : Int)) = false := by simpa using hlt
   have hke : k = R.length := by omega
   have hf := hfull hke
   generalize hW : totA (R.take k) = W at *
   cases t60 : decide (totA R > 60) with
   | true =>
    have d3 : decide ((W : Int) > 60) = true := by simp at t60; simp; omega
    (refine wk1 (an @hl1 @tRows_len) ?_; (repeat clear hK K); repeat (refine Kq.mk ?_; intro K hK))
    refine cyz ?_
    (refine ekz ?_; repeat clear hK K)
    cases t12 : decide (R.length > 12) with
    | true =>
     have d4 : decide ((R.length : Int) > 12) = true := by simp at t12; simp; omega
     (refine wk1 (an @d3 (an @d4 @tRows_len)) ?_; (repeat clear hK K); repeat (refine Kq.mk ?_; intro K hK))
     ((try refine aw_ret ?_); (try simp only [ThenA, InBl]); refine ret_le (le_pick [] rfl rfl) ?_; (try simp only [List.set_nil, List.take_nil, List.take_zero, List.map_append, go_sem]); ((try refine aw_ret ?_); (try refine lst_nil ?_); (try simp only [ThenA, InBl]); refine ret_mk (by first | exact .inl rfl | exact .inr rfl) rfl ?_; simp only [rtn, resA, resL, resV, Tryz.results14, go_sem, true_and, and_true]))
     rw [hugeB, t12]; rfl
    | false =>
     have d4 : decide ((R.length : Int) > 12) = false := by simp at t12; simp; omega
     (refine wk1 (an @d3 (an @d4 @tRows_len)) ?_; (repeat clear hK K); repeat (refine Kq.mk ?_; intro K hK))
     ((try refine aw_ret ?_); (try simp only [ThenA, InBl]); refine ret_le (le_pick [] rfl rfl) ?_; (try simp only [List.set_nil, List.take_nil, List.take_zero, List.map_append, go_sem]); ((try refine aw_ret ?_); (try refine lst_nil ?_); (try simp only [ThenA, InBl]); refine ret_mk (by first | exact .inl rfl | exact .inr rfl) rfl ?_; simp only [rtn, resA, resL, resV, Tryz.results14, go_sem, true_and, and_true]))
     rw [hugeB, t12, t60]; rfl
   | false =>
    have d3 : decide ((W : Int) > 60) = false := by simp at t60; simp; omega
    (refine wk1 (an @hl1 @tRows_len) ?_; (repeat clear hK K); repeat (refine Kq.mk ?_; intro K hK))
    refine cyz ?_
    (refine ekz ?_; repeat clear hK K)
    cases t12 : decide (R.length > 12) with
    | true =>
     have d4 : decide ((R.length : Int) > 12) = true := by simp at t12; simp; omega
     (refine wk1 (an @d3 (an @d4 @tRows_len)) ?_; (repeat clear hK K); repeat (refine Kq.mk ?_; intro K hK))
     ((try refine aw_ret ?_); (try simp only [ThenA, InBl]); refine ret_le (le_pick [] rfl rfl) ?_; (try simp only [List.set_nil, List.take_nil, List.take_zero, List.map_append, go_sem]); ((try refine aw_ret ?_); (try refine lst_nil ?_); (try simp only [ThenA, InBl]); refine ret_mk (by first | exact .inl rfl | exact .inr rfl) rfl ?_; simp only [rtn, resA, resL, resV, Tryz.results14, go_sem, true_and, and_true]))
     rw [hugeB, t12]; rfl
    | false =>
     have d4 : decide ((R.length : Int) > 12) = false := by simp at t12; simp; omega
     (refine wk1 (an @d3 (an @d4 @tRows_len)) ?_; (repeat clear hK K); repeat (refine Kq.mk ?_; intro K hK))
     ((try refine aw_ret ?_); (try simp only [ThenA, InBl]); refine ret_le (le_pick [] rfl rfl) ?_; (try simp only [List.set_nil, List.take_nil, List.take_zero, List.map_append, go_sem]); ((try refine aw_ret ?_); (try refine lst_nil ?_); (try simp only [ThenA, InBl]); refine ret_mk (by first | exact .inl rfl | exact .inr rfl) rfl ?_; simp only [rtn, resA, resL, resV, Tryz.results14, go_sem, true_and, and_true]))
     rw [hugeB, t12, t60]; rfl

theorem OkRow.filter {k m : Nat} {r : List Ar} (h : OkRow k m r) (p : Ar → Bool) : OkRow k m (r.filter p) :=
 ⟨List.Pairwise.filter p h.1, Nat.le_trans (List.length_filter_le p r) h.2.1, fun a ha => h.2.2 a (List.mem_filter.1 ha).1⟩
attribute [local go_sem] List.set_cons_zero List.set_cons_succ List.map_cons List.map_nil List.take_succ_cons List.take_zero List.drop_zero List.drop_succ_cons C.pl C.one List.all_cons List.all_nil Bool.and_true Nat.mul_one Int.toNat_natCast
theorem rowGo_len (r : List Ar) : ∀ (num old : List Int) (nxt : List Ar), (rowGo r num old nxt).2.2.length ≤ nxt.length + r.length := by
 induction r with
 | nil => intro num old nxt; simp [rowGo]
 | cons a tl ih =>
  intro num old nxt
  have h1 := ih (numOne num old a.2).1 (numOne num old a.2).2 (insA (a.1, (numOne num old a.2).1.getD a.2.toNat 0) nxt)
  have h2 := insA_len (a.1, (numOne num old a.2).1.getD a.2.toNat 0) nxt
  simp only [rowGo, List.length_cons]
  omega
theorem canGo_bd {R : List (List Ar)} {B : Nat} (hb : ∀ r ∈ R, ∀ a ∈ r, 0 ≤ a.2 ∧ a.2 < (R.length : Int)) (hB : ∀ r ∈ R, r.length ≤ B) : ∀ (f i : Nat) (num old : List Int) (out : List (List Ar)), NumOk R.length num old → i = out.length → i ≤ old.length → (∀ x ∈ out, x.length ≤ B) → (canGo R f i num old out).1.length ≤ R.length ∧ ∀ x ∈ (canGo R f i num old out).1, x.length ≤ B := by
 intro f
 induction f with
 | zero =>
  intro i num old out hN hi ho hx
  have := hN.le
  exact ⟨by simp only [canGo]; omega, hx⟩
 | succ f ih =>
  intro i num old out hN hi ho hx
  have hle := hN.le
  unfold canGo
  split
  ·exact ⟨by simp only; omega, hx⟩
  ·rename_i s hs
   have hs0 := hN.st s (List.mem_of_getElem? hs)
   have hsl : s.toNat < R.length := by omega
   have hg : R.getD s.toNat [] = R[s.toNat] := by rw [List.getD_eq_getElem?_getD, List.getElem?_eq_getElem hsl]; rfl
   rw [hg]
   have hil := (List.getElem?_eq_some_iff.1 hs).1
   have hrm := List.getElem_mem hsl
   generalize R[s.toNat] = r at *
   have hq : ∀ a ∈ rowOf r, 0 ≤ a.2 ∧ a.2 < (R.length : Int) := fun a ha => hb r hrm a ((mem_rowOf r a).1 ha)
   have hN2 := NumOk.go (rowOf r) [] hN hq
   have hl2 := rowGo_len (rowOf r) num old []
   have hl3 := len_rowOf r
   have hl4 := hB r hrm
   refine ih _ _ _ _ hN2 (by simp; omega) ?_ fun x hx2 => ?_
   ·have : ∀ (q : List Ar) (num old : List Int) (nxt : List Ar), old.length ≤ (rowGo q num old nxt).2.1.length := by
     intro q
     induction q with
     | nil => intro num old nxt; exact Nat.le_refl _
     | cons a tl ih2 =>
      intro num old nxt
      simp only [rowGo]
      refine Nat.le_trans ?_ (ih2 _ _ _)
      unfold numOne
      split <;> simp
    have := this (rowOf r) num old []
    omega
   ·rcases List.mem_append.1 hx2 with h | h
    ·exact hx x h
    ·simp at h; subst h
     simp only [List.length_nil, Nat.zero_add] at hl2
     omega
theorem canonR_bd {R : List (List Ar)} {B : Nat} (h1 : 1 ≤ R.length) (hb : ∀ r ∈ R, ∀ a ∈ r, 0 ≤ a.2 ∧ a.2 < (R.length : Int)) (hB : ∀ r ∈ R, r.length ≤ B) : (canonR R).1.length ≤ R.length ∧ ∀ x ∈ (canonR R).1, x.length ≤ B :=
 canGo_bd hb hB _ _ _ _ _ (NumOk.start h1) rfl (by simp) (by simp)
theorem sameN_fc : FC Tryz.prog 33 [.a (.g [.v (.slice none 0 0)]), .a (.g [.v (.slice none 0 0)])] [] (fun x o => o = [] ∧ x = .b true) := by
 refine fc_intro Tryz.func33 rfl (by rw [Tryz.ntmps33]; simp) ?_
 rw [Tryz.ntmps33]
 simp only [enum]
 have d0 : (((0 : Nat) : Int) != ((0 : Nat) : Int)) = false := by simp
 (refine wk1 @d0 ?_; (repeat clear hK K); repeat (refine Kq.mk ?_; intro K hK))
 refine cyz ?_
 (refine wk0 ?_; (repeat clear hK K); repeat (refine Kq.mk ?_; intro K hK))
 refine aw_loop (fun k : Nat => { tm := [(2, .a (.c (.p 0 0))), (3, .a (.c (.p 1 0))), (5, .i k)], hp := [.r ⟨25, 1, false, [.v (.slice none 0 0)]⟩, .r ⟨25, 1, false, [.v (.slice none 0 0)]⟩], n := 32, pin := 0 }) (fun k => k ≤ 0) (fun k => 0 - k) 0 ?_ ?_ ?_
 ·omega
 ·exact lmz
 ·rintro k hk K hK
  have hk0 : k = 0 := by omega
  subst hk0
  (refine wk0 ?_; (repeat clear hK K); repeat (refine Kq.mk ?_; intro K hK))
  (refine aw_cnd ?_; intro X Y hX hY; simp only [go_sem])
  refine ⟨fun h => absurd h (by simp), fun _ => hY ?_⟩
  clear hX hY X Y
  (refine ekz ?_; repeat clear hK K)
  (refine wk0 ?_; (repeat clear hK K); repeat (refine Kq.mk ?_; intro K hK))
  ((try refine aw_ret ?_); (try simp only [ThenA, InBl]); refine ret_le (le_pick [] rfl rfl) ?_; (try simp only [List.set_nil, List.take_nil, List.take_zero, List.map_append, go_sem]); ((try refine aw_ret ?_); (try refine lst_nil ?_); (try simp only [ThenA, InBl]); refine ret_mk (by first | exact .inl rfl | exact .inr rfl) rfl ?_; simp only [rtn, resA, resL, resV, Tryz.results33, go_sem, true_and, and_true]))
theorem insO_tot (x : Option Ar) (c : Nat) (o : List (List Ar)) : totA (insO x c o) ≤ totA o + 1 := by
 cases x with
 | none => simp [insO]
 | some b =>
  unfold insO
  simp only
  by_cases h : c < o.length
  ·have h1 := totA_setE o c
   have h2 := totA_setE (o.set c (insA b (o.getD c []))) c
   have h3 := insA_len b (o.getD c [])
   rw [List.set_set, List.getD_eq_getElem?_getD (l := o.set c (insA b (o.getD c []))), List.getElem?_set_self h, Option.getD_some] at h2
   omega
  ·rw [List.set_eq_of_length_le (by omega)]; omega
theorem qiRow_tot (f : Nat → Nat) (c : Nat) (row : List Ar) : ∀ o, totA (qiRow f c o row) ≤ totA o + row.length := by
 induction row with
 | nil => intro o; exact Nat.le_refl _
 | cons a r ih =>
  intro o
  have h1 := ih (insO (qp1 f c a) c o)
  have h2 := insO_tot (qp1 f c a) c o
  show totA (qiRow f c (insO (qp1 f c a) c o) r) ≤ _
  simp only [List.length_cons]; omega
theorem qiOut_tot (f : Nat → Nat) (m : Nat) (R : List (List Ar)) (B : List Bool) : ∀ k, k ≤ R.length → totA (qiOut f m R B k) ≤ totA (R.take k) + k := by
 intro k
 induction k with
 | zero => intro _; rw [qiOut, totA_rep]; omega
 | succ k ih =>
  intro hk
  have h1 := ih (by omega)
  have h2 := totA_take (R := R) (k := k) hk
  have h3 := qiRow_tot f (f k) (R.getD k []) (qiOut f m R B k)
  have h5 := insO_tot (lpO (B.getD k false) (f k)) (f k) (qiRow f (f k) (qiOut f m R B k) (R.getD k []))
  have h4 : R.getD k [] = R[k] := by rw [List.getD_eq_getElem?_getD, List.getElem?_eq_getElem hk]; rfl
  rw [qiOut]
  rw [h4] at h3 h5 ⊢
  omega
theorem canon_loo {T : List (List Ar)} (h1 : 1 ≤ T.length) (h2 : T.length ≤ 16384) (hb : ∀ r ∈ T, ∀ a ∈ r, 0 ≤ a.1 ∧ a.1 ≤ 1025 ∧ 0 ≤ a.2 ∧ a.2 < (T.length : Int)) : looB (canonR T).1 = decide (totA (canonR T).1 ≤ 262144) ∧ (canonR T).1.length ≤ T.length := by
 obtain ⟨k1, k2, k3, k4⟩ := canGo_val (B := totA T) hb T.length 0 _ _ [] T (NumOk.start h1) (NumInj.start h1) (NumSur.start h1) rfl (by simp) (by omega) ⟨by simp, by simp⟩ rfl (fun _ _ _ => rfl) (by simp [totA])
 refine ⟨?_, k2⟩
 unfold looB
 rw [Bool.eq_iff_iff, decide_eq_true_iff, decide_eq_true_iff]
 constructor
 ·exact fun h => h.2.2.1
 ·exact fun h => ⟨k1, Nat.le_trans k2 h2, h, k3.bd⟩
theorem rquo_no (R : List (List Ar)) (cl : List Int) (h : valB R = false ∨ numB cl R.length = false) (hn : R.length ≤ 140737488355328) (hr : ∀ r ∈ R, r.length ≤ 140737488355328) (hC : cl.length ≤ 9223372036854775807) : FC Tryz.prog 35 [aLts R, aInts cl] [] (fun r o => o = [.r ⟨25, 1, false, [.v (.slice none 0 0)]⟩] ∧ r = .tup [.g [.v (.slice none 0 0)], .c (.v (.int .i64 1))]) := by
 refine fc_intro Tryz.func35 rfl (by rw [Tryz.ntmps35]; simp) ?_
 rw [Tryz.ntmps35]
 simp only [enum, aLts, aInts]
 (refine wk0 ?_; (repeat clear hK K); repeat (refine Kq.mk ?_; intro K hK))
 (refine ckz (validR_fc R hn hr) ?_; intro K1 hK1)
 rintro _ _ ⟨rfl, rfl⟩
 (refine bkz ?_; clear hK1 K1)
 cases hv : valB R with
 | false =>
  (refine wk1 @Bool.not_false ?_; (repeat clear hK K); repeat (refine Kq.mk ?_; intro K hK))
  refine cxz ?_
  (refine wks0 ?_; (repeat clear hK K); repeat (refine Kq.mk ?_; intro K hK))
  ((try refine aw_ret ?_); (try simp only [ThenA, InBl]); refine ret_le (le_pick [1] rfl rfl) ?_; (try simp only [List.set_nil, List.take_nil, List.take_zero, List.map_append, go_sem]); ((try refine aw_ret ?_); (try refine lst_nil ?_); (try simp only [ThenA, InBl]); refine ret_mk (by first | exact .inl rfl | exact .inr rfl) rfl ?_; simp only [rtn, resA, resL, resV, Tryz.results35, go_sem, true_and, and_true]))
 | true =>
  have h2 : numB cl R.length = false := h.resolve_left (by rw [hv]; simp)
  (refine wk1 (an @Bool.not_true @tRows_len) ?_; (repeat clear hK K); repeat (refine Kq.mk ?_; intro K hK))
  (refine lst_goU rfl rfl (by simp only [go_sem] <;> rfl) ?_; intro K1 hK1; refine (stp_call0 (ids := []) (rnum_fc cl R.length hC) rfl rfl (by simp only [go_sem]) (by kernel_rfl) (by (simp only [List.append_nil, go_sem]) <;> rfl) ?_).stp)
  rintro _ _ ⟨rfl, rfl⟩
  (refine bkz ?_; clear hK1 K1)
  (refine wk1 (an @h2 @Bool.not_false) ?_; (repeat clear hK K); repeat (refine Kq.mk ?_; intro K hK))
  refine cxz ?_
  (refine wks0 ?_; (repeat clear hK K); repeat (refine Kq.mk ?_; intro K hK))
  ((try refine aw_ret ?_); (try simp only [ThenA, InBl]); refine ret_le (le_pick [1] rfl rfl) ?_; (try simp only [List.set_nil, List.take_nil, List.take_zero, List.map_append, go_sem]); ((try refine aw_ret ?_); (try refine lst_nil ?_); (try simp only [ThenA, InBl]); refine ret_mk (by first | exact .inl rfl | exact .inr rfl) rfl ?_; simp only [rtn, resA, resL, resV, Tryz.results35, go_sem, true_and, and_true]))
set_option maxHeartbeats 8000000 in
theorem rquo_fc (R : List (List Ar)) (cl : List Int) (hv : valB R = true) (hC : numB cl R.length = true) (hn : R.length ≤ 1000000) (hr : ∀ r ∈ R, r.length ≤ 1000000) : FC Tryz.prog 35 [aLts R, aInts cl] [] (fun r o => ∃ B, DvL R B ∧ quO (canonR (qR R cl B)).1 r o) := by
 refine fc_intro Tryz.func35 rfl (by rw [Tryz.ntmps35]; simp) ?_
 rw [Tryz.ntmps35]
 simp only [enum, aLts, aInts]
 have hlo : looB R = true := decide_eq_true (of_decide_eq_true hv).1
 have h1 : 1 ≤ R.length := (of_decide_eq_true hlo).1
 have hR16 : R.length ≤ 16384 := (of_decide_eq_true hlo).2.1
 have htA : totA R ≤ 262144 := (of_decide_eq_true hlo).2.2.1
 have hbd := (of_decide_eq_true hlo).2.2.2
 obtain ⟨hCl, hmn, hcl, hmx⟩ := num_ok hC
 have hm1 : 1 ≤ mxN cl := by have := (hcl 0 (by omega)).1; omega
 have hcb : ∀ c ∈ cl, 0 ≤ c ∧ c ≤ 140737488355328 := fun c hc => by
  obtain ⟨i, hi, rfl⟩ := List.getElem_of_mem hc
  obtain ⟨q1, q2⟩ := hcl i (by omega)
  rw [List.getElem?_eq_getElem hi] at q2
  injection q2 with q2
  omega
 (refine wk0 ?_; (repeat clear hK K); repeat (refine Kq.mk ?_; intro K hK))
 (refine ckz (validR_fc R (by omega) (fun r h => by have := hr r h; omega)) ?_; intro K1 hK1)
 rintro _ _ ⟨rfl, rfl⟩
 (refine bkz ?_; clear hK1 K1)
 (refine wk1 (an @hv (an @Bool.not_true @tRows_len)) ?_; (repeat clear hK K); repeat (refine Kq.mk ?_; intro K hK))
 (refine lst_goU rfl rfl (by simp only [go_sem] <;> rfl) ?_; intro K1 hK1; refine (stp_call0 (ids := []) (rnum_fc cl R.length (by omega)) rfl rfl (by simp only [go_sem]) (by kernel_rfl) (by (simp only [List.append_nil, go_sem]) <;> rfl) ?_).stp)
 rintro _ _ ⟨rfl, rfl⟩
 (refine bkz ?_; clear hK1 K1)
 (refine wk1 (an @hC @Bool.not_true) ?_; (repeat clear hK K); repeat (refine Kq.mk ?_; intro K hK))
 refine cyz ?_
 (refine wk0 ?_; (repeat clear hK K); repeat (refine Kq.mk ?_; intro K hK))
 (refine ckz (rdvgT_fc R hv hn hr) ?_; intro K1 hK1)
 rintro _ _ ⟨B, hB, rfl, rfl⟩
 (refine bkz ?_; clear hK1 K1)
 have hBl := hB.1
 have hB2 : ∀ s, s < R.length → B[s]? = some (B.getD s false) := fun s hs => by rw [List.getD_eq_getElem?_getD, List.getElem?_eq_getElem (by omega)]; rfl
 have hend : ∀ r o, quO (canonR (qR R cl B)).1 r o → ∃ B, DvL R B ∧ quO (canonR (qR R cl B)).1 r o := fun r o h => ⟨B, hB, h⟩
 have hqc := q_canon (B := B) hC
 rw [← hqc] at hend
 (refine wk0 ?_; (repeat clear hK K); repeat (refine Kq.mk ?_; intro K hK))
 (refine ckz (count_fc cl (by omega) hcb) ?_; intro K1 hK1)
 rintro _ _ ⟨rfl, rfl⟩
 (refine bkz ?_; clear hK1 K1)
 rw [hmx]
 generalize hm : mxN cl = m at *
 generalize hf : clf cl = f at *
 (refine wks0 ?_; (repeat clear hK K); repeat (refine Kq.mk ?_; intro K hK))
 have hfm : ∀ v, v < R.length → f v < m := fun v hv => (hcl v hv).1
 refine aw_le (le_ot 2 rfl) ?_
 have e1 : (List.replicate m (C.o (2, 49) [])).map otC = cRows (qiOut f m R B 0) := by simp [cRows, qiOut, tArcs, otC]
 simp only [e1, go_sem]
 refine aw_loop (fun s : Nat => { tm := [(1, .a (.c (.t 1 (tInts cl)))), (2, .a (.c (.p 0 0))), (4, .a (.c (.p 1 0))), (6, .a (.c (.t 1 (tBs B)))), (7, .a (.c (.p 3 0))), (8, .i s)], hp := [.r ⟨25, 1, false, [.t 1 (tRows R)]⟩, .r ⟨25, 1, false, [.v (.slice none 0 0)]⟩, .r ⟨45, 1, true, cRows (qiOut f m R B s)⟩, .r ⟨25, 1, false, [.s 2 m]⟩], n := 117, pin := 0 }) (fun s => s ≤ R.length) (fun s => R.length - s) 0 ?_ ?_ ?_
 ·omega
 ·exact lmz
 ·rintro s hs K hK
  by_cases hlt : s < R.length
  ·have d1 : decide ((s : Int) < (R.length : Int)) = true := by simpa using hlt
   have hgR := List.getElem?_eq_getElem hlt
   have hrl := hr _ (List.getElem_mem hlt)
   obtain ⟨hfs, hgs⟩ := hcl s hlt
   have gC := tInts_get hgs
   have gB := tBs_get (hB2 s hlt)
   have htot := qiOut_tot f m R B s hs
   have hto := totA_take hlt
   have htl3 := totA_le R (s + 1)
   have hbs := hbd _ (List.getElem_mem hlt)
   have htl : qiOut f m R B (s + 1) = insO (lpO (B.getD s false) (f s)) (f s) (qiRow f (f s) (qiOut f m R B s) R[s]) := by
    rw [qiOut, List.getD_eq_getElem?_getD, List.getD_eq_getElem?_getD, hgR, Option.getD_some]
   generalize hrow : R[s] = row at *
   (refine wk1 (an @d1 @tRows_len) ?_; (repeat clear hK K); repeat (refine Kq.mk ?_; intro K hK))
   refine cxz ?_
   (refine wk1 (an @tInts_len (an @hCl @gC)) ?_; (repeat clear hK K); repeat (refine Kq.mk ?_; intro K hK))
   refine aw_loop (fun k : Nat => { tm := [(1, .a (.c (.t 1 (tInts cl)))), (2, .a (.c (.p 0 0))), (4, .a (.c (.p 1 0))), (6, .a (.c (.t 1 (tBs B)))), (7, .a (.c (.p 3 0))), (8, .i s), (9, .i (f s)), (10, .i k)], hp := [.r ⟨25, 1, false, [.t 1 (tRows R)]⟩, .r ⟨25, 1, false, [.v (.slice none 0 0)]⟩, .r ⟨45, 1, true, cRows (qiRow f (f s) (qiOut f m R B s) (row.take k))⟩, .r ⟨25, 1, false, [.s 2 m]⟩], n := 117, pin := 0 }) (fun k => k ≤ row.length) (fun k => row.length - k) 0 ?_ ?_ ?_
   ·omega
   ·simp only [List.take_zero, qiRow, List.foldl_nil]
    exact lmz
   ·rintro k hk K hK
    by_cases hlt3 : k < row.length
    ·have d3 : decide ((k : Int) < (row.length : Int)) = true := by simpa using hlt3
     have hat := tArcs_at hlt3
     have hb := hbs _ (List.getElem_mem hlt3)
     have hsn := qiRow_snoc f (f s) (qiOut f m R B s) (row.take k) row[k]
     rw [← List.take_succ_eq_append_getElem hlt3] at hsn
     generalize row[k] = a at *
     obtain ⟨e, t⟩ := a
     simp only at hat hb
     obtain ⟨_, _, ht0, ht1⟩ := hb
     obtain ⟨tn, rfl⟩ : ∃ tn : Nat, t = (tn : Int) := ⟨t.toNat, by omega⟩
     have htn : tn < R.length := by omega
     obtain ⟨hft, hgt⟩ := hcl tn htn
     have gT := tInts_get hgt
     have hol : (qiRow f (f s) (qiOut f m R B s) (row.take k)).length = m := by rw [qiRow_len, qiOut_len]
     have hot := qiRow_tot f (f s) (row.take k) (qiOut f m R B s)
     rw [List.length_take] at hot
     generalize qiRow f (f s) (qiOut f m R B s) (row.take k) = o at *
     have hrw := totA_row o (f s)
     have hgo : o[f s]? = some (o.getD (f s) []) := by
      rw [List.getD_eq_getElem?_getD, List.getElem?_eq_getElem (by omega)]; rfl
     have gO := cRows_get hgo
     (refine wk1 (an @d3 (an @tRows_len (an (tRows_get hgR) (an @tArcs_len @half2)))) ?_; (repeat clear hK K); repeat (refine Kq.mk ?_; intro K hK))
     refine cxz ?_
     by_cases hq : e ≠ 0 ∨ f tn ≠ f s
     ·have hx : qp1 f (f s) (e, (tn : Int)) = some (e, (f tn : Int)) := by
       show (if e ≠ 0 ∨ f tn ≠ f s then some (e, (f tn : Int)) else none) = _
       rw [if_pos hq]
      have hA : insO (qp1 f (f s) (e, (tn : Int))) (f s) o = o.set (f s) (insA (e, (f tn : Int)) (o.getD (f s) [])) := by rw [hx]; rfl
      generalize o.getD (f s) [] = oc at *
      have hpick : (e != 0) = true ∨ ((e != 0) = false ∧ ((f tn : Int) != (f s : Int)) = true) := by
       by_cases he : e = 0
       ·right
        refine ⟨by simp [he], ?_⟩
        have := hq.resolve_left (by simp [he])
        simp; omega
       ·left; simpa using he
      rcases hpick with d4 | ⟨d4, d5⟩
      ·(refine wks1 (an @hat (an @tRows_len (an (tRows_get hgR) (an @tArcs_len (an @half2 @d4))))) ?_; (repeat clear hK K); repeat (refine Kq.mk ?_; intro K hK))
       refine cxz ?_
       (refine wk0 ?_; (repeat clear hK K); repeat (refine Kq.mk ?_; intro K hK))
       (refine aw_regionV [] [(0, 0, 0), (2, 0, 0), (3, 0, 0), (5, 0, 0), (8, 0, 0), (10, 0, 0), (11, 0, 0), (1, 1, 18), (4, 1, 16), (6, 0, 0), (7, 1, 16), (9, 1, 16), (12, 1, 16), (13, 0, 0), (14, 1, 16), (15, 0, 0), (16, 2, 0), (17, 0, 0), (18, 2, 0)] (by kernel_rfl) (by kernel_rfl) (by intro c st h; simp [ThenA, InBl, Ret] at h) ?_)
       (refine vk1 (an @cRows_len (an @gO (an @hol (an @tInts_len (an @hCl @gT))))) ?_; repeat clear hK K)
       (refine v_2 rfl rfl ?_; intro K1 hK1; refine stpX_mono ?_; refine stpX_call (ids := []) [] (insT_fc oc (e, (f tn : Int)) (by omega)) rfl rfl (by simp only [go_sem]) (by kernel_rfl) rfl rfl rfl (by (simp only [List.map_append, List.append_nil, go_sem]) <;> rfl) (by (simp only [pkh, go_sem]) <;> rfl) ?_ ?_)
       ·rintro _ _ ⟨rfl, rfl⟩ i o hi hl; simp at hl
       rintro _ _ ⟨rfl, rfl⟩
       (simp only [aInts, aSets, aArcs, List.append_nil, List.nil_append, List.length_map, go_sem]; refine hK1 _ ?_; clear hK1 K1)
       (refine vk1 (an @cRows_len @hol) ?_; repeat clear hK K)
       (refine v_3 rfl rfl rfl ?_; intro K1 hK1; refine stp_ev rfl ?_; simp only [go_sem, cRows_len, hol, cRows_set, ST.put, setC, A0.cells]; (first | refine hK1 _ ?_ | refine andk (hK1 _ ?_)); clear hK1 K1)
       refine v_nil ⟨by simp, by simp, ?_⟩
       (try simp only [ThenA, InBl])
       refine hK _ ?_
       clear hK K
       (refine wk0 ?_; (repeat clear hK K); repeat (refine Kq.mk ?_; intro K hK))
       refine rnz ?_
       refine hK _ (k + 1) (by omega) (by omega) ?_
       refine Le.trans (le_pick [0, 1, 2, 3] rfl rfl) ?_
       (try simp only [List.set_nil, List.take_nil, List.take_zero, List.map_append, go_sem])
       (try simp only [cRows_ren])
       rw [hsn, hA]
       exact lmz
      ·(refine wks1 (an @hat (an @tRows_len (an (tRows_get hgR) (an @tArcs_len (an @half2 (an @d4 (an @d5 (an @tInts_len (an @hCl @gT))))))))) ?_; (repeat clear hK K); repeat (refine Kq.mk ?_; intro K hK))
       refine cxz ?_
       (refine wk0 ?_; (repeat clear hK K); repeat (refine Kq.mk ?_; intro K hK))
       (refine aw_regionV [] [(0, 0, 0), (2, 0, 0), (3, 0, 0), (5, 0, 0), (8, 0, 0), (10, 0, 0), (11, 0, 0), (1, 1, 18), (4, 1, 16), (6, 0, 0), (7, 1, 16), (9, 1, 16), (12, 1, 16), (13, 0, 0), (14, 1, 16), (15, 0, 0), (16, 2, 0), (17, 0, 0), (18, 2, 0)] (by kernel_rfl) (by kernel_rfl) (by intro c st h; simp [ThenA, InBl, Ret] at h) ?_)
       (refine vk1 (an @cRows_len (an @gO (an @hol (an @tInts_len (an @hCl @gT))))) ?_; repeat clear hK K)
       (refine v_2 rfl rfl ?_; intro K1 hK1; refine stpX_mono ?_; refine stpX_call (ids := []) [] (insT_fc oc (e, (f tn : Int)) (by omega)) rfl rfl (by simp only [go_sem]) (by kernel_rfl) rfl rfl rfl (by (simp only [List.map_append, List.append_nil, go_sem]) <;> rfl) (by (simp only [pkh, go_sem]) <;> rfl) ?_ ?_)
       ·rintro _ _ ⟨rfl, rfl⟩ i o hi hl; simp at hl
       rintro _ _ ⟨rfl, rfl⟩
       (simp only [aInts, aSets, aArcs, List.append_nil, List.nil_append, List.length_map, go_sem]; refine hK1 _ ?_; clear hK1 K1)
       (refine vk1 (an @cRows_len @hol) ?_; repeat clear hK K)
       (refine v_3 rfl rfl rfl ?_; intro K1 hK1; refine stp_ev rfl ?_; simp only [go_sem, cRows_len, hol, cRows_set, ST.put, setC, A0.cells]; (first | refine hK1 _ ?_ | refine andk (hK1 _ ?_)); clear hK1 K1)
       refine v_nil ⟨by simp, by simp, ?_⟩
       (try simp only [ThenA, InBl])
       refine hK _ ?_
       clear hK K
       (refine wk0 ?_; (repeat clear hK K); repeat (refine Kq.mk ?_; intro K hK))
       refine rnz ?_
       refine hK _ (k + 1) (by omega) (by omega) ?_
       refine Le.trans (le_pick [0, 1, 2, 3] rfl rfl) ?_
       (try simp only [List.set_nil, List.take_nil, List.take_zero, List.map_append, go_sem])
       (try simp only [cRows_ren])
       rw [hsn, hA]
       exact lmz
     ·have hx : qp1 f (f s) (e, (tn : Int)) = none := by
       show (if e ≠ 0 ∨ f tn ≠ f s then some (e, (f tn : Int)) else none) = _
       rw [if_neg hq]
      have hA : insO (qp1 f (f s) (e, (tn : Int))) (f s) o = o := by rw [hx]; rfl
      have he : e = 0 := Decidable.not_not.1 fun h => hq (.inl h)
      have hff : f tn = f s := Decidable.not_not.1 fun h => hq (.inr h)
      have d4 : (e != 0) = false := by simp [he]
      have d5 : ((f tn : Int) != (f s : Int)) = false := by simp [hff]
      (refine wks1 (an @hat (an @tRows_len (an (tRows_get hgR) (an @tArcs_len (an @half2 (an @d4 (an @d5 (an @tInts_len (an @hCl @gT))))))))) ?_; (repeat clear hK K); repeat (refine Kq.mk ?_; intro K hK))
      refine cyz ?_
      (refine wk0 ?_; (repeat clear hK K); repeat (refine Kq.mk ?_; intro K hK))
      refine rnz ?_
      refine hK _ (k + 1) (by omega) (by omega) ?_
      refine Le.trans (le_pick [0, 1, 2, 3] rfl rfl) ?_
      (try simp only [List.set_nil, List.take_nil, List.take_zero, List.map_append, go_sem])
      (try simp only [cRows_ren])
      rw [hsn, hA]
      exact lmz
    ·have d3 : decide ((k : Int) < (row.length : Int)) = false := by simpa using hlt3
     have hke3 : row.take k = row := List.take_of_length_le (by omega)
     rw [hke3]
     have hol : (qiRow f (f s) (qiOut f m R B s) row).length = m := by rw [qiRow_len, qiOut_len]
     have hot := qiRow_tot f (f s) row (qiOut f m R B s)
     generalize qiRow f (f s) (qiOut f m R B s) row = o at *
     have hrw := totA_row o (f s)
     have hgo : o[f s]? = some (o.getD (f s) []) := by
      rw [List.getD_eq_getElem?_getD, List.getElem?_eq_getElem (by omega)]; rfl
     have gO := cRows_get hgo
     (refine wk1 (an @d3 (an @tRows_len (an (tRows_get hgR) (an @tArcs_len @half2)))) ?_; (repeat clear hK K); repeat (refine Kq.mk ?_; intro K hK))
     refine cyz ?_
     (refine ekz ?_; repeat clear hK K)
     cases hbs2 : B.getD s false with
     | true =>
      rw [hbs2] at gB htl
      have hA : insO (lpO true (f s)) (f s) o = o.set (f s) (insA (0, (f s : Int)) (o.getD (f s) [])) := rfl
      rw [hA] at htl
      generalize o.getD (f s) [] = oc at *
      (refine wk1 (an @tBs_len (an @hBl @gB)) ?_; (repeat clear hK K); repeat (refine Kq.mk ?_; intro K hK))
      refine cxz ?_
      (refine wk0 ?_; (repeat clear hK K); repeat (refine Kq.mk ?_; intro K hK))
      (refine aw_regionV [] [(0, 0, 0), (2, 0, 0), (3, 0, 0), (5, 0, 0), (8, 0, 0), (9, 0, 0), (1, 1, 12), (4, 1, 10), (6, 0, 0), (7, 1, 10), (10, 2, 0), (11, 0, 0), (12, 2, 0)] (by kernel_rfl) (by kernel_rfl) (by intro c st h; simp [ThenA, InBl, Ret] at h) ?_)
      (refine vk1 (an @cRows_len (an @gO @hol)) ?_; repeat clear hK K)
      (refine v_2 rfl rfl ?_; intro K1 hK1; refine stpX_mono ?_; refine stpX_call (ids := []) [] (insT_fc oc (0, (f s : Int)) (by omega)) rfl rfl (by simp only [go_sem]) (by kernel_rfl) rfl rfl rfl (by (simp only [List.map_append, List.append_nil, go_sem]) <;> rfl) (by (simp only [pkh, go_sem]) <;> rfl) ?_ ?_)
      ·rintro _ _ ⟨rfl, rfl⟩ i o hi hl; simp at hl
      rintro _ _ ⟨rfl, rfl⟩
      (simp only [aInts, aSets, aArcs, List.append_nil, List.nil_append, List.length_map, go_sem]; refine hK1 _ ?_; clear hK1 K1)
      (refine vk1 (an @cRows_len @hol) ?_; repeat clear hK K)
      (refine v_3 rfl rfl rfl ?_; intro K1 hK1; refine stp_ev rfl ?_; simp only [go_sem, cRows_len, hol, cRows_set, ST.put, setC, A0.cells]; (first | refine hK1 _ ?_ | refine andk (hK1 _ ?_)); clear hK1 K1)
      refine v_nil ⟨by simp, by simp, ?_⟩
      (try simp only [ThenA, InBl])
      refine hK _ ?_
      clear hK K
      (refine wk0 ?_; (repeat clear hK K); repeat (refine Kq.mk ?_; intro K hK))
      refine rnz ?_
      refine hK _ (s + 1) (by omega) (by omega) ?_
      refine Le.trans (le_pick [0, 1, 2, 3] rfl rfl) ?_
      (try simp only [List.set_nil, List.take_nil, List.take_zero, List.map_append, go_sem])
      (try simp only [cRows_ren])
      rw [htl]
      exact lmz
     | false =>
      rw [hbs2] at gB htl
      have hA : insO (lpO false (f s)) (f s) o = o := rfl
      rw [hA] at htl
      (refine wk1 (an @tBs_len (an @hBl @gB)) ?_; (repeat clear hK K); repeat (refine Kq.mk ?_; intro K hK))
      refine cyz ?_
      (refine wk0 ?_; (repeat clear hK K); repeat (refine Kq.mk ?_; intro K hK))
      refine rnz ?_
      refine hK _ (s + 1) (by omega) (by omega) ?_
      rw [htl]
      exact lmz
  ·have d1 : decide ((s : Int) < (R.length : Int)) = false := by simpa using hlt
   have hse : s = R.length := by omega
   rw [hse] at d1
   rw [hse]
   (refine wk1 (an @d1 @tRows_len) ?_; (repeat clear hK K); repeat (refine Kq.mk ?_; intro K hK))
   refine cyz ?_
   (refine ekz ?_; repeat clear hK K)
   have hTl := qiOut_len f m R B R.length
   have hTt := qiOut_tot f m R B R.length (Nat.le_refl _)
   rw [List.take_length] at hTt
   have hTb : ∀ r ∈ qiOut f m R B R.length, ∀ a ∈ r, 0 ≤ a.1 ∧ a.1 ≤ 1025 ∧ 0 ≤ a.2 ∧ a.2 < (m : Int) := fun r hr0 a ha => by
    obtain ⟨d, hd, rfl⟩ := List.getElem_of_mem hr0
    have ha2 : a ∈ (qiOut f m R B R.length).getD d [] := by rw [List.getD_eq_getElem?_getD, List.getElem?_eq_getElem hd]; exact ha
    rcases (mem_qiOut hfm R.length (Nat.le_refl _)).1 ha2 with q | ⟨q, _⟩
    ·exact q.bd hlo (Nat.le_refl _) hfm
    ·subst q; simp only; omega
   generalize qiOut f m R B R.length = T at *
   have hrT : ∀ r ∈ T, r.length ≤ 1000000 := fun r hr0 => by
    obtain ⟨j, hj, rfl⟩ := List.getElem_of_mem hr0
    have h := totA_row T j
    rw [List.getD_eq_getElem?_getD, List.getElem?_eq_getElem hj, Option.getD_some] at h
    omega
   have hco := canonX_fc T (by omega) (fun r hr0 a ha => by have := hTb r hr0 a ha; rw [hTl]; exact ⟨this.2.2.1, this.2.2.2⟩) (by omega) hrT
   obtain ⟨hlx, hxl⟩ := canon_loo (T := T) (by omega) (by omega) (by rw [hTl]; exact hTb)
   have hxr : ∀ r ∈ (canonR T).1, r.length ≤ 140737488355328 := fun r hr0 => by
    have := (canonR_bd (R := T) (B := 1000000) (by omega) (fun r hr0 a ha => by have := hTb r hr0 a ha; rw [hTl]; exact ⟨this.2.2.1, this.2.2.2⟩) hrT).2 r hr0
    omega
   generalize (canonR T).1 = x at *
   have hll := looseR_fc x (by omega) hxr
   have htk : (tRows T).take m = tRows T := List.take_of_length_le (by rw [tRows_len]; omega)
   refine aw_le (le_sink (r := ⟨45, 1, true, cRows T⟩) (ri := ⟨25, 1, false, [.s 2 m]⟩) (ts := tRows T) 3 0 2 m (by decide) rfl rfl rfl rfl (show 0 < 1 by omega) (by simp only [cRows_len, hTl]; omega) (fz_cr _)) ?_
   simp only [go_sem]
   refine aw_le (le_ot 3 rfl) ?_
   simp only [otC, go_sem]
   (refine wk0 ?_; (repeat clear hK K); repeat (refine Kq.mk ?_; intro K hK))
   (refine ckz hco ?_; intro K1 hK1)
   rintro _ _ ⟨rfl, rfl⟩
   (refine bkz ?_; clear hK1 K1)
   (refine wks0 ?_; (repeat clear hK K); repeat (refine Kq.mk ?_; intro K hK))
   (refine ckz hll ?_; intro K1 hK1)
   rintro _ _ ⟨rfl, rfl⟩
   (refine bkz ?_; clear hK1 K1)
   by_cases ht : totA x ≤ 262144
   ·rw [hlx, decide_eq_true ht]
    (refine wk1 @Bool.not_true ?_; (repeat clear hK K); repeat (refine Kq.mk ?_; intro K hK))
    refine cyz ?_
    (refine wks0 ?_; (repeat clear hK K); repeat (refine Kq.mk ?_; intro K hK))
    ((try refine aw_ret ?_); (try simp only [ThenA, InBl]); refine ret_le (le_pick [1] rfl rfl) ?_; (try simp only [List.set_nil, List.take_nil, List.take_zero, List.map_append, go_sem]); ((try refine aw_ret ?_); (try refine lst_nil ?_); (try simp only [ThenA, InBl]); refine ret_mk (by first | exact .inl rfl | exact .inr rfl) rfl ?_; simp only [rtn, resA, resL, resV, Tryz.results35, go_sem, true_and, and_true]))
    refine hend _ _ ?_
    rw [quO, if_pos ht]
    exact ⟨rfl, rfl⟩
   ·rw [hlx, decide_eq_false ht]
    (refine wk1 @Bool.not_false ?_; (repeat clear hK K); repeat (refine Kq.mk ?_; intro K hK))
    refine cxz ?_
    (refine wks0 ?_; (repeat clear hK K); repeat (refine Kq.mk ?_; intro K hK))
    ((try refine aw_ret ?_); (try simp only [ThenA, InBl]); refine ret_le (le_pick [1] rfl rfl) ?_; (try simp only [List.set_nil, List.take_nil, List.take_zero, List.map_append, go_sem]); ((try refine aw_ret ?_); (try refine lst_nil ?_); (try simp only [ThenA, InBl]); refine ret_mk (by first | exact .inl rfl | exact .inr rfl) rfl ?_; simp only [rtn, resA, resL, resV, Tryz.results35, go_sem, true_and, and_true]))
    refine hend _ _ ?_
    rw [quO, if_neg ht]
    exact ⟨rfl, rfl⟩
section
variable {α β : Type} [DecidableEq α] [DecidableEq β]
def nmG (f : Nat → α) : Nat → List Int × Nat
 | 0 => ([], 0)
 | k + 1 => match (List.range k).find? (fun t => decide (f t = f k)) with
  | some t => ((nmG f k).1 ++ [(nmG f k).1.getD t 0], (nmG f k).2)
  | none => ((nmG f k).1 ++ [((nmG f k).2 : Int)], (nmG f k).2 + 1)
theorem nmG_some {f : Nat → α} {k t : Nat} (h : (List.range k).find? (fun t => decide (f t = f k)) = some t) : nmG f (k + 1) = ((nmG f k).1 ++ [(nmG f k).1.getD t 0], (nmG f k).2) := by rw [nmG, h]
theorem nmG_none {f : Nat → α} {k : Nat} (h : (List.range k).find? (fun t => decide (f t = f k)) = none) : nmG f (k + 1) = ((nmG f k).1 ++ [((nmG f k).2 : Int)], (nmG f k).2 + 1) := by rw [nmG, h]
theorem nm_find_some {f : Nat → α} {k t : Nat} (ht : t < k) (h : f t = f k) (hn : ∀ u, u < t → f u ≠ f k) : (List.range k).find? (fun t => decide (f t = f k)) = some t := by
 rw [List.find?_range_eq_some]
 exact ⟨by simpa using h, by simpa using ht, fun j hj => by simpa using hn j hj⟩
theorem nm_find_none {f : Nat → α} {k : Nat} (hn : ∀ u, u < k → f u ≠ f k) : (List.range k).find? (fun t => decide (f t = f k)) = none := by
 rw [List.find?_range_eq_none]
 exact fun j hj => by simpa using hn j hj
theorem nm_cases (f : Nat → α) (k : Nat) : (∃ t, t < k ∧ f t = f k ∧ (∀ u, u < t → f u ≠ f k) ∧ nmG f (k + 1) = ((nmG f k).1 ++ [(nmG f k).1.getD t 0], (nmG f k).2)) ∨ ((∀ u, u < k → f u ≠ f k) ∧ nmG f (k + 1) = ((nmG f k).1 ++ [((nmG f k).2 : Int)], (nmG f k).2 + 1)) := by
 cases h : (List.range k).find? (fun t => decide (f t = f k)) with
 | some t =>
  have h2 := List.find?_range_eq_some.1 h
  exact .inl ⟨t, by simpa using h2.2.1, by simpa using h2.1, fun u hu => by simpa using h2.2.2 u hu, nmG_some h⟩
 | none =>
  have h2 := List.find?_range_eq_none.1 h
  exact .inr ⟨fun u hu => by simpa using h2 u hu, nmG_none h⟩
structure NmOk (f : Nat → α) (k : Nat) (p : List Int × Nat) : Prop where
 len : p.1.length = k
 eq : ∀ s t, s < k → t < k → (p.1.getD s 0 = p.1.getD t 0 ↔ f s = f t)
 rng : ∀ s, s < k → 0 ≤ p.1.getD s 0 ∧ p.1.getD s 0 < (p.2 : Int)
 cnt : p.2 ≤ k
theorem getD_snoc_lt {l : List Int} {x : Int} {s : Nat} (h : s < l.length) : (l ++ [x]).getD s 0 = l.getD s 0 := by
 rw [List.getD_eq_getElem?_getD, List.getElem?_append_left h, ← List.getD_eq_getElem?_getD]
theorem getD_snoc_eq {l : List Int} {x : Int} {s : Nat} (h : s = l.length) : (l ++ [x]).getD s 0 = x := by
 subst h
 rw [List.getD_eq_getElem?_getD, List.getElem?_append_right (Nat.le_refl _), Nat.sub_self]; rfl
theorem nmG_ok (f : Nat → α) (k : Nat) : NmOk f k (nmG f k) := by
 induction k with
 | zero => exact ⟨rfl, fun s t h => by omega, fun s h => by omega, Nat.le_refl _⟩
 | succ k ih =>
  have hl := ih.len
  rcases nm_cases f k with ⟨t, h1, h2, h3, h4⟩ | ⟨h3, h4⟩
  ·rw [h4]
   generalize nmG f k = p at *
   have g1 : ∀ s, s < k → (p.1 ++ [p.1.getD t 0]).getD s 0 = p.1.getD s 0 := fun s hs => getD_snoc_lt (by omega)
   have g2 : (p.1 ++ [p.1.getD t 0]).getD k 0 = p.1.getD t 0 := getD_snoc_eq hl.symm
   refine ⟨by simp [hl], fun s u hs hu => ?_, fun s hs => ?_, by have := ih.cnt; simp only; omega⟩
   ·simp only
    rcases Nat.lt_or_ge s k with a | a <;> rcases Nat.lt_or_ge u k with b | b
    ·rw [g1 s a, g1 u b]; exact ih.eq s u a b
    ·have : u = k := by omega
     subst this
     rw [g1 s a, g2, ih.eq s t a h1, h2]
    ·have : s = k := by omega
     subst this
     rw [g1 u b, g2, ih.eq t u h1 b, h2]
    ·have e1 : s = k := by omega
     have e2 : u = k := by omega
     subst e1; subst e2; simp
   ·simp only
    rcases Nat.lt_or_ge s k with a | a
    ·rw [g1 s a]; exact ih.rng s a
    ·have : s = k := by omega
     subst this; rw [g2]; exact ih.rng t h1
  ·rw [h4]
   generalize nmG f k = p at *
   have g1 : ∀ s, s < k → (p.1 ++ [(p.2 : Int)]).getD s 0 = p.1.getD s 0 := fun s hs => getD_snoc_lt (by omega)
   have g2 : (p.1 ++ [(p.2 : Int)]).getD k 0 = p.2 := getD_snoc_eq hl.symm
   refine ⟨by simp [hl], fun s u hs hu => ?_, fun s hs => ?_, by have := ih.cnt; simp only; omega⟩
   ·simp only
    rcases Nat.lt_or_ge s k with a | a <;> rcases Nat.lt_or_ge u k with b | b
    ·rw [g1 s a, g1 u b]; exact ih.eq s u a b
    ·have : u = k := by omega
     subst this
     rw [g1 s a, g2]
     have := ih.rng s a
     exact ⟨fun e => by omega, fun e => absurd e (h3 s a)⟩
    ·have : s = k := by omega
     subst this
     rw [g1 u b, g2]
     have := ih.rng u b
     exact ⟨fun e => by omega, fun e => absurd e.symm (h3 u b)⟩
    ·have e1 : s = k := by omega
     have e2 : u = k := by omega
     subst e1; subst e2; simp
   ·simp only
    rcases Nat.lt_or_ge s k with a | a
    ·rw [g1 s a]; have := ih.rng s a; omega
    ·have : s = k := by omega
     subst this; rw [g2]; omega
theorem nmG_ext {f : Nat → α} {g : Nat → β} : ∀ k, (∀ s t, s < k → t < k → (f s = f t ↔ g s = g t)) → nmG f k = nmG g k := by
 intro k
 induction k with
 | zero => intro _; rfl
 | succ k ih =>
  intro h
  have ih2 := ih fun s t hs ht => h s t (by omega) (by omega)
  rcases nm_cases f k with ⟨t, h1, h2, h3, h4⟩ | ⟨h3, h4⟩
  ·rw [h4, nmG_some (f := g) (nm_find_some h1 ((h t k (by omega) (by omega)).1 h2) fun u hu e => h3 u hu ((h u k (by omega) (by omega)).2 e)), ih2]
  ·rw [h4, nmG_none (f := g) (nm_find_none fun u hu e => h3 u hu ((h u k (by omega) (by omega)).2 e)), ih2]
theorem nmG_norm (f : Nat → α) (n : Nat) : nmG (fun s => (nmG f n).1.getD s 0) n = nmG f n := nmG_ext n fun s t hs ht => (nmG_ok f n).eq s t hs ht
def fstB (f : Nat → α) (k : Nat) : Bool := (List.range k).all fun t => !decide (f t = f k)
theorem fstB_iff {f : Nat → α} {k : Nat} : fstB f k = true ↔ ∀ t, t < k → f t ≠ f k := by simp [fstB]
theorem nm_count (f : Nat → α) (k : Nat) : (nmG f k).2 = (List.range k).countP (fstB f) := by
 induction k with
 | zero => rfl
 | succ k ih =>
  rw [List.range_succ, List.countP_append, ← ih]
  rcases nm_cases f k with ⟨t, h1, h2, h3, h4⟩ | ⟨h3, h4⟩
  ·have : fstB f k = false := by
    rw [← Bool.not_eq_true, fstB_iff]
    exact fun h => h t h1 h2
   rw [h4]; simp [this]
  ·have : fstB f k = true := fstB_iff.2 h3
   rw [h4]; simp [this]
theorem countP_eq_imp {γ : Type} {p q : γ → Bool} : ∀ {l : List γ}, (∀ x ∈ l, p x = true → q x = true) → l.countP p = l.countP q → ∀ x ∈ l, q x = true → p x = true
 | [], _, _, x, hx, _ => by simp at hx
 | a :: r, h, e, x, hx, hq => by
  have hle := List.countP_mono_left (p := p) (q := q) (l := r) fun y hy => h y (List.mem_cons_of_mem _ hy)
  rw [List.countP_cons, List.countP_cons] at e
  have ha := h a (by simp)
  rcases List.mem_cons.1 hx with rfl | hx
  ·cases hp : p x with
   | true => rfl
   | false => rw [hp, hq] at e; simp at e; omega
  ·refine countP_eq_imp (fun y hy => h y (List.mem_cons_of_mem _ hy)) ?_ x hx hq
   cases hp : p a with
   | true => rw [hp, ha hp] at e; simp at e; exact e
   | false =>
    rw [hp] at e
    cases hqa : q a with
    | true => rw [hqa] at e; simp at e; omega
    | false => rw [hqa] at e; simpa using e
theorem nm_first {f : Nat → α} (s : Nat) : ∃ t, t ≤ s ∧ f t = f s ∧ fstB f t = true := by
 induction s using Nat.strongRecOn with
 | _ s ih =>
  cases h : fstB f s with
  | true => exact ⟨s, Nat.le_refl _, rfl, h⟩
  | false =>
   have : ¬ ∀ t, t < s → f t ≠ f s := fun q => by rw [fstB_iff.2 q] at h; cases h
   obtain ⟨t, ht, e⟩ : ∃ t, t < s ∧ f t = f s := Classical.byContradiction fun q => this fun t ht e => q ⟨t, ht, e⟩
   obtain ⟨u, h1, h2, h3⟩ := ih t ht
   exact ⟨u, by omega, h2.trans e, h3⟩
theorem nm_refine {f : Nat → α} {g : Nat → β} {n : Nat} (h : ∀ s t, s < n → t < n → g s = g t → f s = f t) : (nmG f n).2 ≤ (nmG g n).2 ∧ ((nmG f n).2 = (nmG g n).2 → nmG f n = nmG g n) := by
 have hsub : ∀ k ∈ List.range n, fstB f k = true → fstB g k = true := fun k hk hf => by
  rw [List.mem_range] at hk
  rw [fstB_iff] at hf ⊢
  exact fun t ht e => hf t ht (h t k (by omega) hk e)
 rw [nm_count, nm_count]
 refine ⟨List.countP_mono_left hsub, fun e => nmG_ext n fun s t hs ht => ⟨fun hf => ?_, h s t hs ht⟩⟩
 have hback := countP_eq_imp hsub e
 obtain ⟨s1, a1, a2, a3⟩ := nm_first (f := g) s
 obtain ⟨t1, b1, b2, b3⟩ := nm_first (f := g) t
 have c1 := fstB_iff.1 (hback s1 (List.mem_range.2 (by omega)) a3)
 have c2 := fstB_iff.1 (hback t1 (List.mem_range.2 (by omega)) b3)
 have d1 : f s1 = f s := h s1 s (by omega) hs a2
 have d2 : f t1 = f t := h t1 t (by omega) ht b2
 have e3 : f s1 = f t1 := by rw [d1, d2, hf]
 have e4 : s1 = t1 := by
  rcases Nat.lt_trichotomy s1 t1 with q | q | q
  ·exact absurd e3 (c2 s1 q)
  ·exact q
  ·exact absurd e3.symm (c1 t1 q)
 rw [← a2, ← b2, e4]
end
def imR (S : List (List Ar)) (c : List Int) (s : Nat) : List Ar := rowOf ((S.getD s []).map fun a => (a.1, c.getD a.2.toNat 0))
theorem mem_imR {S : List (List Ar)} {c : List Int} {s : Nat} {x : Ar} : x ∈ imR S c s ↔ ∃ a ∈ S.getD s [], x = (a.1, c.getD a.2.toNat 0) := by
 unfold imR
 rw [mem_rowOf, List.mem_map]
 exact ⟨fun ⟨a, h1, h2⟩ => ⟨a, h1, h2.symm⟩, fun ⟨a, h1, h2⟩ => ⟨a, h1, h2.symm⟩⟩
def hasB (c : List Int) (row : List Ar) (e x : Int) : Bool := row.any fun a => a.1 == e && c.getD a.2.toNat 0 == x
def covB (c : List Int) (a b : List Ar) : Bool := a.all fun x => hasB c b x.1 (c.getD x.2.toNat 0)
theorem cov_iff {S : List (List Ar)} {c : List Int} {s t : Nat} : imR S c s = imR S c t ↔ covB c (S.getD s []) (S.getD t []) = true ∧ covB c (S.getD t []) (S.getD s []) = true := by
 have key : ∀ s t, covB c (S.getD s []) (S.getD t []) = true ↔ ∀ x ∈ imR S c s, x ∈ imR S c t := by
  intro s t
  simp only [covB, hasB, List.all_eq_true, List.any_eq_true, Bool.and_eq_true, beq_iff_eq]
  constructor
  ·intro h x hx
   obtain ⟨a, ha, rfl⟩ := mem_imR.1 hx
   obtain ⟨b, hb, h1, h2⟩ := h a ha
   exact mem_imR.2 ⟨b, hb, by rw [h1, h2]⟩
  ·intro h a ha
   obtain ⟨b, hb, e⟩ := mem_imR.1 (h _ (mem_imR.2 ⟨a, ha, rfl⟩))
   injection e with e1 e2
   exact ⟨b, hb, e1.symm, e2.symm⟩
 rw [key, key]
 constructor
 ·intro h; rw [h]; exact ⟨fun _ h => h, fun _ h => h⟩
 ·rintro ⟨h1, h2⟩
  exact sorted_ext (rowOf_sorted _) (rowOf_sorted _) fun x => ⟨h1 x, h2 x⟩
def ftS (S : List (List Ar)) (c : List Int) (s : Nat) : Int × List Ar := (c.getD s 0, imR S c s)
def nxS (S : List (List Ar)) (c : List Int) : List Int := (nmG (ftS S c) S.length).1
def itS (S : List (List Ar)) (c : List Int) : Nat → List Int
 | 0 => c
 | k + 1 => nxS S (itS S c k)
def FxS (S : List (List Ar)) (c d : List Int) : Prop := ∃ k, d = itS S c k ∧ nxS S d = d
theorem FxS.stay {S : List (List Ar)} {c : List Int} {k j : Nat} (h : nxS S (itS S c k) = itS S c k) (hj : k ≤ j) : itS S c j = itS S c k := by
 induction j with
 | zero =>
  have : k = 0 := by omega
  subst this; rfl
 | succ j ih =>
  by_cases e : k = j + 1
  ·subst e; rfl
  ·rw [itS, ih (by omega), h]
theorem FxS.uniq {S : List (List Ar)} {c d e : List Int} (h1 : FxS S c d) (h2 : FxS S c e) : d = e := by
 obtain ⟨k, rfl, hk⟩ := h1
 obtain ⟨j, rfl, hj⟩ := h2
 rcases Nat.le_total k j with h | h
 ·exact (FxS.stay hk h).symm
 ·exact FxS.stay hj h
def Nrm (n : Nat) (c : List Int) : Prop := (nmG (fun s => c.getD s 0) n).1 = c
def cntC (n : Nat) (c : List Int) : Nat := (nmG (fun s => c.getD s 0) n).2
theorem nrm_nm {α : Type} [DecidableEq α] (f : Nat → α) (n : Nat) : Nrm n (nmG f n).1 := by unfold Nrm; rw [nmG_norm]
theorem cnt_nm {α : Type} [DecidableEq α] (f : Nat → α) (n : Nat) : cntC n (nmG f n).1 = (nmG f n).2 := by unfold cntC; rw [nmG_norm]
theorem Nrm.len {n : Nat} {c : List Int} (h : Nrm n c) : c.length = n := by rw [← h]; exact (nmG_ok _ n).len
theorem Nrm.rng {n : Nat} {c : List Int} (h : Nrm n c) : ∀ x ∈ c, 0 ≤ x ∧ x < (n : Int) := fun x hx => by
 obtain ⟨i, hi, rfl⟩ := List.getElem_of_mem hx
 have hl := h.len
 have h1 := (nmG_ok (fun s => c.getD s 0) n).rng i (by omega)
 have h2 := (nmG_ok (fun s => c.getD s 0) n).cnt
 unfold Nrm at h
 rw [h, List.getD_eq_getElem?_getD, List.getElem?_eq_getElem hi, Option.getD_some] at h1
 omega
theorem nx_nrm (S : List (List Ar)) (c : List Int) : Nrm S.length (nxS S c) := nrm_nm _ _
theorem nx_lt {S : List (List Ar)} {c : List Int} (h : Nrm S.length c) (hne : nxS S c ≠ c) : cntC S.length c < cntC S.length (nxS S c) := by
 have hr := nm_refine (f := fun s => c.getD s 0) (g := ftS S c) (n := S.length) fun s t _ _ e => by
  have := congrArg Prod.fst e
  exact this
 have e1 : cntC S.length (nxS S c) = (nmG (ftS S c) S.length).2 := cnt_nm _ _
 rw [e1]
 unfold cntC
 rcases Nat.lt_or_eq_of_le hr.1 with q | q
 ·exact q
 ·exfalso
  apply hne
  have := hr.2 q
  unfold nxS
  rw [← this]
  exact h
theorem cnt_le (n : Nat) (c : List Int) : cntC n c ≤ n := (nmG_ok _ n).cnt
end Go.Proofs.YtahnebicgbjonaaGreat
