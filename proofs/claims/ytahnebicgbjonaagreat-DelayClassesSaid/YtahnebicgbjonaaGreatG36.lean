/- Systems spoiled. Systems drawn as rows of the caller's: LTS; Chain. Tape.Variant. -/
import Derived.Test.YtahnebicgbjonaaGreatG53
import Derived.Test.YtahnebicgbjonaaGreatZk
import Derived.Test.YtahnebicgbjonaaGreatMob
namespace Go.Proofs.YtahnebicgbjonaaGreat
set_option linter.unusedVariables false
set_option linter.unusedSimpArgs false
open Go.RowKit
set_option maxRecDepth 100000
attribute [local go_sem] List.set_cons_zero List.set_cons_succ List.map_cons List.map_nil List.take_succ_cons List.take_zero List.drop_zero List.drop_succ_cons C.pl C.one List.all_cons List.all_nil Bool.and_true

theorem ltsO_fc (T : List Int) (hT : TpOk T) (a0 n : Nat) (ha : a0 ≤ 1000000) (hn1 : 1 ≤ n) (hn : n ≤ 20) :
  FC Tryz.prog 7 [.a (.c (.p 0 0)), .i n] [tape T a0] (fun r o => ∃ (a' : Nat) (R : List (List Ar)), o = [tape T a', .r ⟨45, 1, true, cRows R⟩, .r ⟨25, 1, false, [.s 1 R.length]⟩] ∧ r = .a (.g [.s 1 R.length]) ∧ a' ≤ a0 + 1 + 7 * n ∧ 1 ≤ R.length ∧ R.length ≤ n ∧ OkSys 3 R.length R) := by
 refine fc_intro Tryz.func7 rfl (by rw [Tryz.ntmps7]; simp) ?_
 rw [Tryz.ntmps7]
 simp only [enum, tape, oLts]
 (refine wk0 ?_;(repeat clear hK K);repeat refine kq fun K hK=>?_)
 (refine lst_cons rfl ?_; intro K1 hK1; refine stp_callσ (ids := []) [0] (next_fc T a0 n hT (by omega) (by omega)) rfl rfl (by simp only [go_sem]) (by first | assumption | kernel_rfl) rfl rfl (by (simp only [List.map_append, List.append_nil, go_sem]) <;> rfl) (by (simp only [pkh, tape, go_sem]) <;> rfl) ?_ ?_)
 ·rintro _ _ ⟨rfl, v, rfl, _⟩; rfl
 rintro _ _ ⟨rfl, m, rfl, hm⟩
 (simp only [aInts, aSets, tape, List.append_nil, List.nil_append, List.length_map, go_sem]; refine hK1 _ ?_; clear hK1 K1)
 have em : (1 + (m : Int)).toNat = m + 1 := by omega
 (refine wk1 (an @em (an @List.set_cons_zero.{0} @List.set_cons_succ.{0})) ?_;(repeat clear hK K);repeat refine kq fun K hK=>?_)
 refine aw_le (le_ot 2 rfl) ?_
 simp only [rows_nil, List.set_cons_zero, List.set_cons_succ]
 refine aw_loop (fun p : Nat × List (List Ar) × Nat => { tm := [(0, .a (.c (.p 0 0))), (4, .a (.c (.p 1 0))), (5, .a (.c (.p 3 0))), (6, .i p.1)], hp := [.r ⟨43, 2, false, [.t 1 (tInts T), .v (.int .i64 p.2.2)]⟩, .r ⟨25, 1, false, [.v (.slice none 0 0)]⟩, .r ⟨45, 1, true, cRows p.2.1⟩, .r ⟨25, 1, false, [.s 2 (m + 1)]⟩], n := 46, pin := 1 })
  (fun p => p.1 ≤ m + 1 ∧ p.2.2 ≤ a0 + 1 + 7 * p.1 ∧ OkSys 3 (m + 1) p.2.1 ∧ ∀ q r, p.1 ≤ q → p.2.1[q]? = some r → r = []) (fun p => m + 1 - p.1) (0, List.replicate (m + 1) [], a0 + 1) ?_ ?_ ?_
 ·refine ⟨by simp, by simp, okSys_nil _, fun q r _ hr => ?_⟩
  exact List.eq_of_mem_replicate (List.mem_of_getElem? hr)
 ·exact lmz
 ·rintro ⟨i, R, a⟩ ⟨hi, hA, hR, hE⟩ K hK
  simp only at hi hA hR hE ⊢
  (refine wk0 ?_;(repeat clear hK K);repeat refine kq fun K hK=>?_)
  (refine aw_cnd ?_; intro X Y hX hY; simp only [go_sem])
  refine ⟨fun h => hX ?_, fun h => hY ?_⟩
  ·have hi1 : i < m + 1 := by simp at h; omega
   clear hX hY X Y
   (refine wk0 ?_;(repeat clear hK K);repeat refine kq fun K hK=>?_)
   (refine lst_cons rfl ?_; intro K1 hK1; refine stp_callσ (ids := []) [0] (next_fc T a 4 hT (by omega) (by omega)) rfl rfl (by simp only [go_sem]) (by first | assumption | kernel_rfl) rfl rfl (by (simp only [List.map_append, List.append_nil, go_sem]) <;> rfl) (by (simp only [pkh, tape, go_sem]) <;> rfl) ?_ ?_)
   ·rintro _ _ ⟨rfl, v, rfl, _⟩; rfl
   rintro _ _ ⟨rfl, w0, rfl, hw0⟩
   (simp only [aInts, aSets, tape, cRows_up, List.append_nil, List.nil_append, List.length_map, go_sem]; refine hK1 _ ?_; clear hK1 K1)
   (refine wk0 ?_;(repeat clear hK K);repeat refine kq fun K hK=>?_)
   refine aw_loop (fun p : Nat × List (List Ar) × Nat => { tm := [(0, .a (.c (.p 0 0))), (4, .a (.c (.p 1 0))), (5, .a (.c (.p 3 0))), (6, .i i), (7, .i p.1)], hp := [.r ⟨43, 2, false, [.t 1 (tInts T), .v (.int .i64 p.2.2)]⟩, .r ⟨25, 1, false, [.v (.slice none 0 0)]⟩, .r ⟨45, 1, true, cRows p.2.1⟩, .r ⟨25, 1, false, [.s 2 (m + 1)]⟩], n := 46, pin := 1 })
    (fun p => p.1 ≤ 3 ∧ p.2.2 + 2 * p.1 ≤ a + 7 ∧ OkSys 3 (m + 1) p.2.1 ∧ (∀ r, p.2.1[i]? = some r → r.length + p.1 ≤ 3) ∧ ∀ q r, i + 1 ≤ q → p.2.1[q]? = some r → r = []) (fun p => p.1) (w0, R, a + 1) ?_ ?_ ?_
   ·refine ⟨by simp only; omega, by simp only; omega, hR, fun r hr => ?_, fun q r hq hr => hE q r (by omega) hr⟩
    rw [hE i r (Nat.le_refl _) hr]; simp; omega
   ·exact lmz
   ·rintro ⟨w, R2, a2⟩ ⟨hw, hA2, hR2, hi2, hE2⟩ K hK
    simp only at hw hA2 hR2 hi2 hE2 ⊢
    have hl2 : i < R2.length := by rw [hR2.1]; exact hi1
    have hg2 := List.getElem?_eq_getElem hl2
    have hrow := hR2.2 _ (List.getElem_mem hl2)
    (refine wk0 ?_;(repeat clear hK K);repeat refine kq fun K hK=>?_)
    (refine aw_cnd ?_; intro X Y hX hY; simp only [go_sem])
    refine ⟨fun h => hX ?_, fun h => hY ?_⟩
    ·have hw1 : 0 < w := by simpa using h
     clear hX hY X Y
     (refine wk0 ?_;(repeat clear hK K);repeat refine kq fun K hK=>?_)
     refine aw_regionV [0] [(0,0,0),(2,0,0),(3,0,0),(5,0,0),(8,0,0),(10,0,0),(11,0,0),(1,1,18),(4,1,16),(6,0,0),(7,1,16),(12,1,14),(13,0,0),(9,2,0),(14,2,0),(15,0,0),(16,2,0),(17,0,0),(18,2,0)] (by kernel_rfl) (by kernel_rfl) (by intro c st h; simp [ThenA, InBl, Ret] at h) ?_
     (repeat (first | (refine v_0 rfl rfl rfl ?_; intro K1 hK1; simp only [undef, evR, go_sem, cRows_len, cRows_get hg2]; first | (refine hK1 _ ?_; clear hK1 K1) | (refine andk (hK1 _ ?_); clear hK1 K1)) | (refine v_1 rfl rfl rfl rfl rfl rfl rfl rfl rfl ?_; intro K1 hK1; simp only [undef, evR, go_sem, cRows_len, cRows_get hg2]; first | (refine hK1 _ ?_; clear hK1 K1) | (refine andk (hK1 _ ?_); clear hK1 K1))))
     (refine v_2 rfl rfl ?_; intro K1 hK1; refine stpX_call (ids := []) [0] (event_fc T hT a2 (by omega)) rfl rfl (by simp only [evR, go_sem]) (by kernel_rfl) rfl rfl rfl (by (simp only [evR, clos, List.map_append, List.append_nil, AV.ren, A0.ren, C.ren, idx, renIds, ofTr_ren, go_sem]) <;> rfl) (by (simp only [pkh, Ob.ren, C.ren, idx, renIds, ofTr_ren, List.getD_cons_zero, List.getD_cons_succ, tape, go_sem]) <;> rfl) ?_ ?_)
     ·rintro _ _ ⟨rfl, v, rfl, _⟩; exact born_one rfl
     rintro _ _ ⟨rfl, e, rfl, he⟩
     (simp only [aInts, aSets, tape, cRows_up, List.append_nil, List.nil_append, List.length_map, go_sem]; refine hK1 _ ?_; clear hK1 K1)
     (repeat (first | (refine v_0 rfl rfl rfl ?_; intro K1 hK1; simp only [undef, evR, go_sem]; first | (refine hK1 _ ?_; clear hK1 K1) | (refine andk (hK1 _ ?_); clear hK1 K1)) | (refine v_1 rfl rfl rfl rfl rfl rfl rfl rfl rfl ?_; intro K1 hK1; simp only [undef, evR, go_sem]; first | (refine hK1 _ ?_; clear hK1 K1) | (refine andk (hK1 _ ?_); clear hK1 K1))))
     (refine v_2 rfl rfl ?_; intro K1 hK1; refine stpX_call (ids := []) [0] (next_fc T (a2 + 1) (m + 1) hT (by omega) (by omega)) rfl rfl (by simp only [evR, go_sem]) (by kernel_rfl) rfl rfl rfl (by (simp only [evR, clos, List.map_append, List.append_nil, AV.ren, A0.ren, C.ren, idx, renIds, ofTr_ren, go_sem]) <;> rfl) (by (simp only [pkh, Ob.ren, C.ren, idx, renIds, ofTr_ren, List.getD_cons_zero, List.getD_cons_succ, tape, go_sem]) <;> rfl) ?_ ?_)
     ·rintro _ _ ⟨rfl, v, rfl, _⟩; exact born_one rfl
     rintro _ _ ⟨rfl, t, rfl, ht⟩
     (simp only [aInts, aSets, tape, cRows_up, List.append_nil, List.nil_append, List.length_map, go_sem]; refine hK1 _ ?_; clear hK1 K1)
     (repeat (first | (refine v_0 rfl rfl rfl ?_; intro K1 hK1; simp only [undef, evR, go_sem]; first | (refine hK1 _ ?_; clear hK1 K1) | (refine andk (hK1 _ ?_); clear hK1 K1)) | (refine v_1 rfl rfl rfl rfl rfl rfl rfl rfl rfl ?_; intro K1 hK1; simp only [undef, evR, go_sem]; first | (refine hK1 _ ?_; clear hK1 K1) | (refine andk (hK1 _ ?_); clear hK1 K1))))
     (refine v_2 rfl rfl ?_; intro K1 hK1; refine stpX_mono ?_; refine stpX_call (ids := []) [] (insT_fc R2[i] (e, (t : Int)) (by have := hrow.2.1; omega)) rfl rfl (by simp only [evR, go_sem]) (by kernel_rfl) rfl rfl rfl (by (simp only [evR, clos, List.map_append, List.append_nil, AV.ren, A0.ren, C.ren, idx, renIds, ofTr_ren, go_sem]) <;> rfl) (by (simp only [pkh, Ob.ren, C.ren, idx, renIds, ofTr_ren, List.getD_cons_zero, List.getD_cons_succ, aArcs, go_sem]) <;> rfl) ?_ ?_)
     ·rintro _ _ ⟨rfl, rfl⟩ i o hi hl; simp at hl
     rintro _ _ ⟨rfl, rfl⟩
     (simp only [aInts, aSets, aArcs, cRows_up, List.append_nil, List.nil_append, List.length_map, go_sem]; refine hK1 _ ?_; clear hK1 K1)
     (repeat (first | (refine v_0 rfl rfl rfl ?_; intro K1 hK1; simp only [undef, evR, go_sem]; first | (refine hK1 _ ?_; clear hK1 K1) | (refine andk (hK1 _ ?_); clear hK1 K1)) | (refine v_1 rfl rfl rfl rfl rfl rfl rfl rfl rfl ?_; intro K1 hK1; simp only [undef, evR, go_sem]; first | (refine hK1 _ ?_; clear hK1 K1) | (refine andk (hK1 _ ?_); clear hK1 K1))))
     refine v_3 rfl rfl rfl ?_; intro K1 hK1
     refine stp_ev rfl ?_; simp only [undef, evR, ST.put, setC, A0.cells, cRows_len, List.set_cons_zero, List.set_cons_succ, cRows_set, go_sem]
     (first | (refine hK1 _ ?_; clear hK1 K1) | (refine andk (hK1 _ ?_); clear hK1 K1))
     refine v_nil ⟨by simp, by simp, ?_⟩
     refine hK _ ?_; clear hK K
     (refine wk0 ?_;(repeat clear hK K);repeat refine kq fun K hK=>?_)
     refine rnz ?_
     have hx : 0 ≤ e ∧ e ≤ 1025 ∧ 0 ≤ (t : Int) ∧ (t : Int) < ((m + 1 : Nat) : Int) := ⟨he.1, he.2, by omega, by omega⟩
     have e1 : ((w : Int) - 1) = ((w - 1 : Nat) : Int) := by omega
     have hw3 := hi2 _ hg2
     refine hK _ (w - 1, R2.set i (insA (e, (t : Int)) R2[i]), a2 + 2) ⟨by simp only; omega, by simp only; omega, hR2.set ?_ i, fun r hr => ?_, fun q r hq hr => ?_⟩ (by simp only; omega) ?_
     ·exact (OkRow.ins ⟨hrow.1, Nat.le_refl _, hrow.2.2⟩ hx).le (by omega)
     ·simp only at hr ⊢
      rw [List.getElem?_set_self hl2] at hr
      cases hr
      have := insA_len (e, (t : Int)) R2[i]
      omega
     ·simp only at hr
      rw [List.getElem?_set_ne (by omega)] at hr
      exact hE2 q r hq hr
     ·(refine le_tm ?_; simp only [LeTm, go_sem, e1]; try simp)
    ·have hw0 : w = 0 := by simp at h; omega
     clear hX hY X Y
     (refine ekz ?_;repeat clear hK K)
     (refine wk0 ?_;(repeat clear hK K);repeat refine kq fun K hK=>?_)
     refine rnz ?_
     refine hK _ (i + 1, R2, a2) ⟨by simp only; omega, by simp only; omega, hR2, fun q r hq hr => hE2 q r hq hr⟩ (by simp only; omega) ?_
     exact lmz
  ·have hi1 : i = m + 1 := by simp at h; omega
   clear hX hY X Y
   (refine ekz ?_;repeat clear hK K)
   (refine wk1 (an @List.set_cons_zero.{0} @List.set_cons_succ.{0}) ?_;(repeat clear hK K);repeat refine kq fun K hK=>?_)
   (repeat (first | (refine aw_seq ?_; intro K hK) | refine aw_block ?_ | refine aw_region ?_ | (refine lst_x rfl rfl ?_; intro K1 hK1; simp only [go_sem, List.set_cons_zero, List.set_cons_succ, C.pl, C.one, List.all_cons, List.all_nil, Bool.and_true, List.take_succ_cons, List.take_zero, List.drop_zero]; (first | refine hK1 _ ?_ | refine andk (hK1 _ ?_)); clear hK1 K1) | ((first | refine lst_nil ?_ | refine aw_skip ?_); refine hK _ ?_; clear hK K)))
   refine rp1 [0, 2, 1] Tryz.results7 @cRows_ren ?_
   exact ⟨a, R, by simp only [tape, hR.1], by rw [hR.1], by omega, by rw [hR.1]; omega, by rw [hR.1]; omega, by rw [hR.1]; exact hR⟩

set_option maxHeartbeats 1000000 in
theorem chainO_fc (T : List Int) (hT : TpOk T) (a0 n : Nat) (ha : a0 ≤ 500000) (hn1 : 1 ≤ n) (hn : n ≤ 20) :
  FC Tryz.prog 16 [.a (.c (.p 0 0)), .i n] [tape T a0] (fun r o => ∃ (a' : Nat) (R : List (List Ar)), o = [tape T a', .r ⟨45, 1, true, cRows R⟩, .r ⟨25, 1, false, [.s 1 R.length]⟩] ∧ r = .a (.g [.s 1 R.length]) ∧ a' ≤ a0 + 1 + 8 * n ∧ 1 ≤ R.length ∧ R.length ≤ n ∧ OkSys 4 R.length R) := by
 refine fc_intro Tryz.func16 rfl (by rw [Tryz.ntmps16]; simp) ?_
 rw [Tryz.ntmps16]
 simp only [enum, tape, oLts, aLts]
 (refine wk0 ?_;(repeat clear hK K);repeat refine kq fun K hK=>?_)
 (refine lst_cons rfl ?_; intro K1 hK1; refine stp_callσ (ids := []) [0] (ltsO_fc T hT a0 n (by omega) hn1 hn) rfl rfl (by simp only [go_sem]) (by first | assumption | kernel_rfl) rfl rfl (by (simp only [List.map_append, List.append_nil, go_sem]) <;> rfl) (by (simp only [pkh, tape, go_sem]) <;> rfl) ?_ ?_)
 ·rintro _ _ ⟨_, _, rfl, rfl, _⟩; rfl
 rintro _ _ ⟨a1, R0, rfl, rfl, ha1, hl1, hl2, hok⟩
 (simp only [aInts, aSets, tape, cRows_up, List.append_nil, List.nil_append, List.length_map, go_sem]; refine hK1 _ ?_; clear hK1 K1)
 (refine wk0 ?_;(repeat clear hK K);repeat refine kq fun K hK=>?_)
 refine aw_le (le_pick [0, 1, 2, 4] rfl rfl) ?_
 (try simp only [List.set_nil, List.take_nil, List.take_zero, List.map_append, go_sem])
 (try simp only [cRows_ren])
 obtain ⟨m, hm⟩ : ∃ m, m = R0.length := ⟨_, rfl⟩
 rw [← hm] at hl1 hl2 hok
 (try rw [← hm])
 refine aw_loop (fun p : Nat × List (List Ar) × Nat => { tm := [(0, .a (.c (.p 0 0))), (4, .a (.c (.p 1 0))), (5, .a (.c (.p 3 0))), (6, .i p.1)], hp := [.r ⟨43, 2, false, [.t 1 (tInts T), .v (.int .i64 p.2.2)]⟩, .r ⟨25, 1, false, [.v (.slice none 0 0)]⟩, .r ⟨45, 1, true, cRows p.2.1⟩, .r ⟨25, 1, false, [.s 2 m]⟩], n := 34, pin := 1 })
  (fun p => p.1 + 1 ≤ m ∧ p.2.2 ≤ a1 + p.1 ∧ OkSys 4 m p.2.1 ∧ ∀ q r, p.1 ≤ q → p.2.1[q]? = some r → r.length ≤ 3) (fun p => m - p.1) (0, R0, a1) ?_ ?_ ?_
 ·exact ⟨by simp only; omega, by simp, hok.le (by omega), fun q r _ hr => (hok.2 r (List.mem_of_getElem? hr)).2.1⟩
 ·exact lmz
 ·rintro ⟨s, R, a⟩ ⟨hs, hA, hR, hE⟩ K hK
  simp only at hs hA hR hE ⊢
  have hRl := hR.1
  by_cases hlt : s + 1 < m
  ·have hl0 : decide ((s : Int) + 1 < (m : Int)) = true := by simp; omega
   have hl2' : s < R.length := by omega
   have hg2 := List.getElem?_eq_getElem hl2'
   have hrow := hR.2 _ (List.getElem_mem hl2')
   have hne : (cRows R).isEmpty = false := by
    have := cRows_len R
    cases hc : cRows R with
    | nil => rw [hc] at this; simp at this; omega
    | cons _ _ => rfl
   (refine wk1 @hl0 ?_;(repeat clear hK K);repeat refine kq fun K hK=>?_)
   refine cxz ?_
   (refine wk0 ?_;(repeat clear hK K);repeat refine kq fun K hK=>?_)
   (refine aw_regionZ [2, 3] (.m 0 0 0 (.m 2 0 0 (.m 3 0 0 (.m 5 0 0 (.m 8 0 0 (.m 10 0 0 (.m 11 0 0 (.m 1 1 15 (.m 4 1 13 (.m 6 0 0 (.m 7 1 13 (.a 9 (.m 12 0 0 (.a 13 (.m 14 0 0 (.a 15 .e)))))))))))))))) (by kernel_rfl) (by kernel_rfl) (by intro c st h; simp [ThenA, InBl, Ret] at h) ?_)
   (refine zk1 (an @cRows_len (cRows_get hg2)) ?_; repeat clear hK K)
   (refine z_2y rfl rfl rfl ?_; intro K1 hK1; refine stpY_X (σ := [0]) (by first | rfl | simp only [rowsB, List.getD_cons_zero, List.getD_cons_succ, hne, List.isEmpty_cons, Bool.not_false, Bool.true_and, Bool.and_true, Bool.and_self]) rfl rfl rfl rfl ?_; refine stpX_call (ids := []) [0] (event_fc T hT a (by omega)) rfl rfl (by simp only [go_sem]) (by kernel_rfl) rfl rfl rfl (by (simp only [go_sem]) <;> rfl) (by (simp only [pkh, tape, go_sem]) <;> rfl) ?_ ?_)
   ·rintro _ _ ⟨rfl, v, rfl, _⟩; exact born_one rfl
   rintro _ _ ⟨rfl, e, rfl, he⟩
   (simp only [aInts, aSets, tape, cRows_up, List.append_nil, List.nil_append, List.length_map, go_sem]; refine hK1 _ ?_; clear hK1 K1)
   (refine zk0 ?_; repeat clear hK K)
   (refine z_2y rfl rfl rfl ?_; intro K1 hK1; refine stpY_X (σ := []) (by first | rfl | simp only [rowsB, List.getD_cons_zero, List.getD_cons_succ, hne, List.isEmpty_cons, Bool.not_false, Bool.true_and, Bool.and_true, Bool.and_self]) rfl rfl rfl rfl ?_; refine stpX_call (ids := []) [] (insT_fc R[s] (e, (s : Int) + 1) (by have := hrow.2.1; omega)) rfl rfl (by simp only [go_sem]) (by kernel_rfl) rfl rfl rfl (by (simp only [go_sem]) <;> rfl) (by (simp only [pkh, aArcs, go_sem]) <;> rfl) ?_ ?_)
   ·rintro _ _ ⟨rfl, rfl⟩ i o hi hl; simp at hl
   rintro _ _ ⟨rfl, rfl⟩
   (simp only [aInts, aSets, aArcs, cRows_up, List.append_nil, List.nil_append, List.length_map, go_sem]; refine hK1 _ ?_; clear hK1 K1)
   (refine zk0 ?_; repeat clear hK K)
   (refine z_3 rfl rfl rfl rfl ?_; intro K1 hK1; refine stp_ev rfl ?_; simp only [go_sem, ST.put, setC, A0.cells, cRows_len, cRows_set]; (first | refine hK1 _ ?_ | refine andk (hK1 _ ?_)); clear hK1 K1)
   (refine zk0 ?_; repeat clear hK K)
   (refine wk0 ?_;(repeat clear hK K);repeat refine kq fun K hK=>?_)
   refine rnz ?_
   have hx : 0 ≤ e ∧ e ≤ 1025 ∧ 0 ≤ (s : Int) + 1 ∧ (s : Int) + 1 < (m : Int) := ⟨he.1, he.2, by omega, by omega⟩
   have h3 := hE s _ (Nat.le_refl _) hg2
   refine hK _ (s + 1, R.set s (insA (e, (s : Int) + 1) R[s]), a + 1) ⟨by simp only; omega, by simp only; omega, hR.set ?_ s, fun q r hq hr => ?_⟩ (by simp only; omega) ?_
   ·exact (OkRow.ins (m := m) ⟨hrow.1, h3, hrow.2.2⟩ hx)
   ·simp only at hr hq
    rw [List.getElem?_set_ne (by omega)] at hr
    exact hE q r (by omega) hr
   ·exact lmz
  ·have hl0 : decide ((s : Int) + 1 < (m : Int)) = false := by simp; omega
   (refine wk1 @hl0 ?_;(repeat clear hK K);repeat refine kq fun K hK=>?_)
   refine cyz ?_
   (refine ekz ?_;repeat clear hK K)
   (refine wk0 ?_;(repeat clear hK K);repeat refine kq fun K hK=>?_)
   refine rp1 [0, 2, 1] Tryz.results16 @cRows_ren ?_
   exact ⟨a, R, by simp only [tape, hRl], by rw [hRl], by omega, by omega, by omega, by rw [hRl]; exact hR⟩
attribute [local go_sem] List.set_cons_zero List.set_cons_succ List.map_cons List.map_nil List.take_succ_cons List.take_zero List.drop_zero List.drop_succ_cons C.pl C.one List.all_cons List.all_nil Bool.and_true Nat.mul_one Int.toNat_natCast
def VarOk (R R' : List (List Ar)) : Prop := R'.length = R.length ∧ ∀ q ∈ R', q.length ≤ 11 ∧ ∀ x ∈ q, 0 ≤ x.1 ∧ x.1 ≤ 1025 ∧ 0 ≤ x.2 ∧ x.2 < (R.length : Int)
set_option maxHeartbeats 4000000 in
theorem variant_fc (T : List Int) (hT : TpOk T) (a : Nat) (R : List (List Ar)) (ha : a ≤ 1000000) (h1 : 1 ≤ R.length) (hn : R.length ≤ 20) (hr : ∀ r ∈ R, r.length ≤ 10 ∧ ∀ x ∈ r, 0 ≤ x.1 ∧ x.1 ≤ 1025 ∧ 0 ≤ x.2 ∧ x.2 < (R.length : Int)) :
  FC Tryz.prog 10 [.a (.c (.p 0 0)), aLts R] [tape T a] (fun r o => ∃ (a' : Nat) (R' : List (List Ar)), (o = [tape T a', oLts R'] ∧ r = aLts R') ∧ a' ≤ a + 6 ∧ VarOk R R') := by
 refine fc_intro Tryz.func10 rfl (by rw [Tryz.ntmps10]; simp) ?_
 rw [Tryz.ntmps10]
 simp only [enum, tape, aLts, oLts]
 (refine wk0 ?_;(repeat clear hK K);repeat refine kq fun K hK=>?_)
 (refine ckz (copyO_fc R (by omega) (fun q hq => by have := (hr q hq).1; omega)) ?_; intro K1 hK1)
 rintro _ _ ⟨rfl, rfl⟩
 (simp only [aInts, aSets, cRowsO_up, List.append_nil, List.nil_append, List.length_map, go_sem]; refine hK1 _ ?_; clear hK1 K1)
 (refine wk0 ?_;(repeat clear hK K);repeat refine kq fun K hK=>?_)
 refine lst_le (le_ot 3 rfl) ?_
 simp only [cRowsO_ot, go_sem]
 (refine lst_cons rfl ?_; intro K1 hK1; refine stp_callσ (ids := []) [0] (next_fc T a R.length hT (by omega) (by omega)) rfl rfl (by simp only [go_sem]) (by first | assumption | kernel_rfl) rfl rfl (by (simp only [List.map_append, List.append_nil, go_sem]) <;> rfl) (by (simp only [pkh, tape, go_sem]) <;> rfl) ?_ ?_)
 ·rintro _ _ ⟨rfl, v, rfl, _⟩; rfl
 rintro _ _ ⟨rfl, s, rfl, hs⟩
 (simp only [aInts, aSets, tape, cRows_up, List.append_nil, List.nil_append, List.length_map, go_sem]; refine hK1 _ ?_; clear hK1 K1)
 replace hs : s < R.length := by omega
 have hgs := List.getElem?_eq_getElem hs
 have hrs := hr _ (List.getElem_mem hs)
 have hR1 : VarOk R R := ⟨rfl, fun q hq => ⟨Nat.le_trans (hr q hq).1 (by omega), (hr q hq).2⟩⟩
 generalize R[s] = row at *
 by_cases hpos : row.length = 0
 ·have d0 : decide ((row.length : Int) > 0) = false := decide_eq_false (by omega)
  (refine wk1 (an @cRows_len (an (cRows_get hgs) (an @tArcs_len (an @half2 @d0)))) ?_;(repeat clear hK K);repeat refine kq fun K hK=>?_)
  refine cyz ?_
  (refine wk0 ?_;(repeat clear hK K);repeat refine kq fun K hK=>?_)
  (refine lst_cons rfl ?_; intro K1 hK1; refine stp_callσ (ids := []) [0] (next_fc T (a + 1) 3 hT (by omega) (by omega)) rfl rfl (by simp only [go_sem]) (by first | assumption | kernel_rfl) rfl rfl (by (simp only [List.map_append, List.append_nil, go_sem]) <;> rfl) (by (simp only [pkh, tape, go_sem]) <;> rfl) ?_ ?_)
  ·rintro _ _ ⟨rfl, v, rfl, _⟩; rfl
  rintro _ _ ⟨rfl, v, rfl, hv⟩
  (simp only [aInts, aSets, tape, cRows_up, List.append_nil, List.nil_append, List.length_map, go_sem]; refine hK1 _ ?_; clear hK1 K1)
  by_cases hv0 : v = 0
  ·have d1 : decide ((v : Int) > 0) = false := decide_eq_false (by omega)
   (refine wk1 @d1 ?_;(repeat clear hK K);repeat refine kq fun K hK=>?_)
   refine cyz ?_
   refine aw_le (le_sink (r := ⟨45, 1, true, cRows (R)⟩) (ri := ⟨25, 1, false, [.s 3 R.length]⟩) (ts := tRows (R)) 5 0 3 R.length (by decide) rfl rfl rfl rfl (show 0 < 1 by omega) (by rw [cRows_len, Nat.mul_one, (hR1).1]) (fz_cr _)) ?_
   simp only [go_sem]
   refine aw_le (le_ot 5 rfl) ?_
   simp only [otC, go_sem]
   (refine wk0 ?_;(repeat clear hK K);repeat refine kq fun K hK=>?_)
   refine rp0 [0, 2] Tryz.results10 ?_
   exact ⟨a + 1 + 1, R, ⟨rfl, rfl⟩, by omega, hR1⟩
  ·have d1 : decide ((v : Int) > 0) = true := decide_eq_true (by omega)
   (refine wk1 @d1 ?_;(repeat clear hK K);repeat refine kq fun K hK=>?_)
   refine cxz ?_
   have hne : (cRows (R)).isEmpty = false := by
    have h9 := (hR1).1
    cases h8 : (cRows (R)) with
    | nil =>
     have h7 := congrArg List.length h8
     rw [cRows_len, h9, List.length_nil] at h7
     omega
    | cons x xs => rfl
   (refine aw_regionZ [5, 3] (.m 0 0 0 (.m 2 0 0 (.m 3 0 0 (.m 5 0 0 (.m 8 0 0 (.m 10 0 0 (.m 11 0 0 (.m 1 1 18 (.m 4 1 16 (.m 6 0 0 (.m 7 1 16 (.m 12 1 14 (.m 13 0 0 (.a 9 (.a 14 (.m 15 0 0 (.a 16 (.m 17 0 0 (.a 18 .e))))))))))))))))))) (by kernel_rfl) (by kernel_rfl) (by intro c st h; simp [ThenA, InBl, Ret] at h) ?_)
   (refine zk1 (an @cRows_len (an (cRows_get hgs) ((hR1).1))) ?_; repeat clear hK K)
   (refine z_2y rfl rfl rfl ?_; intro K1 hK1; refine stpY_X (σ := [0]) (by first | rfl | simp only [rowsB, List.getD_cons_zero, List.getD_cons_succ, hne, List.isEmpty_cons, Bool.not_false, Bool.true_and, Bool.and_true, Bool.and_self]) rfl rfl rfl rfl ?_; refine stpX_call (ids := []) [0] (event_fc T hT (a + 1 + 1) (by omega)) rfl rfl (by simp only [go_sem]) (by kernel_rfl) rfl rfl rfl (by (simp only [go_sem]) <;> rfl) (by (simp only [pkh, tape, go_sem]) <;> rfl) ?_ ?_)
   ·rintro _ _ ⟨rfl, v, rfl, _⟩; exact born_one rfl
   rintro _ _ ⟨rfl, e, rfl, he⟩
   (simp only [aInts, aSets, tape, cRows_up, List.append_nil, List.nil_append, List.length_map, go_sem]; refine hK1 _ ?_; clear hK1 K1)
   (refine zk0 ?_; repeat clear hK K)
   (refine z_2y rfl rfl rfl ?_; intro K1 hK1; refine stpY_X (σ := [0]) (by first | rfl | simp only [rowsB, List.getD_cons_zero, List.getD_cons_succ, hne, List.isEmpty_cons, Bool.not_false, Bool.true_and, Bool.and_true, Bool.and_self]) rfl rfl rfl rfl ?_; refine stpX_call (ids := []) [0] (next_fc T (a + 1 + 1 + 1) R.length hT (by omega) (by omega)) rfl rfl (by simp only [go_sem]) (by kernel_rfl) rfl rfl rfl (by (simp only [go_sem]) <;> rfl) (by (simp only [pkh, tape, go_sem]) <;> rfl) ?_ ?_)
   ·rintro _ _ ⟨rfl, v, rfl, _⟩; exact born_one rfl
   rintro _ _ ⟨rfl, t, rfl, ht⟩
   (simp only [aInts, aSets, tape, cRows_up, List.append_nil, List.nil_append, List.length_map, go_sem]; refine hK1 _ ?_; clear hK1 K1)
   (refine zk0 ?_; repeat clear hK K)
   (refine z_2 rfl rfl ?_; intro K1 hK1; refine StpC.f (stp_call0 (ids := []) (insT_fc row (e, (t : Int)) (by omega)) rfl rfl (by simp only [go_sem]) (by kernel_rfl) (by (simp only [List.append_nil, go_sem]) <;> rfl) ?_))
   rintro _ _ ⟨rfl, rfl⟩
   simp only [aArcs]
   (simp only [aInts, aSets, cRows_up, List.append_nil, List.nil_append, List.length_map, go_sem]; refine hK1 _ ?_; clear hK1 K1)
   dsimp only
   have hcs : ∀ q : List Ar, (cRows (R)).set s (.t 2 (tArcs q)) = cRows ((R).set s q) := fun q => by simp [cRows, List.map_set]
   have hR2 : VarOk R ((R).set s (insA (e, (t : Int)) row)) := ⟨by rw [List.length_set, (hR1).1], fun q hq => by
    rcases List.mem_or_eq_of_mem_set hq with hq | rfl
    ·exact (hR1).2 q hq
    ·refine ⟨by have := insA_len (e, (t : Int)) row; have := (hrs).1; omega, fun x hx => ?_⟩
     rcases (mem_insA _ _ _).1 hx with rfl | hx
     ·simp only; omega
     ·exact (hrs).2 x hx⟩
   (refine zk1 (an @cRows_len ((hR1).1)) ?_; repeat clear hK K)
   (refine z_3 rfl rfl rfl rfl ?_; intro K1 hK1; refine stp_ev rfl ?_; simp only [go_sem, cRows_len, hcs, List.length_set, (hR1).1]; (first | refine hK1 _ ?_ | refine andk (hK1 _ ?_)); clear hK1 K1)
   refine z_nil ⟨by simp, by simp, ?_⟩
   (try simp only [ThenA, InBl])
   refine hK _ ?_
   clear hK K
   refine aw_le (le_sink (r := ⟨45, 1, true, cRows ((R).set s (insA (e, (t : Int)) row))⟩) (ri := ⟨25, 1, false, [.s 3 R.length]⟩) (ts := tRows ((R).set s (insA (e, (t : Int)) row))) 5 0 3 R.length (by decide) rfl rfl rfl rfl (show 0 < 1 by omega) (by rw [cRows_len, Nat.mul_one, (hR2).1]) (fz_cr _)) ?_
   simp only [go_sem]
   refine aw_le (le_ot 5 rfl) ?_
   simp only [otC, go_sem]
   (refine wk0 ?_;(repeat clear hK K);repeat refine kq fun K hK=>?_)
   refine rp0 [0, 2] Tryz.results10 ?_
   exact ⟨a + 1 + 1 + 1 + 1, (R).set s (insA (e, (t : Int)) row), ⟨rfl, rfl⟩, by omega, hR2⟩
 ·have d0 : decide ((row.length : Int) > 0) = true := decide_eq_true (by omega)
  (refine wk1 (an @cRows_len (an (cRows_get hgs) (an @tArcs_len (an @half2 @d0)))) ?_;(repeat clear hK K);repeat refine kq fun K hK=>?_)
  (refine lst_goU rfl rfl (by simp only [go_sem] <;> rfl) ?_; intro K1 hK1; refine stp_callσ (ids := []) [0] (next_fc T (a + 1) 2 hT (by omega) (by omega)) rfl rfl (by simp only [go_sem]) (by first | assumption | kernel_rfl) rfl rfl (by (simp only [List.map_append, List.append_nil, go_sem]) <;> rfl) (by (simp only [pkh, tape, go_sem]) <;> rfl) ?_ ?_)
  ·rintro _ _ ⟨rfl, v, rfl, _⟩; rfl
  rintro _ _ ⟨rfl, v, rfl, hv⟩
  (simp only [aInts, aSets, tape, cRows_up, List.append_nil, List.nil_append, List.length_map, go_sem]; refine hK1 _ ?_; clear hK1 K1)
  by_cases hv0 : v = 0
  ·have d2 : ((v : Int) == 0) = true := by simp [hv0]
   (refine wk1 @d2 ?_;(repeat clear hK K);repeat refine kq fun K hK=>?_)
   refine cxz ?_
   (refine wk0 ?_;(repeat clear hK K);repeat refine kq fun K hK=>?_)
   (refine lst_cons rfl ?_; intro K1 hK1; refine stp_callσ (ids := []) [0] (next_fc T (a + 1 + 1) row.length hT (by omega) (by omega)) rfl rfl (by simp only [go_sem]) (by first | assumption | kernel_rfl) rfl rfl (by (simp only [List.map_append, List.append_nil, go_sem]) <;> rfl) (by (simp only [pkh, tape, go_sem]) <;> rfl) ?_ ?_)
   ·rintro _ _ ⟨rfl, v, rfl, _⟩; rfl
   rintro _ _ ⟨rfl, k, rfl, hk⟩
   (simp only [aInts, aSets, tape, cRows_up, List.append_nil, List.nil_append, List.length_map, go_sem]; refine hK1 _ ?_; clear hK1 K1)
   (refine wk0 ?_;(repeat clear hK K);repeat refine kq fun K hK=>?_)
   have hk2 : k < row.length := by omega
   have hne : (cRows R).isEmpty = false := by
    cases h8 : cRows R with
    | nil =>
     have h7 := congrArg List.length h8
     rw [cRows_len, List.length_nil] at h7
     omega
    | cons x xs => rfl
   have hk1 : ((k : Int) + 1).toNat = k + 1 := by omega
   have hT1 : (tArcs row).take (k * 2) = tArcs (row.take k) := by rw [tArcs_take]
   have hT2 : (tArcs row).drop ((k + 1) * 2) = tArcs (row.drop (k + 1)) := by
    have h := List.take_append_drop ((k + 1) * 2) (tArcs row)
    have h2 : tArcs row = tArcs (row.take (k + 1)) ++ tArcs (row.drop (k + 1)) := by unfold tArcs; rw [← List.flatMap_append, List.take_append_drop]
    rw [h2, List.drop_append_of_le_length (by rw [tArcs_len, List.length_take]; omega), List.drop_eq_nil_of_le (by rw [tArcs_len, List.length_take]; omega), List.nil_append]
   have hl1 : (row.take k).length = k := by rw [List.length_take]; omega
   have hl2 : (row.drop (k + 1)).length ≤ 10 := by rw [List.length_drop]; have := hrs.1; omega
   (refine aw_regionZ [5, 3] (.m 0 0 0 (.m 2 0 0 (.m 4 0 0 (.m 6 0 0 (.m 9 0 0 (.m 12 0 0 (.m 14 0 0 (.m 17 0 0 (.m 18 0 0 (.m 1 1 22 (.m 5 1 11 (.m 7 0 0 (.m 8 1 11 (.m 10 0 0 (.m 13 1 20 (.m 15 0 0 (.m 16 1 20 (.m 19 0 0 (.a 3 (.a 11 (.a 20 (.m 21 0 0 (.a 22 .e))))))))))))))))))))))) (by kernel_rfl) (by kernel_rfl) (by intro c st h; simp [ThenA, InBl, Ret] at h) ?_)
   (refine zk1 (an @cRows_len (an (cRows_get hgs) (an @tArcs_len (an @half2 (an @hk1 (an @hT1 @hT2)))))) ?_; repeat clear hK K)
   generalize hq1 : row.take k = q1 at *
   generalize hq2 : row.drop (k + 1) = q2 at *
   (refine z_2 rfl rfl ?_; intro K1 hK1; refine stpF_a rfl ?_; simp only [go_sem]; (first | refine hK1 _ ?_ | refine andk (hK1 _ ?_)); clear hK1 K1)
   (refine z_2y rfl rfl rfl ?_; intro K1 hK1; refine stpY_ap rfl rfl rfl rfl (by first | rfl | simp only [rowsB, List.getD_cons_zero, List.getD_cons_succ, hne, List.isEmpty_cons, Bool.not_false, Bool.true_and, Bool.and_true, Bool.and_self]) rfl ?_; simp only [go_sem, tArcs_c, tArcs_len, half2, cArcs_app, hl1]; (first | refine hK1 _ ?_ | refine andk (hK1 _ ?_)); clear hK1 K1)
   have hct : (cArcs q1).take (k * 2) = cArcs q1 := List.take_of_length_le (by rw [cArcs_len, hl1]; exact Nat.le_refl _)
   (refine z_2y rfl rfl rfl ?_; intro K1 hK1; refine stpY_ap rfl rfl rfl rfl (by first | rfl | simp only [rowsB, List.getD_cons_zero, List.getD_cons_succ, hne, List.isEmpty_cons, Bool.not_false, Bool.true_and, Bool.and_true, Bool.and_self]) rfl ?_; simp only [go_sem, tArcs_c, tArcs_len, half2, cArcs_len, hl1, hct, cArcs_app]; (first | refine hK1 _ ?_ | refine andk (hK1 _ ?_)); clear hK1 K1)
   (refine zk1 @cRows_len ?_; repeat clear hK K)
   (refine z_3 rfl rfl rfl rfl ?_; intro K1 hK1; refine stp_ev rfl ?_; simp only [go_sem, cRows_len, List.length_set]; (first | refine hK1 _ ?_ | refine andk (hK1 _ ?_)); clear hK1 K1)
   refine z_nil ⟨by simp, by simp, ?_⟩
   (try simp only [ThenA, InBl])
   refine hK _ ?_
   clear hK K
   have hj6 : ((cRows R).set s (C.s 8 (k + q2.length)))[s]? = some (.s 8 (k + q2.length)) := by rw [List.getElem?_set_self (by rw [cRows_len]; exact hs)]
   refine aw_le (le_sink (r := ⟨49, 2, true, cArcs (q1 ++ q2)⟩) (ri := ⟨45, 1, true, (cRows R).set s (C.s 8 (k + q2.length))⟩) (ts := tArcs (q1 ++ q2)) 3 s 8 (k + q2.length) (by decide) rfl hj6 rfl rfl (show 0 < 2 by omega) (by rw [cArcs_len, List.length_append, hl1]) (fz_ca _)) ?_
   simp only [go_sem]
   refine aw_le (le_ot 3 rfl) ?_
   have hos : (((cRows R).set s (C.s 8 (k + q2.length))).set s (.o (2, 49) (tArcs (q1 ++ q2)))).map otC = cRows (R.set s (q1 ++ q2)) := by
    rw [List.set_set]; simp [cRows, List.map_set, otC, Function.comp_def]
   simp only [hos, go_sem]
   have hsub : ∀ x ∈ q1 ++ q2, x ∈ row := fun x hx => by
    rcases List.mem_append.1 hx with hx | hx
    ·rw [← hq1] at hx; exact List.mem_of_mem_take hx
    ·rw [← hq2] at hx; exact List.mem_of_mem_drop hx
   have hl3 : (q1 ++ q2).length ≤ 10 ∧ ∀ x ∈ q1 ++ q2, 0 ≤ x.1 ∧ x.1 ≤ 1025 ∧ 0 ≤ x.2 ∧ x.2 < (R.length : Int) := ⟨by rw [List.length_append, hl1, ← hq2, List.length_drop]; have := hrs.1; omega, fun x hx => hrs.2 x (hsub x hx)⟩
   have hv3 : VarOk R (R.set s (q1 ++ q2)) := ⟨by rw [List.length_set], fun q hq => by
    rcases List.mem_or_eq_of_mem_set hq with hq | rfl
    ·exact hR1.2 q hq
    ·exact ⟨by have := hl3.1; omega, hl3.2⟩⟩
   have hg3 : (R.set s (q1 ++ q2))[s]? = some (q1 ++ q2) := List.getElem?_set_self hs
   generalize R.set s (q1 ++ q2) = R3 at *
   generalize q1 ++ q2 = q3 at *
   (refine wk0 ?_;(repeat clear hK K);repeat refine kq fun K hK=>?_)
   (refine lst_cons rfl ?_; intro K1 hK1; refine stp_callσ (ids := []) [0] (next_fc T (a + 1 + 1 + 1) 3 hT (by omega) (by omega)) rfl rfl (by simp only [go_sem]) (by first | assumption | kernel_rfl) rfl rfl (by (simp only [List.map_append, List.append_nil, go_sem]) <;> rfl) (by (simp only [pkh, tape, go_sem]) <;> rfl) ?_ ?_)
   ·rintro _ _ ⟨rfl, v, rfl, _⟩; rfl
   rintro _ _ ⟨rfl, v, rfl, hv⟩
   (simp only [aInts, aSets, tape, cRows_up, List.append_nil, List.nil_append, List.length_map, go_sem]; refine hK1 _ ?_; clear hK1 K1)
   by_cases hv0 : v = 0
   ·have d1 : decide ((v : Int) > 0) = false := decide_eq_false (by omega)
    (refine wk1 @d1 ?_;(repeat clear hK K);repeat refine kq fun K hK=>?_)
    refine cyz ?_
    refine aw_le (le_sink (r := ⟨45, 1, true, cRows (R3)⟩) (ri := ⟨25, 1, false, [.s 3 R.length]⟩) (ts := tRows (R3)) 5 0 3 R.length (by decide) rfl rfl rfl rfl (show 0 < 1 by omega) (by rw [cRows_len, Nat.mul_one, (hv3).1]) (fz_cr _)) ?_
    simp only [go_sem]
    refine aw_le (le_ot 5 rfl) ?_
    simp only [otC, go_sem]
    (refine wk0 ?_;(repeat clear hK K);repeat refine kq fun K hK=>?_)
    refine rp0 [0, 2] Tryz.results10 ?_
    exact ⟨a + 1 + 1 + 1 + 1, R3, ⟨rfl, rfl⟩, by omega, hv3⟩
   ·have d1 : decide ((v : Int) > 0) = true := decide_eq_true (by omega)
    (refine wk1 @d1 ?_;(repeat clear hK K);repeat refine kq fun K hK=>?_)
    refine cxz ?_
    have hne : (cRows (R3)).isEmpty = false := by
     have h9 := (hv3).1
     cases h8 : (cRows (R3)) with
     | nil =>
      have h7 := congrArg List.length h8
      rw [cRows_len, h9, List.length_nil] at h7
      omega
     | cons x xs => rfl
    (refine aw_regionZ [5, 3] (.m 0 0 0 (.m 2 0 0 (.m 3 0 0 (.m 5 0 0 (.m 8 0 0 (.m 10 0 0 (.m 11 0 0 (.m 1 1 18 (.m 4 1 16 (.m 6 0 0 (.m 7 1 16 (.m 12 1 14 (.m 13 0 0 (.a 9 (.a 14 (.m 15 0 0 (.a 16 (.m 17 0 0 (.a 18 .e))))))))))))))))))) (by kernel_rfl) (by kernel_rfl) (by intro c st h; simp [ThenA, InBl, Ret] at h) ?_)
    (refine zk1 (an @cRows_len (an (cRows_get hg3) ((hv3).1))) ?_; repeat clear hK K)
    (refine z_2y rfl rfl rfl ?_; intro K1 hK1; refine stpY_X (σ := [0]) (by first | rfl | simp only [rowsB, List.getD_cons_zero, List.getD_cons_succ, hne, List.isEmpty_cons, Bool.not_false, Bool.true_and, Bool.and_true, Bool.and_self]) rfl rfl rfl rfl ?_; refine stpX_call (ids := []) [0] (event_fc T hT (a + 1 + 1 + 1 + 1) (by omega)) rfl rfl (by simp only [go_sem]) (by kernel_rfl) rfl rfl rfl (by (simp only [go_sem]) <;> rfl) (by (simp only [pkh, tape, go_sem]) <;> rfl) ?_ ?_)
    ·rintro _ _ ⟨rfl, v, rfl, _⟩; exact born_one rfl
    rintro _ _ ⟨rfl, e, rfl, he⟩
    (simp only [aInts, aSets, tape, cRows_up, List.append_nil, List.nil_append, List.length_map, go_sem]; refine hK1 _ ?_; clear hK1 K1)
    (refine zk0 ?_; repeat clear hK K)
    (refine z_2y rfl rfl rfl ?_; intro K1 hK1; refine stpY_X (σ := [0]) (by first | rfl | simp only [rowsB, List.getD_cons_zero, List.getD_cons_succ, hne, List.isEmpty_cons, Bool.not_false, Bool.true_and, Bool.and_true, Bool.and_self]) rfl rfl rfl rfl ?_; refine stpX_call (ids := []) [0] (next_fc T (a + 1 + 1 + 1 + 1 + 1) R.length hT (by omega) (by omega)) rfl rfl (by simp only [go_sem]) (by kernel_rfl) rfl rfl rfl (by (simp only [go_sem]) <;> rfl) (by (simp only [pkh, tape, go_sem]) <;> rfl) ?_ ?_)
    ·rintro _ _ ⟨rfl, v, rfl, _⟩; exact born_one rfl
    rintro _ _ ⟨rfl, t, rfl, ht⟩
    (simp only [aInts, aSets, tape, cRows_up, List.append_nil, List.nil_append, List.length_map, go_sem]; refine hK1 _ ?_; clear hK1 K1)
    (refine zk0 ?_; repeat clear hK K)
    (refine z_2 rfl rfl ?_; intro K1 hK1; refine StpC.f (stp_call0 (ids := []) (insT_fc q3 (e, (t : Int)) (by omega)) rfl rfl (by simp only [go_sem]) (by kernel_rfl) (by (simp only [List.append_nil, go_sem]) <;> rfl) ?_))
    rintro _ _ ⟨rfl, rfl⟩
    simp only [aArcs]
    (simp only [aInts, aSets, cRows_up, List.append_nil, List.nil_append, List.length_map, go_sem]; refine hK1 _ ?_; clear hK1 K1)
    dsimp only
    have hcs : ∀ q : List Ar, (cRows (R3)).set s (.t 2 (tArcs q)) = cRows ((R3).set s q) := fun q => by simp [cRows, List.map_set]
    have hR2 : VarOk R ((R3).set s (insA (e, (t : Int)) q3)) := ⟨by rw [List.length_set, (hv3).1], fun q hq => by
     rcases List.mem_or_eq_of_mem_set hq with hq | rfl
     ·exact (hv3).2 q hq
     ·refine ⟨by have := insA_len (e, (t : Int)) q3; have := (hl3).1; omega, fun x hx => ?_⟩
      rcases (mem_insA _ _ _).1 hx with rfl | hx
      ·simp only; omega
      ·exact (hl3).2 x hx⟩
    (refine zk1 (an @cRows_len ((hv3).1)) ?_; repeat clear hK K)
    (refine z_3 rfl rfl rfl rfl ?_; intro K1 hK1; refine stp_ev rfl ?_; simp only [go_sem, cRows_len, hcs, List.length_set, (hv3).1]; (first | refine hK1 _ ?_ | refine andk (hK1 _ ?_)); clear hK1 K1)
    refine z_nil ⟨by simp, by simp, ?_⟩
    (try simp only [ThenA, InBl])
    refine hK _ ?_
    clear hK K
    refine aw_le (le_sink (r := ⟨45, 1, true, cRows ((R3).set s (insA (e, (t : Int)) q3))⟩) (ri := ⟨25, 1, false, [.s 3 R.length]⟩) (ts := tRows ((R3).set s (insA (e, (t : Int)) q3))) 5 0 3 R.length (by decide) rfl rfl rfl rfl (show 0 < 1 by omega) (by rw [cRows_len, Nat.mul_one, (hR2).1]) (fz_cr _)) ?_
    simp only [go_sem]
    refine aw_le (le_ot 5 rfl) ?_
    simp only [otC, go_sem]
    (refine wk0 ?_;(repeat clear hK K);repeat refine kq fun K hK=>?_)
    refine rp0 [0, 2] Tryz.results10 ?_
    exact ⟨a + 1 + 1 + 1 + 1 + 1 + 1, (R3).set s (insA (e, (t : Int)) q3), ⟨rfl, rfl⟩, by omega, hR2⟩
  ·have d2 : ((v : Int) == 0) = false := by simp [hv0]
   (refine wk1 @d2 ?_;(repeat clear hK K);repeat refine kq fun K hK=>?_)
   refine cyz ?_
   (refine wk0 ?_;(repeat clear hK K);repeat refine kq fun K hK=>?_)
   (refine lst_cons rfl ?_; intro K1 hK1; refine stp_callσ (ids := []) [0] (next_fc T (a + 1 + 1) 3 hT (by omega) (by omega)) rfl rfl (by simp only [go_sem]) (by first | assumption | kernel_rfl) rfl rfl (by (simp only [List.map_append, List.append_nil, go_sem]) <;> rfl) (by (simp only [pkh, tape, go_sem]) <;> rfl) ?_ ?_)
   ·rintro _ _ ⟨rfl, v, rfl, _⟩; rfl
   rintro _ _ ⟨rfl, v, rfl, hv⟩
   (simp only [aInts, aSets, tape, cRows_up, List.append_nil, List.nil_append, List.length_map, go_sem]; refine hK1 _ ?_; clear hK1 K1)
   by_cases hv0 : v = 0
   ·have d1 : decide ((v : Int) > 0) = false := decide_eq_false (by omega)
    (refine wk1 @d1 ?_;(repeat clear hK K);repeat refine kq fun K hK=>?_)
    refine cyz ?_
    refine aw_le (le_sink (r := ⟨45, 1, true, cRows (R)⟩) (ri := ⟨25, 1, false, [.s 3 R.length]⟩) (ts := tRows (R)) 5 0 3 R.length (by decide) rfl rfl rfl rfl (show 0 < 1 by omega) (by rw [cRows_len, Nat.mul_one, (hR1).1]) (fz_cr _)) ?_
    simp only [go_sem]
    refine aw_le (le_ot 5 rfl) ?_
    simp only [otC, go_sem]
    (refine wk0 ?_;(repeat clear hK K);repeat refine kq fun K hK=>?_)
    refine rp0 [0, 2] Tryz.results10 ?_
    exact ⟨a + 1 + 1 + 1, R, ⟨rfl, rfl⟩, by omega, hR1⟩
   ·have d1 : decide ((v : Int) > 0) = true := decide_eq_true (by omega)
    (refine wk1 @d1 ?_;(repeat clear hK K);repeat refine kq fun K hK=>?_)
    refine cxz ?_
    have hne : (cRows (R)).isEmpty = false := by
     have h9 := (hR1).1
     cases h8 : (cRows (R)) with
     | nil =>
      have h7 := congrArg List.length h8
      rw [cRows_len, h9, List.length_nil] at h7
      omega
     | cons x xs => rfl
    (refine aw_regionZ [5, 3] (.m 0 0 0 (.m 2 0 0 (.m 3 0 0 (.m 5 0 0 (.m 8 0 0 (.m 10 0 0 (.m 11 0 0 (.m 1 1 18 (.m 4 1 16 (.m 6 0 0 (.m 7 1 16 (.m 12 1 14 (.m 13 0 0 (.a 9 (.a 14 (.m 15 0 0 (.a 16 (.m 17 0 0 (.a 18 .e))))))))))))))))))) (by kernel_rfl) (by kernel_rfl) (by intro c st h; simp [ThenA, InBl, Ret] at h) ?_)
    (refine zk1 (an @cRows_len (an (cRows_get hgs) ((hR1).1))) ?_; repeat clear hK K)
    (refine z_2y rfl rfl rfl ?_; intro K1 hK1; refine stpY_X (σ := [0]) (by first | rfl | simp only [rowsB, List.getD_cons_zero, List.getD_cons_succ, hne, List.isEmpty_cons, Bool.not_false, Bool.true_and, Bool.and_true, Bool.and_self]) rfl rfl rfl rfl ?_; refine stpX_call (ids := []) [0] (event_fc T hT (a + 1 + 1 + 1) (by omega)) rfl rfl (by simp only [go_sem]) (by kernel_rfl) rfl rfl rfl (by (simp only [go_sem]) <;> rfl) (by (simp only [pkh, tape, go_sem]) <;> rfl) ?_ ?_)
    ·rintro _ _ ⟨rfl, v, rfl, _⟩; exact born_one rfl
    rintro _ _ ⟨rfl, e, rfl, he⟩
    (simp only [aInts, aSets, tape, cRows_up, List.append_nil, List.nil_append, List.length_map, go_sem]; refine hK1 _ ?_; clear hK1 K1)
    (refine zk0 ?_; repeat clear hK K)
    (refine z_2y rfl rfl rfl ?_; intro K1 hK1; refine stpY_X (σ := [0]) (by first | rfl | simp only [rowsB, List.getD_cons_zero, List.getD_cons_succ, hne, List.isEmpty_cons, Bool.not_false, Bool.true_and, Bool.and_true, Bool.and_self]) rfl rfl rfl rfl ?_; refine stpX_call (ids := []) [0] (next_fc T (a + 1 + 1 + 1 + 1) R.length hT (by omega) (by omega)) rfl rfl (by simp only [go_sem]) (by kernel_rfl) rfl rfl rfl (by (simp only [go_sem]) <;> rfl) (by (simp only [pkh, tape, go_sem]) <;> rfl) ?_ ?_)
    ·rintro _ _ ⟨rfl, v, rfl, _⟩; exact born_one rfl
    rintro _ _ ⟨rfl, t, rfl, ht⟩
    (simp only [aInts, aSets, tape, cRows_up, List.append_nil, List.nil_append, List.length_map, go_sem]; refine hK1 _ ?_; clear hK1 K1)
    (refine zk0 ?_; repeat clear hK K)
    (refine z_2 rfl rfl ?_; intro K1 hK1; refine StpC.f (stp_call0 (ids := []) (insT_fc row (e, (t : Int)) (by omega)) rfl rfl (by simp only [go_sem]) (by kernel_rfl) (by (simp only [List.append_nil, go_sem]) <;> rfl) ?_))
    rintro _ _ ⟨rfl, rfl⟩
    simp only [aArcs]
    (simp only [aInts, aSets, cRows_up, List.append_nil, List.nil_append, List.length_map, go_sem]; refine hK1 _ ?_; clear hK1 K1)
    dsimp only
    have hcs : ∀ q : List Ar, (cRows (R)).set s (.t 2 (tArcs q)) = cRows ((R).set s q) := fun q => by simp [cRows, List.map_set]
    have hR2 : VarOk R ((R).set s (insA (e, (t : Int)) row)) := ⟨by rw [List.length_set, (hR1).1], fun q hq => by
     rcases List.mem_or_eq_of_mem_set hq with hq | rfl
     ·exact (hR1).2 q hq
     ·refine ⟨by have := insA_len (e, (t : Int)) row; have := (hrs).1; omega, fun x hx => ?_⟩
      rcases (mem_insA _ _ _).1 hx with rfl | hx
      ·simp only; omega
      ·exact (hrs).2 x hx⟩
    (refine zk1 (an @cRows_len ((hR1).1)) ?_; repeat clear hK K)
    (refine z_3 rfl rfl rfl rfl ?_; intro K1 hK1; refine stp_ev rfl ?_; simp only [go_sem, cRows_len, hcs, List.length_set, (hR1).1]; (first | refine hK1 _ ?_ | refine andk (hK1 _ ?_)); clear hK1 K1)
    refine z_nil ⟨by simp, by simp, ?_⟩
    (try simp only [ThenA, InBl])
    refine hK _ ?_
    clear hK K
    refine aw_le (le_sink (r := ⟨45, 1, true, cRows ((R).set s (insA (e, (t : Int)) row))⟩) (ri := ⟨25, 1, false, [.s 3 R.length]⟩) (ts := tRows ((R).set s (insA (e, (t : Int)) row))) 5 0 3 R.length (by decide) rfl rfl rfl rfl (show 0 < 1 by omega) (by rw [cRows_len, Nat.mul_one, (hR2).1]) (fz_cr _)) ?_
    simp only [go_sem]
    refine aw_le (le_ot 5 rfl) ?_
    simp only [otC, go_sem]
    (refine wk0 ?_;(repeat clear hK K);repeat refine kq fun K hK=>?_)
    refine rp0 [0, 2] Tryz.results10 ?_
    exact ⟨a + 1 + 1 + 1 + 1 + 1, (R).set s (insA (e, (t : Int)) row), ⟨rfl, rfl⟩, by omega, hR2⟩
end Go.Proofs.YtahnebicgbjonaaGreat
