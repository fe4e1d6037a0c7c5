/- Calm; Huge. -/
import Derived.Test.YthlckclbjknldaaGreatZk
import Derived.Test.YthlckclbjknldaaGreatG37
import Derived.Test.YthlckclbjknldaaGreatG11
namespace Go.Proofs.YthlckclbjknldaaGreat
set_option linter.unusedVariables false
set_option linter.unusedSimpArgs false
open Go.RowKit
set_option maxRecDepth 100000
attribute [local go_sem] List.set_cons_zero List.set_cons_succ List.map_cons List.map_nil List.take_succ_cons List.take_zero List.drop_zero List.drop_succ_cons C.pl C.one List.all_cons List.all_nil Bool.and_true

/-- is a system larger than the statements examine? -/
def hugeB (R : List (List Ar)) : Bool := decide (R.length > 12) || decide (totA R > 60)
theorem huge_fc (R : List (List Ar)) (hn : R.length ≤ 140737488355328) (hr : ∀ r ∈ R, r.length ≤ 140737488355328) : FC Tryz.prog 14 [aLts R] [] (fun r o => o = [] ∧ r = .b (hugeB R)) := by
 refine fc_intro Tryz.func14 rfl (by rw [Tryz.ntmps14]; simp) ?_
 rw [Tryz.ntmps14]
 simp only [enum, aLts]
 (refine wk0 ?_; (repeat clear hK K); repeat (refine Kq.mk ?_; intro K hK))
 refine aw_loop (fun k : Nat => { tm := [(1, .a (.c (.p 0 0))), (3, .i (totA (R.take k) : Int)), (4, .i k)], hp := [.r ⟨25, 1, false, [.t 1 (tRows R)]⟩], n := 32, pin := 0 }) (fun k => k ≤ R.length) (fun k => R.length - k) 0 ?_ ?_ ?_
 ·omega
 ·(refine le_tm ?_; simp only [LeTm, go_sem, List.take_zero, totA, List.map_nil, List.sum_nil, Int.natCast_zero]; try simp)
 ·rintro k hk K hK
  have hle := totA_le R k
  have hfull : k = R.length → totA (R.take k) = totA R := fun e => by rw [e, List.take_length]
  by_cases hlt : k < R.length
  ·have hl1 : decide ((k : Int) < (R.length : Int)) = true := by simpa using hlt
   have hgk := List.getElem?_eq_getElem hlt
   have hrk := hr _ (List.getElem_mem hlt)
   have htk := totA_take hlt
   generalize hW : totA (R.take k) = W at *
   by_cases h60 : W ≤ 60
   ·have d2 : decide ((W : Int) ≤ 60) = true := by simp; omega
    have e3 : ((W : Int) + (R[k].length : Int)) = (totA (R.take (k + 1)) : Int) := by omega
    (refine wk1 (an @hl1 (an @d2 @tRows_len)) ?_; (repeat clear hK K); repeat (refine Kq.mk ?_; intro K hK))
    refine cxz ?_
    (refine wk1 (an (tRows_get hgk) (an @tRows_len (an @tArcs_len (an @half2 @e3)))) ?_; (repeat clear hK K); repeat (refine Kq.mk ?_; intro K hK))
    refine rnz ?_
    refine hK _ (k + 1) (by omega) (by omega) ?_
    exact lmz
   ·have d2 : decide ((W : Int) ≤ 60) = false := by simp; omega
    have d3 : decide ((W : Int) > 60) = true := by simp; omega
    have t60 : decide (totA R > 60) = true := by simp; omega
    (refine wk1 (an @hl1 (an @d2 @tRows_len)) ?_; (repeat clear hK K); repeat (refine Kq.mk ?_; intro K hK))
    refine cyz ?_
    (refine ekz ?_; repeat clear hK K)
    cases t12 : decide (R.length > 12) with
    | true =>
     have d4 : decide ((R.length : Int) > 12) = true := by simp at t12; simp; omega
     (refine wk1 (an @d3 (an @d4 @tRows_len)) ?_; (repeat clear hK K); repeat (refine Kq.mk ?_; intro K hK))
     ((try refine aw_ret ?_); (try simp only [ThenA, InBl]); refine ret_le (le_pick [] rfl rfl) ?_; (try simp only [List.set_nil, List.take_nil, List.take_zero, List.map_append, go_sem]); ((try refine aw_ret ?_); (try refine lst_nil ?_); (try simp only [ThenA, InBl]); refine ret_mk (by first | exact .inl rfl | exact .inr rfl) rfl ?_; simp only [rtn, resA, resL, resV, Tryz.results14, go_sem, true_and, and_true]))
     rw [hugeB, t12]; rfl
    | false =>
     have d4 : decide ((R.length : Int) > 12) = false := by simp at t12; simp; omega
     (refine wk1 (an @d3 (an @d4 @tRows_len)) ?_; (repeat clear hK K); repeat (refine Kq.mk ?_; intro K hK))
     ((try refine aw_ret ?_); (try simp only [ThenA, InBl]); refine ret_le (le_pick [] rfl rfl) ?_; (try simp only [List.set_nil, List.take_nil, List.take_zero, List.map_append, go_sem]); ((try refine aw_ret ?_); (try refine lst_nil ?_); (try simp only [ThenA, InBl]); refine ret_mk (by first | exact .inl rfl | exact .inr rfl) rfl ?_; simp only [rtn, resA, resL, resV, Tryz.results14, go_sem, true_and, and_true]))
     rw [hugeB, t12, t60]; rfl
  ·have hl1 : decide ((k : Int) < (R.length : Int)) = false := by simpa using hlt
   have hke : k = R.length := by omega
   have hf := hfull hke
   generalize hW : totA (R.take k) = W at *
   cases t60 : decide (totA R > 60) with
   | true =>
    have d3 : decide ((W : Int) > 60) = true := by simp at t60; simp; omega
    (refine wk1 (an @hl1 @tRows_len) ?_; (repeat clear hK K); repeat (refine Kq.mk ?_; intro K hK))
    refine cyz ?_
    (refine ekz ?_; repeat clear hK K)
    cases t12 : decide (R.length > 12) with
    | true =>
     have d4 : decide ((R.length : Int) > 12) = true := by simp at t12; simp; omega
     (refine wk1 (an @d3 (an @d4 @tRows_len)) ?_; (repeat clear hK K); repeat (refine Kq.mk ?_; intro K hK))
     ((try refine aw_ret ?_); (try simp only [ThenA, InBl]); refine ret_le (le_pick [] rfl rfl) ?_; (try simp only [List.set_nil, List.take_nil, List.take_zero, List.map_append, go_sem]); ((try refine aw_ret ?_); (try refine lst_nil ?_); (try simp only [ThenA, InBl]); refine ret_mk (by first | exact .inl rfl | exact .inr rfl) rfl ?_; simp only [rtn, resA, resL, resV, Tryz.results14, go_sem, true_and, and_true]))
     rw [hugeB, t12]; rfl
    | false =>
     have d4 : decide ((R.length : Int) > 12) = false := by simp at t12; simp; omega
     (refine wk1 (an @d3 (an @d4 @tRows_len)) ?_; (repeat clear hK K); repeat (refine Kq.mk ?_; intro K hK))
     ((try refine aw_ret ?_); (try simp only [ThenA, InBl]); refine ret_le (le_pick [] rfl rfl) ?_; (try simp only [List.set_nil, List.take_nil, List.take_zero, List.map_append, go_sem]); ((try refine aw_ret ?_); (try refine lst_nil ?_); (try simp only [ThenA, InBl]); refine ret_mk (by first | exact .inl rfl | exact .inr rfl) rfl ?_; simp only [rtn, resA, resL, resV, Tryz.results14, go_sem, true_and, and_true]))
     rw [hugeB, t12, t60]; rfl
   | false =>
    have d3 : decide ((W : Int) > 60) = false := by simp at t60; simp; omega
    (refine wk1 (an @hl1 @tRows_len) ?_; (repeat clear hK K); repeat (refine Kq.mk ?_; intro K hK))
    refine cyz ?_
    (refine ekz ?_; repeat clear hK K)
    cases t12 : decide (R.length > 12) with
    | true =>
     have d4 : decide ((R.length : Int) > 12) = true := by simp at t12; simp; omega
     (refine wk1 (an @d3 (an @d4 @tRows_len)) ?_; (repeat clear hK K); repeat (refine Kq.mk ?_; intro K hK))
     ((try refine aw_ret ?_); (try simp only [ThenA, InBl]); refine ret_le (le_pick [] rfl rfl) ?_; (try simp only [List.set_nil, List.take_nil, List.take_zero, List.map_append, go_sem]); ((try refine aw_ret ?_); (try refine lst_nil ?_); (try simp only [ThenA, InBl]); refine ret_mk (by first | exact .inl rfl | exact .inr rfl) rfl ?_; simp only [rtn, resA, resL, resV, Tryz.results14, go_sem, true_and, and_true]))
     rw [hugeB, t12]; rfl
    | false =>
     have d4 : decide ((R.length : Int) > 12) = false := by simp at t12; simp; omega
     (refine wk1 (an @d3 (an @d4 @tRows_len)) ?_; (repeat clear hK K); repeat (refine Kq.mk ?_; intro K hK))
     ((try refine aw_ret ?_); (try simp only [ThenA, InBl]); refine ret_le (le_pick [] rfl rfl) ?_; (try simp only [List.set_nil, List.take_nil, List.take_zero, List.map_append, go_sem]); ((try refine aw_ret ?_); (try refine lst_nil ?_); (try simp only [ThenA, InBl]); refine ret_mk (by first | exact .inl rfl | exact .inr rfl) rfl ?_; simp only [rtn, resA, resL, resV, Tryz.results14, go_sem, true_and, and_true]))
     rw [hugeB, t12, t60]; rfl

theorem cArcs_ren (f : List Nat) (L : List Ar) : (cArcs L).map (C.ren f) = cArcs L := by
 unfold cArcs
 rw [List.map_flatMap]
 rfl
theorem OkRow.filter {k m : Nat} {r : List Ar} (h : OkRow k m r) (p : Ar → Bool) : OkRow k m (r.filter p) :=
 ⟨List.Pairwise.filter p h.1, Nat.le_trans (List.length_filter_le p r) h.2.1, fun a ha => h.2.2 a (List.mem_filter.1 ha).1⟩
/-- an arc that Calm keeps -/
def kp (s : Nat) (a : Ar) : Bool := a.1 != 0 || decide (a.2 > (s : Int))
theorem kp_take {s : Nat} {r : List Ar} {i : Nat} (h : i < r.length) : (r.take (i + 1)).filter (kp s) = (r.take i).filter (kp s) ++ (if kp s r[i] then [r[i]] else []) := by
 rw [List.take_succ_eq_append_getElem h, List.filter_append]
 congr 1
 simp [List.filter_cons]
set_option maxHeartbeats 1000000 in
theorem calm_fc (T : List Int) (hT : TpOk T) (a0 n : Nat) (ha : a0 ≤ 500000) (hn1 : 1 ≤ n) (hn : n ≤ 20) :
  FC Tryz.prog 23 [.a (.c (.p 0 0)), .i n] [tape T a0] (fun r o => ∃ (a' : Nat) (R : List (List Ar)), (o = [tape T a', oLts R] ∧ r = aLts R) ∧ a' ≤ a0 + 1 + 8 * n ∧ 1 ≤ R.length ∧ R.length ≤ n ∧ OkSys 4 R.length R) := by
 refine fc_intro Tryz.func23 rfl (by rw [Tryz.ntmps23]; simp) ?_
 rw [Tryz.ntmps23]
 simp only [enum, tape, oLts, aLts]
 (refine wk0 ?_; (repeat clear hK K); repeat (refine Kq.mk ?_; intro K hK))
 (refine lst_cons rfl ?_; intro K1 hK1; refine stp_callσ (ids := []) [0] (chainO_fc T hT a0 n (by omega) hn1 hn) rfl rfl (by simp only [go_sem]) (by first | assumption | kernel_rfl) rfl rfl (by (simp only [List.map_append, List.append_nil, go_sem]) <;> rfl) (by (simp only [pkh, tape, go_sem]) <;> rfl) ?_ ?_)
 ·rintro _ _ ⟨_, _, rfl, rfl, _⟩; rfl
 rintro _ _ ⟨a1, R0, rfl, rfl, ha1, hl1, hl2, hok⟩
 (simp only [aInts, aSets, tape, cRows_up, List.append_nil, List.nil_append, List.length_map, go_sem]; refine hK1 _ ?_; clear hK1 K1)
 (refine wk0 ?_; (repeat clear hK K); repeat (refine Kq.mk ?_; intro K hK))
 refine aw_le (le_pick [0, 1, 2, 4] rfl rfl) ?_
 (try simp only [List.set_nil, List.take_nil, List.take_zero, List.map_append, go_sem])
 (try simp only [cRows_ren])
 obtain ⟨m, hm⟩ : ∃ m, m = R0.length := ⟨_, rfl⟩
 rw [← hm] at hl1 hl2 hok
 (try rw [← hm])
 refine aw_loop (fun p : Nat × List (List Ar) => { tm := [(0, .a (.c (.p 0 0))), (4, .a (.c (.p 1 0))), (5, .a (.c (.p 3 0))), (6, .i p.1)], hp := [.r ⟨51, 2, false, [.t 1 (tInts T), .v (.int .i64 a1)]⟩, .r ⟨25, 1, false, [.v (.slice none 0 0)]⟩, .r ⟨29, 1, true, cRows p.2⟩, .r ⟨25, 1, false, [.s 2 m]⟩], n := 69, pin := 1 })
  (fun p => p.1 ≤ m ∧ OkSys 4 m p.2) (fun p => m - p.1) (0, R0) ?_ ?_ ?_
 ·exact ⟨by simp, hok⟩
 ·exact lmz
 ·rintro ⟨s, R⟩ ⟨hs, hR⟩ K hK
  simp only at hs hR ⊢
  have hRl := hR.1
  by_cases hlt : s < m
  ·have hl0 : decide ((s : Int) < (m : Int)) = true := by simp; omega
   have hl2' : s < R.length := by omega
   have hg2 := List.getElem?_eq_getElem hl2'
   have hrow := hR.2 _ (List.getElem_mem hl2')
   (refine wk1 @hl0 ?_; (repeat clear hK K); repeat (refine Kq.mk ?_; intro K hK))
   refine cxz ?_
   (refine wk0 ?_; (repeat clear hK K); repeat (refine Kq.mk ?_; intro K hK))
   refine aw_le (le_nil 7 40 2 ?_) ?_
   ·simp only [go_sem]
   refine aw_loop (fun i : Nat => { tm := [(0, .a (.c (.p 0 0))), (4, .a (.c (.p 1 0))), (5, .a (.c (.p 3 0))), (6, .i s), (7, .a (.c (.s 4 ((R[s].take i).filter (kp s)).length))), (8, .i i)], hp := [.r ⟨51, 2, false, [.t 1 (tInts T), .v (.int .i64 a1)]⟩, .r ⟨25, 1, false, [.v (.slice none 0 0)]⟩, .r ⟨29, 1, true, cRows R⟩, .r ⟨25, 1, false, [.s 2 m]⟩, .r ⟨40, 2, true, cArcs ((R[s].take i).filter (kp s))⟩], n := 69, pin := 1 })
    (fun i => i ≤ R[s].length) (fun i => R[s].length - i) 0 ?_ ?_ ?_
   ·omega
   ·(refine le_tm ?_; simp only [LeTm, go_sem, List.take_zero, List.filter_nil, List.length_nil, cArcs, List.flatMap_nil]; try simp)
   ·rintro i hi K hK
    by_cases hlti : i < R[s].length
    ·have hl3 : decide ((i : Int) < (R[s].length : Int)) = true := by simpa using hlti
     have ha0 := tArcs_c0 hlti
     have ha1' := tArcs_c1 hlti
     have hat := tArcs_at hlti
     have hkt := kp_take (s := s) hlti
     have hrl := hrow.2.1
     have hfl : ((R[s].take i).filter (kp s)).length ≤ 4 := Nat.le_trans (List.length_filter_le _ _) (by simp; omega)
     (refine wk1 (an @hl3 (an @cRows_len (an (cRows_get hg2) (an @tArcs_len @half2)))) ?_; (repeat clear hK K); repeat (refine Kq.mk ?_; intro K hK))
     refine cxz ?_
     cases q1 : (R[s][i].1 != 0) with
     | true =>
      have hk1 : kp s R[s][i] = true := by rw [kp, q1, Bool.true_or]
      rw [if_pos hk1] at hkt
      (refine wk1 (an @q1 (an @ha0 (an @ha1' (an @cRows_len (an (cRows_get hg2) (an @tArcs_len @half2)))))) ?_; (repeat clear hK K); repeat (refine Kq.mk ?_; intro K hK))
      refine cxz ?_
      have hlc := List.take_of_length_le (Nat.le_of_eq (cArcs_len ((R[s].take i).filter (kp s))))
      (refine wk1 (an @cRows_len (an (cRows_get hg2) (an @tArcs_len (an @half2 (an @hat (an @cArcs_len (an @cArcs_one (an @cArcs_snoc @hlc)))))))) ?_; (repeat clear hK K); repeat (refine Kq.mk ?_; intro K hK))
      refine rnz ?_
      refine hK _ (i + 1) (by omega) (by omega) ?_
      refine Le.trans (le_pick [0, 1, 2, 3, 6] rfl rfl) ?_
      (try simp only [List.set_nil, List.take_nil, List.take_zero, List.map_append, go_sem])
      rw [hkt]
      (try simp only [cRows_ren, cArcs_ren])
      (refine le_tm ?_; simp only [LeTm, go_sem, List.length_append, List.length_cons, List.length_nil]; try simp)
     | false =>
      cases q2 : decide (R[s][i].2 > (s : Int)) with
      | true =>
       have hk1 : kp s R[s][i] = true := by rw [kp, q1, q2]; rfl
       rw [if_pos hk1] at hkt
       (refine wk1 (an @q1 (an @q2 (an @ha0 (an @ha1' (an @cRows_len (an (cRows_get hg2) (an @tArcs_len @half2))))))) ?_; (repeat clear hK K); repeat (refine Kq.mk ?_; intro K hK))
       refine cxz ?_
       have hlc := List.take_of_length_le (Nat.le_of_eq (cArcs_len ((R[s].take i).filter (kp s))))
       (refine wk1 (an @cRows_len (an (cRows_get hg2) (an @tArcs_len (an @half2 (an @hat (an @cArcs_len (an @cArcs_one (an @cArcs_snoc @hlc)))))))) ?_; (repeat clear hK K); repeat (refine Kq.mk ?_; intro K hK))
       refine rnz ?_
       refine hK _ (i + 1) (by omega) (by omega) ?_
       refine Le.trans (le_pick [0, 1, 2, 3, 6] rfl rfl) ?_
       (try simp only [List.set_nil, List.take_nil, List.take_zero, List.map_append, go_sem])
       rw [hkt]
       (try simp only [cRows_ren, cArcs_ren])
       (refine le_tm ?_; simp only [LeTm, go_sem, List.length_append, List.length_cons, List.length_nil]; try simp)
      | false =>
       have hk1 : ¬ kp s R[s][i] = true := by rw [kp, q1, q2]; simp
       rw [if_neg hk1, List.append_nil] at hkt
       (refine wk1 (an @q1 (an @q2 (an @ha0 (an @ha1' (an @cRows_len (an (cRows_get hg2) (an @tArcs_len @half2))))))) ?_; (repeat clear hK K); repeat (refine Kq.mk ?_; intro K hK))
       refine cyz ?_
       (refine wk0 ?_; (repeat clear hK K); repeat (refine Kq.mk ?_; intro K hK))
       refine rnz ?_
       refine hK _ (i + 1) (by omega) (by omega) ?_
       rw [hkt]
       exact lmz
    ·have hl3 : decide ((i : Int) < (R[s].length : Int)) = false := by simpa using hlti
     have hie : i = R[s].length := by omega
     (refine wk1 (an @hl3 (an @cRows_len (an (cRows_get hg2) (an @tArcs_len @half2)))) ?_; (repeat clear hK K); repeat (refine Kq.mk ?_; intro K hK))
     refine cyz ?_
     (refine ekz ?_; repeat clear hK K)
     rw [hie, List.take_length]
     (refine aw_le (le_frz (r := ⟨40, 2, true, cArcs (R[s].filter (kp s))⟩) 4 (tArcs (R[s].filter (kp s))) rfl (fz_ca _) (show 0 < (2 : Nat) by omega)) ?_; simp only [ST.frz, A0.frz, AV.frz, C.frz, Nat.le_refl, List.set_cons_zero, List.set_cons_succ, go_sem, tArcs_len, half2, tArcs_take, List.take_length])
     (refine wks1 (an @cRows_len @cRows_set) ?_; (repeat clear hK K); repeat (refine Kq.mk ?_; intro K hK))
     refine rnz ?_
     refine hK _ (s + 1, R.set s (R[s].filter (kp s))) ⟨by simp only; omega, hR.set (hrow.filter _) s⟩ (by simp only; omega) ?_
     refine Le.trans (le_pick [0, 1, 2, 3] rfl rfl) ?_
     (try simp only [List.set_nil, List.take_nil, List.take_zero, List.map_append, go_sem])
     (try simp only [cRows_ren])
     exact lmz
  ·have hl0 : decide ((s : Int) < (m : Int)) = false := by simp; omega
   (refine wk1 @hl0 ?_; (repeat clear hK K); repeat (refine Kq.mk ?_; intro K hK))
   refine cyz ?_
   (refine ekz ?_; repeat clear hK K)
   refine aw_le (le_sink (r := ⟨29, 1, true, cRows R⟩) (ri := ⟨25, 1, false, [.s 2 m]⟩) (ts := tRows R) 3 0 2 m (by decide) rfl rfl rfl rfl (show 0 < 1 by omega) (by simp only [cRows_len, hRl]; omega) (fz_cr R)) ?_
   refine aw_le (le_ot 3 rfl) ?_
   simp only [otC, List.map_cons, List.map_nil, go_sem]
   (refine wk0 ?_; (repeat clear hK K); repeat (refine Kq.mk ?_; intro K hK))
   ((try refine aw_ret ?_); (try simp only [ThenA, InBl]); refine ret_le (le_pick [0, 1] rfl rfl) ?_; (try simp only [List.set_nil, List.take_nil, List.take_zero, List.map_append, go_sem]); ((try refine aw_ret ?_); (try refine lst_nil ?_); (try simp only [ThenA, InBl]); refine ret_mk (by first | exact .inl rfl | exact .inr rfl) rfl ?_; simp only [rtn, resA, resL, resV, Tryz.results23, go_sem, true_and, and_true]))
   exact ⟨a1, R, ⟨rfl, rfl⟩, by omega, by omega, by omega, by rw [hRl]; exact hR⟩
end Go.Proofs.YthlckclbjknldaaGreat
