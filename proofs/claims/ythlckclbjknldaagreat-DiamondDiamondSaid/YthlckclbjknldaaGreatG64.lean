/- The law DiamondDiamond. -/
import Derived.Test.YthlckclbjknldaaGreatZk
import Derived.Test.YthlckclbjknldaaGreatG63
import Derived.Test.YthlckclbjknldaaGreatG51a
namespace Go.Proofs.YthlckclbjknldaaGreat
set_option linter.unusedVariables false
set_option linter.unusedSimpArgs false
open Go.RowKit
set_option maxRecDepth 100000
attribute [local go_sem] List.set_cons_zero List.set_cons_succ List.map_cons List.map_nil List.take_succ_cons List.take_zero List.drop_zero List.drop_succ_cons C.pl C.one List.all_cons List.all_nil Bool.and_true Nat.mul_one Int.toNat_natCast

theorem dia_no (R : List (List Ar)) (hv : valB R = false) (hn : R.length ≤ 140737488355328) (hr : ∀ r ∈ R, r.length ≤ 140737488355328) : FC Tryz.prog 46 [aLts R] [] (fun r o => o = [.r ⟨25, 1, false, [.v (.slice none 0 0)]⟩] ∧ r = .tup [.g [.v (.slice none 0 0)], .c (.v (.int .i64 1))]) := by
 refine fc_intro Tryz.func46 rfl (by rw [Tryz.ntmps46]; simp) ?_
 rw [Tryz.ntmps46]
 simp only [enum, aLts]
 (refine wk0 ?_; (repeat clear hK K); repeat (refine Kq.mk ?_; intro K hK))
 (refine ckz (tauL_no R hv hn hr) ?_; intro K1 hK1)
 rintro _ _ ⟨rfl, rfl⟩
 (refine bkz ?_; clear hK1 K1)
 (refine wks0 ?_; (repeat clear hK K); repeat (refine Kq.mk ?_; intro K hK))
 (refine aw_cnd ?_; intro X Y hX hY; simp only [go_sem])
 refine ⟨fun _ => hX ?_, fun h => absurd h (by simp)⟩
 clear hX hY X Y
 (refine wks0 ?_; (repeat clear hK K); repeat (refine Kq.mk ?_; intro K hK))
 ((try refine aw_ret ?_); (try simp only [ThenA, InBl]); refine ret_le (le_pick [1] rfl rfl) ?_; (try simp only [List.set_nil, List.take_nil, List.take_zero, List.map_append, go_sem]); ((try refine aw_ret ?_); (try refine lst_nil ?_); (try simp only [ThenA, InBl]); refine ret_mk (by first | exact .inl rfl | exact .inr rfl) rfl ?_; simp only [rtn, resA, resL, resV, Tryz.results46, go_sem, true_and, and_true]))
theorem rdia_no (R : List (List Ar)) (hv : valB R = false) (hn : R.length ≤ 140737488355328) (hr : ∀ r ∈ R, r.length ≤ 140737488355328) : FC Tryz.prog 47 [aLts R] [] (fun r o => o = [.r ⟨25, 1, false, [.v (.slice none 0 0)]⟩] ∧ r = .tup [.g [.v (.slice none 0 0)], .c (.v (.int .i64 1))]) := by
 refine fc_intro Tryz.func47 rfl (by rw [Tryz.ntmps47]; simp) ?_
 rw [Tryz.ntmps47]
 simp only [enum, aLts]
 (refine wk0 ?_; (repeat clear hK K); repeat (refine Kq.mk ?_; intro K hK))
 (refine ckz (rtauL_no R hv hn hr) ?_; intro K1 hK1)
 rintro _ _ ⟨rfl, rfl⟩
 (refine bkz ?_; clear hK1 K1)
 (refine wks0 ?_; (repeat clear hK K); repeat (refine Kq.mk ?_; intro K hK))
 (refine aw_cnd ?_; intro X Y hX hY; simp only [go_sem])
 refine ⟨fun _ => hX ?_, fun h => absurd h (by simp)⟩
 clear hX hY X Y
 (refine wks0 ?_; (repeat clear hK K); repeat (refine Kq.mk ?_; intro K hK))
 ((try refine aw_ret ?_); (try simp only [ThenA, InBl]); refine ret_le (le_pick [1] rfl rfl) ?_; (try simp only [List.set_nil, List.take_nil, List.take_zero, List.map_append, go_sem]); ((try refine aw_ret ?_); (try refine lst_nil ?_); (try simp only [ThenA, InBl]); refine ret_mk (by first | exact .inl rfl | exact .inr rfl) rfl ?_; simp only [rtn, resA, resL, resV, Tryz.results47, go_sem, true_and, and_true]))
set_option maxHeartbeats 2000000 in
theorem elim_fc (R : List (List Ar)) (hn : R.length ≤ 1000000) (hr : ∀ r ∈ R, r.length ≤ 1000000) : FC Tryz.prog 25 [aLts R] [] (fun r o => o = [] ∧ r = .b true) := by
 refine fc_intro Tryz.func25 rfl (by rw [Tryz.ntmps25]; simp) ?_
 rw [Tryz.ntmps25]
 simp only [enum, aLts]
 cases hv : valB R with
 | true =>
  have hlo : looB R = true := decide_eq_true (of_decide_eq_true hv).1
  have h1 : 1 ≤ R.length := (of_decide_eq_true hlo).1
  (refine wk0 ?_; (repeat clear hK K); repeat (refine Kq.mk ?_; intro K hK))
  (refine ckz (dia_fc R hv h1 hn hr) ?_; intro K1 hK1)
  intro r1 o1 ⟨D, hD, hLD, q, hq, h2⟩
  have hvF := tl_val hv hD hLD
  rw [← hq] at hvF
  have hloF : looB q.1 = true := decide_eq_true (of_decide_eq_true hvF).1
  have hpF : LooP q.1 := of_decide_eq_true hloF
  have hbd := dm_bd hloF
  have hml : (dmR q.1).length = q.1.length := dmL_len q.1 q.1.length
  have hFl : q.1.length ≤ 16384 := hpF.2.1
  have hF1 := hpF.1
  have hb := canonR_bd (R := dmR q.1) (B := 1000000) (by omega) (fun r hr0 a ha => by have := (hbd r hr0).1 a ha; exact ⟨this.2.2.1, this.2.2.2⟩) (fun r hr0 => (hbd r hr0).2)
  have hsec : ∀ r o, (∃ D : List Int, D.length = R.length ∧ (∀ v, v < R.length → Least (AdjF true R) v (fnL D (-1) v)) ∧ ∃ q, q = canonR (tiOut (clsN D) (ixS D R.length).2 R R.length) ∧ diaO (canonR (dmR q.1)).1 r o) → diaO (canonR (dmR q.1)).1 r o := by
   rintro r o ⟨D2, hD2, hLD2, q2, hq2, h3⟩
   rw [adj_eq true hv] at hLD2
   have hDD := least_rows hD2 hD hLD2 hLD
   rw [hDD, canon_ti, ← hq] at hq2
   rw [hq2] at h3
   exact h3
  generalize (canonR (dmR q.1)).1 = x at *
  have hxl : x.length ≤ 1000000 := by omega
  have hxr := hb.2
  by_cases ht : totA x ≤ 262144
  ·rw [diaO, if_pos ht] at h2
   obtain ⟨rfl, rfl⟩ := h2
   (refine bkz ?_; clear hK1 K1)
   (refine wks0 ?_; (repeat clear hK K); repeat (refine Kq.mk ?_; intro K hK))
   (refine ckz (rdia_fc R hv h1 hn hr) ?_; intro K1 hK1)
   intro r2 o2 h3
   have h3 := hsec r2 o2 h3
   rw [diaO, if_pos ht] at h3
   obtain ⟨rfl, rfl⟩ := h3
   (refine bkz ?_; clear hK1 K1)
   (refine wks0 ?_; (repeat clear hK K); repeat (refine Kq.mk ?_; intro K hK))
   (refine lst_goU rfl rfl (by simp only [go_sem] <;> rfl) ?_; intro K1 hK1; refine (stp_call0 (ids := []) (same_fc x hxl hxr) rfl rfl (by simp only [go_sem]) (by kernel_rfl) (by (simp only [List.append_nil, go_sem]) <;> rfl) ?_).stp)
   rintro _ _ ⟨rfl, rfl⟩
   (refine bkz ?_; clear hK1 K1)
   (refine wk0 ?_; (repeat clear hK K); repeat (refine Kq.mk ?_; intro K hK))
   ((try refine aw_ret ?_); (try simp only [ThenA, InBl]); refine ret_le (le_pick [] rfl rfl) ?_; (try simp only [List.set_nil, List.take_nil, List.take_zero, List.map_append, go_sem]); ((try refine aw_ret ?_); (try refine lst_nil ?_); (try simp only [ThenA, InBl]); refine ret_mk (by first | exact .inl rfl | exact .inr rfl) rfl ?_; simp only [rtn, resA, resL, resV, Tryz.results25, go_sem, true_and, and_true]))
  ·rw [diaO, if_neg ht] at h2
   obtain ⟨rfl, rfl⟩ := h2
   (refine bkz ?_; clear hK1 K1)
   (refine wks0 ?_; (repeat clear hK K); repeat (refine Kq.mk ?_; intro K hK))
   (refine ckz (rdia_fc R hv h1 hn hr) ?_; intro K1 hK1)
   intro r2 o2 h3
   have h3 := hsec r2 o2 h3
   rw [diaO, if_neg ht] at h3
   obtain ⟨rfl, rfl⟩ := h3
   (refine bkz ?_; clear hK1 K1)
   (refine wks0 ?_; (repeat clear hK K); repeat (refine Kq.mk ?_; intro K hK))
   (refine lst_goU rfl rfl (by simp only [go_sem] <;> rfl) ?_; intro K1 hK1; refine (stp_call0 (ids := []) (sameN_fc) rfl rfl (by simp only [go_sem]) (by kernel_rfl) (by (simp only [List.append_nil, go_sem]) <;> rfl) ?_).stp)
   rintro _ _ ⟨rfl, rfl⟩
   (refine bkz ?_; clear hK1 K1)
   (refine wk0 ?_; (repeat clear hK K); repeat (refine Kq.mk ?_; intro K hK))
   ((try refine aw_ret ?_); (try simp only [ThenA, InBl]); refine ret_le (le_pick [] rfl rfl) ?_; (try simp only [List.set_nil, List.take_nil, List.take_zero, List.map_append, go_sem]); ((try refine aw_ret ?_); (try refine lst_nil ?_); (try simp only [ThenA, InBl]); refine ret_mk (by first | exact .inl rfl | exact .inr rfl) rfl ?_; simp only [rtn, resA, resL, resV, Tryz.results25, go_sem, true_and, and_true]))
 | false =>
  (refine wk0 ?_; (repeat clear hK K); repeat (refine Kq.mk ?_; intro K hK))
  (refine ckz (dia_no R hv (by omega) (fun r h => by have := hr r h; omega)) ?_; intro K1 hK1)
  rintro _ _ ⟨rfl, rfl⟩
  (refine bkz ?_; clear hK1 K1)
  (refine wks0 ?_; (repeat clear hK K); repeat (refine Kq.mk ?_; intro K hK))
  (refine ckz (rdia_no R hv (by omega) (fun r h => by have := hr r h; omega)) ?_; intro K1 hK1)
  rintro _ _ ⟨rfl, rfl⟩
  (refine bkz ?_; clear hK1 K1)
  (refine wks0 ?_; (repeat clear hK K); repeat (refine Kq.mk ?_; intro K hK))
  (refine lst_goU rfl rfl (by simp only [go_sem] <;> rfl) ?_; intro K1 hK1; refine (stp_call0 (ids := []) (sameN_fc) rfl rfl (by simp only [go_sem]) (by kernel_rfl) (by (simp only [List.append_nil, go_sem]) <;> rfl) ?_).stp)
  rintro _ _ ⟨rfl, rfl⟩
  (refine bkz ?_; clear hK1 K1)
  (refine wk0 ?_; (repeat clear hK K); repeat (refine Kq.mk ?_; intro K hK))
  ((try refine aw_ret ?_); (try simp only [ThenA, InBl]); refine ret_le (le_pick [] rfl rfl) ?_; (try simp only [List.set_nil, List.take_nil, List.take_zero, List.map_append, go_sem]); ((try refine aw_ret ?_); (try refine lst_nil ?_); (try simp only [ThenA, InBl]); refine ret_mk (by first | exact .inl rfl | exact .inr rfl) rfl ?_; simp only [rtn, resA, resL, resV, Tryz.results25, go_sem, true_and, and_true]))
theorem calm8_fc (T : List Int) (hT : TpOk T) (a0 : Nat) (ha : a0 ≤ 500000) :
  FC Tryz.prog 23 [.a (.c (.p 0 0)), .i 8] [tape T a0] (fun r o => ∃ (a' : Nat) (R : List (List Ar)), (o = [tape T a', oLts R] ∧ r = aLts R) ∧ a' ≤ a0 + 65 ∧ 1 ≤ R.length ∧ R.length ≤ 20 ∧ ∀ q ∈ R, q.length ≤ 1000) :=
 (calm_fc T hT a0 8 ha (by omega) (by omega)).mono fun r o ⟨a', R, h1, h2, h3, h4, h5⟩ => ⟨a', R, h1, by omega, h3, by omega, fun q hq => by have := (h5.2 q hq).2.1; omega⟩
set_option maxHeartbeats 2000000 in
theorem lawDia_fc (T : List Int) (hT : TpOk T) (R0 : List (List Ar)) (hn0 : R0.length ≤ 140737488355328) (hr0 : ∀ r ∈ R0, r.length ≤ 140737488355328) : FC Tryz.prog 7 [aInts T, aLts R0] [] (fun r _ => r = .b true) := by
 refine fc_intro Tryz.func7 rfl (by rw [Tryz.ntmps7]; simp) ?_
 rw [Tryz.ntmps7]
 simp only [enum, aInts, aLts]
 (refine wk0 ?_; (repeat clear hK K); repeat (refine Kq.mk ?_; intro K hK))
 (refine ckz (new_fc T) ?_; intro K1 hK1)
 rintro _ _ ⟨rfl, rfl⟩
 (simp only [aInts, aSets, tape, List.append_nil, List.nil_append, List.length_map, go_sem]; refine hK1 _ ?_; clear hK1 K1)
 (refine wk0 ?_; (repeat clear hK K); repeat (refine Kq.mk ?_; intro K hK))
 refine aw_loop (fun p : Nat × Nat => { tm := [(3, .a (.c (.p 0 0))), (5, .a (.c (.p 1 0))), (6, .i p.1)], hp := [.r ⟨25, 1, false, [.t 1 (tRows R0)]⟩, .r ⟨51, 2, false, [.t 1 (tInts T), .v (.int .i64 p.2)]⟩], n := 41, pin := 0 }) (fun p => p.1 ≤ 5 ∧ p.2 ≤ 400 * p.1) (fun p => 5 - p.1) (0, 0) ?_ ?_ ?_
 ·exact ⟨by simp, by simp⟩
 ·exact lmz
 ·rintro ⟨k, a⟩ ⟨hk, ha⟩ K hK
  simp only at hk ha ⊢
  (refine wk0 ?_; (repeat clear hK K); repeat (refine Kq.mk ?_; intro K hK))
  (refine aw_cnd ?_; intro X Y hX hY; simp only [go_sem])
  refine ⟨fun h => hX ?_, fun h => hY ?_⟩
  ·have hlt : k < 5 := by simp at h; omega
   clear hX hY X Y h
   (refine wk0 ?_; (repeat clear hK K); repeat (refine Kq.mk ?_; intro K hK))
   (refine lst_cons rfl ?_; intro K1 hK1; refine stp_callσ (ids := []) [1] (chain8_fc T hT a (by omega)) rfl rfl (by simp only [go_sem]) (by first | assumption | kernel_rfl) rfl rfl (by (simp only [List.map_append, List.append_nil, go_sem]) <;> rfl) (by (simp only [pkh, tape, go_sem]) <;> rfl) ?_ ?_)
   ·rintro _ _ ⟨_, _, ⟨rfl, rfl⟩, _⟩; rfl
   rintro _ _ ⟨a1, X, ⟨rfl, rfl⟩, ha1, hX1, hXn, hXr⟩
   (simp only [aInts, aSets, tape, oLts, aLts, List.append_nil, List.nil_append, List.length_map, go_sem]; refine hK1 _ ?_; clear hK1 K1)
   (refine wks0 ?_; (repeat clear hK K); repeat (refine Kq.mk ?_; intro K hK))
   (refine ckz (elim_fc X (by omega) (fun r h => by have := hXr r h; omega)) ?_; intro K1 hK1)
   rintro _ _ ⟨rfl, rfl⟩
   (refine bkz ?_; clear hK1 K1)
   (refine wk1 @Bool.not_true ?_; (repeat clear hK K); repeat (refine Kq.mk ?_; intro K hK))
   (refine lst_goU rfl rfl (by simp only [go_sem] <;> rfl) ?_; intro K1 hK1; refine stp_callσ (ids := []) [1] (calm8_fc T hT a1 (by omega)) rfl rfl (by simp only [go_sem]) (by first | assumption | kernel_rfl) rfl rfl (by (simp only [List.map_append, List.append_nil, go_sem]) <;> rfl) (by (simp only [pkh, tape, go_sem]) <;> rfl) ?_ ?_)
   ·rintro _ _ ⟨_, _, ⟨rfl, rfl⟩, _⟩; rfl
   rintro _ _ ⟨a2, Y1, ⟨rfl, rfl⟩, ha2, _, hYn, hYr⟩
   (simp only [aInts, aSets, tape, oLts, aLts, List.append_nil, List.nil_append, List.length_map, go_sem]; refine hK1 _ ?_; clear hK1 K1)
   (refine lst_goU rfl rfl (by simp only [go_sem] <;> rfl) ?_; intro K1 hK1; refine (stp_call0 (ids := []) (elim_fc Y1 (by omega) (fun r h => by have := hYr r h; omega)) rfl rfl (by simp only [go_sem]) (by kernel_rfl) (by (simp only [List.append_nil, go_sem]) <;> rfl) ?_).stp)
   rintro _ _ ⟨rfl, rfl⟩
   (refine bkz ?_; clear hK1 K1)
   (refine wk1 @Bool.not_true ?_; (repeat clear hK K); repeat (refine Kq.mk ?_; intro K hK))
   (refine lst_goU rfl rfl (by simp only [go_sem] <;> rfl) ?_; intro K1 hK1; refine stp_callσ (ids := []) [1] (spoil_fc T hT a2 X (by omega) hX1 hXn hXr) rfl rfl (by simp only [go_sem]) (by first | assumption | kernel_rfl) rfl rfl (by (simp only [List.map_append, List.append_nil, go_sem]) <;> rfl) (by (simp only [pkh, tape, go_sem]) <;> rfl) ?_ ?_)
   ·rintro _ _ ⟨_, _, rfl, rfl, _⟩; rfl
   rintro _ _ ⟨a3, Z, rfl, rfl, ha3, hZn, hZr⟩
   (simp only [aInts, aSets, tape, oLts, aLts, List.append_nil, List.nil_append, List.length_map, go_sem]; refine hK1 _ ?_; clear hK1 K1)
   (refine lst_goU rfl rfl (by simp only [go_sem] <;> rfl) ?_; intro K1 hK1; refine (stp_call0 (ids := []) (elim_fc Z (by omega) (fun r h => by have := hZr r h; omega)) rfl rfl (by simp only [go_sem]) (by kernel_rfl) (by (simp only [List.append_nil, go_sem]) <;> rfl) ?_).stp)
   rintro _ _ ⟨rfl, rfl⟩
   (refine bkz ?_; clear hK1 K1)
   (refine wk1 @Bool.not_true ?_; (repeat clear hK K); repeat (refine Kq.mk ?_; intro K hK))
   refine cyz ?_
   (refine wk0 ?_; (repeat clear hK K); repeat (refine Kq.mk ?_; intro K hK))
   refine rnz ?_
   refine hK _ (k + 1, a3) ⟨by simp only; omega, by simp only; omega⟩ (by simp only; omega) ?_
   refine Le.trans (le_pick [0, 1] rfl rfl) ?_
   (try simp only [List.set_nil, List.take_nil, List.take_zero, List.map_append, go_sem])
   exact lmz
  ·clear hX hY X Y
   (refine ekz ?_; repeat clear hK K)
   (refine wk0 ?_; (repeat clear hK K); repeat (refine Kq.mk ?_; intro K hK))
   (refine ckz (huge_fc R0 hn0 hr0) ?_; intro K1 hK1)
   rintro _ _ ⟨rfl, rfl⟩
   (refine bkz ?_; clear hK1 K1)
   cases hb : hugeB R0 with
   | true =>
    (refine wk0 ?_; (repeat clear hK K); repeat (refine Kq.mk ?_; intro K hK))
    ((try refine aw_ret ?_); (try refine lst_nil ?_); (try simp only [ThenA, InBl]); refine ret_mk (by first | exact .inl rfl | exact .inr rfl) rfl ?_; simp only [rtn, resA, resL, resV, Tryz.results7, go_sem])
   | false =>
    have hb2 : R0.length ≤ 12 ∧ totA R0 ≤ 60 := by
     unfold hugeB at hb
     simp only [Bool.or_eq_false_iff, decide_eq_false_iff_not] at hb
     omega
    have hb3 : ∀ r ∈ R0, r.length ≤ 1000000 := fun r h => by
     obtain ⟨j, hj, rfl⟩ := List.getElem_of_mem h
     have h2 := totA_row R0 j
     rw [List.getD_eq_getElem?_getD, List.getElem?_eq_getElem hj, Option.getD_some] at h2
     omega
    (refine wk0 ?_; (repeat clear hK K); repeat (refine Kq.mk ?_; intro K hK))
    (refine lst_goU rfl rfl (by simp only [go_sem] <;> rfl) ?_; intro K1 hK1; refine (stp_call0 (ids := []) (elim_fc R0 (by omega) hb3) rfl rfl (by simp only [go_sem]) (by kernel_rfl) (by (simp only [List.append_nil, go_sem]) <;> rfl) ?_).stp)
    rintro _ _ ⟨rfl, rfl⟩
    (refine bkz ?_; clear hK1 K1)
    (refine wk0 ?_; (repeat clear hK K); repeat (refine Kq.mk ?_; intro K hK))
    (refine lst_goU rfl rfl (by simp only [go_sem] <;> rfl) ?_; intro K1 hK1; refine (stp_call0 (ids := []) (sane28d_fc) rfl rfl (by simp only [go_sem]) (by kernel_rfl) (by (simp only [List.append_nil, go_sem]) <;> rfl) ?_).stp)
    rintro _ _ rfl
    (refine bkz ?_; clear hK1 K1)
    (refine wk0 ?_; (repeat clear hK K); repeat (refine Kq.mk ?_; intro K hK))
    ((try refine aw_ret ?_); (try refine lst_nil ?_); (try simp only [ThenA, InBl]); refine ret_mk (by first | exact .inl rfl | exact .inr rfl) rfl ?_; simp only [rtn, resA, resL, resV, Tryz.results7, go_sem])
end Go.Proofs.YthlckclbjknldaaGreat
