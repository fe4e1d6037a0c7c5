/- The law WeakArrows. -/
import Derived.Test.YtglchakimolfdaaGreatDoorZk
import Derived.Test.YtglchakimolfdaaGreatDoorG70
import Derived.Test.YtglchakimolfdaaGreatDoorG36
import Derived.Test.YtglchakimolfdaaGreatDoorG69
namespace Go.Proofs.YtglchakimolfdaaGreatDoor
set_option linter.unusedVariables false
set_option linter.unusedSimpArgs false
open Go.RowKit
set_option maxRecDepth 100000
attribute [local go_sem] List.set_cons_zero List.set_cons_succ List.map_cons List.map_nil List.take_succ_cons List.take_zero List.drop_zero List.drop_succ_cons C.pl C.one List.all_cons List.all_nil Bool.and_true Nat.mul_one Int.toNat_natCast

theorem arrows26_fc (R : List (List Ar)) (s e : Int) (hn : R.length ≤ 1000000) (hr : ∀ r ∈ R, r.length ≤ 1000000) : FC Tryz.prog 21 [aLts R, .i s, .i e] [] (fun r o => o = [] ∧ r = .b true) := by
 refine fc_intro Tryz.func21 rfl (by rw [Tryz.ntmps21]; simp) ?_
 rw [Tryz.ntmps21]
 simp only [enum, aLts]
 (refine wk0 ?_;(repeat clear hK K);repeat refine kq fun K hK=>?_)
 (refine aw_regionV [] [(1, 0, 0), (2, 0, 0), (5, 0, 0), (6, 0, 0), (0, 1, 3), (4, 1, 7), (3, 2, 0), (7, 2, 0), (8, 2, 0), (9, 2, 0)] (by kernel_rfl) (by kernel_rfl) (by intro c st h; simp [ThenA, InBl, Ret] at h) ?_)
 (refine vk0 ?_; repeat clear hK K)
 (refine v_2 rfl rfl ?_; intro K1 hK1; refine stpX_mono ?_; refine xv [] (wka_fc R s e hn hr) ?_ ?_)
 ·rintro _ _ ⟨rfl, L, _, rfl⟩ i o hi hl; simp at hl
 rintro _ _ ⟨rfl, L, hL, rfl⟩
 (refine bkz ?_; clear hK1 K1)
 (refine vk0 ?_; repeat clear hK K)
 (refine v_2 rfl rfl ?_; intro K1 hK1; refine stpX_mono ?_; refine xv [] (rwka_fc R s e hn hr) ?_ ?_)
 ·rintro _ _ ⟨rfl, L, _, rfl⟩ i o hi hl; simp at hl
 rintro _ _ ⟨rfl, L2, hL2, rfl⟩
 rw [wAr_uniq hL2 hL]
 have hl := wAr_len hL
 (refine bkz ?_; clear hK1 K1)
 (refine vk0 ?_; repeat clear hK K)
 (refine v_2 rfl rfl ?_; intro K1 hK1; refine stpX_mono ?_; refine xv [] (intsEq_fc L (by omega)) ?_ ?_)
 ·rintro _ _ ⟨rfl, rfl⟩ i o hi hl; simp at hl
 rintro _ _ ⟨rfl, rfl⟩
 (refine bkz ?_; clear hK1 K1)
 (refine v_3 rfl rfl rfl ?_; intro K1 hK1; refine stp_ev rfl ?_; simp only [go_sem]; (first | refine hK1 _ ?_ | refine andk (hK1 _ ?_)); clear hK1 K1)
 (refine vk0 ?_; repeat clear hK K)
 (refine wk0 ?_;(repeat clear hK K);repeat refine kq fun K hK=>?_)
 exact rpc0 [] Tryz.results21
theorem chain7w_fc (T : List Int) (hT : TpOk T) (a0 : Nat) (ha : a0 ≤ 500000) :
  FC Tryz.prog 17 [.a (.c (.p 0 0)), .i 7] [tape T a0] (fun r o => ∃ (a' : Nat) (R : List (List Ar)), (o = [tape T a', oLts R] ∧ r = aLts R) ∧ a' ≤ a0 + 57 ∧ 1 ≤ R.length ∧ R.length ≤ 20 ∧ ∀ q ∈ R, q.length ≤ 1000) :=
 (chain_fc T hT a0 7 ha (by omega) (by omega)).mono fun r o ⟨a', R, h0, h1, h2, h3, h4, h5⟩ => ⟨a', R, ⟨h0, h1⟩, by omega, h3, by omega, fun q hq => by have := (h5.2 q hq).2.1; omega⟩
set_option maxHeartbeats 4000000 in
theorem lawWarr_fc (T : List Int) (hT : TpOk T) (R0 : List (List Ar)) (s e : Int) (hn0 : R0.length ≤ 140737488355328) (hr0 : ∀ r ∈ R0, r.length ≤ 140737488355328) : FC Tryz.prog 5 [aInts T, aLts R0, .i s, .i e] [] (fun r _ => r = .b true) := by
 refine fc_intro Tryz.func5 rfl (by rw [Tryz.ntmps5]; simp) ?_
 rw [Tryz.ntmps5]
 simp only [enum, aInts, aLts]
 (refine wk0 ?_;(repeat clear hK K);repeat refine kq fun K hK=>?_)
 (refine ckz (new_fc T) ?_; intro K1 hK1)
 rintro _ _ ⟨rfl, rfl⟩
 (simp only [aInts, aSets, tape, List.append_nil, List.nil_append, List.length_map, go_sem]; refine hK1 _ ?_; clear hK1 K1)
 (refine wk0 ?_;(repeat clear hK K);repeat refine kq fun K hK=>?_)
 refine aw_loop (fun p : Nat × Nat => { tm := [(2, .i s), (3, .i e), (5, .a (.c (.p 0 0))), (9, .a (.c (.p 1 0))), (10, .i p.1)], hp := [.r ⟨25, 1, false, [.t 1 (tRows R0)]⟩, .r ⟨48, 2, false, [.t 1 (tInts T), .v (.int .i64 p.2)]⟩], n := 75, pin := 0 }) (fun p => p.1 ≤ 5 ∧ p.2 ≤ 200 * p.1) (fun p => 5 - p.1) (0, 0) ?_ ?_ ?_
 ·exact ⟨by simp, by simp⟩
 ·exact lmz
 ·rintro ⟨k, a⟩ ⟨hk, ha⟩ K hK
  simp only at hk ha ⊢
  (refine wk0 ?_;(repeat clear hK K);repeat refine kq fun K hK=>?_)
  (refine aw_cnd ?_; intro X Y hX hY; simp only [go_sem])
  refine ⟨fun h => hX ?_, fun h => hY ?_⟩
  ·have hlt : k < 5 := by simp at h; omega
   clear hX hY X Y h
   (refine wk0 ?_;(repeat clear hK K);repeat refine kq fun K hK=>?_)
   (refine lst_cons rfl ?_; intro K1 hK1; refine ct [1] (chain7w_fc T hT a (by omega)) ?_ ?_)
   ·rintro _ _ ⟨_, _, ⟨rfl, rfl⟩, _⟩; rfl
   rintro _ _ ⟨a1, X, ⟨rfl, rfl⟩, ha1, hX1, hXn, hXr⟩
   (simp only [aInts, aSets, tape, oLts, aLts, List.append_nil, List.nil_append, List.length_map, go_sem]; refine hK1 _ ?_; clear hK1 K1)
   (refine wks0 ?_;(repeat clear hK K);repeat refine kq fun K hK=>?_)
   have hXn2 : X.length ≤ 1000000 := by omega
   have hXr2 : ∀ r ∈ X, r.length ≤ 1000000 := fun r h => by have := hXr r h; omega
   (refine aw_regionV [1] [(1, 0, 0), (2, 0, 0), (6, 0, 0), (0, 1, 8), (3, 1, 5), (4, 0, 0), (5, 2, 0), (7, 2, 0), (8, 2, 0), (9, 0, 0), (10, 0, 0), (12, 0, 0), (13, 0, 0), (11, 1, 17), (14, 1, 16), (15, 0, 0), (16, 2, 0), (17, 2, 0), (18, 0, 0), (19, 0, 0), (20, 0, 0), (22, 0, 0), (23, 0, 0), (21, 1, 24), (24, 2, 0), (25, 0, 0), (26, 0, 0), (27, 0, 0), (28, 1, 29), (29, 2, 0), (30, 0, 0), (31, 0, 0), (32, 0, 0), (33, 1, 34), (34, 2, 0), (35, 0, 0), (36, 0, 0), (37, 0, 0), (38, 0, 0), (39, 1, 40), (40, 2, 0), (41, 2, 0), (42, 0, 0), (43, 2, 0)] (by kernel_rfl) (by kernel_rfl) (by intro c st h; simp [ThenA, InBl, Ret] at h) ?_)
   (refine vk1 @tRows_len ?_; repeat clear hK K)
   (refine v_2 rfl rfl ?_; intro K1 hK1; refine xw [1] (next_fc T a1 X.length hT (by omega) (by omega)) ?_ ?_)
   ·rintro _ _ ⟨rfl, v, rfl, _⟩; exact born_one rfl
   rintro _ _ ⟨rfl, v1, rfl, hv1⟩
   (simp only [aInts, aSets, tape, List.append_nil, List.nil_append, List.length_map, go_sem]; refine hK1 _ ?_; clear hK1 K1)
   (refine vk0 ?_; repeat clear hK K)
   (refine v_2 rfl rfl ?_; intro K1 hK1; refine xw [1] (event_fc T hT (a1 + 1) (by omega)) ?_ ?_)
   ·rintro _ _ ⟨rfl, v, rfl, _⟩; exact born_one rfl
   rintro _ _ ⟨rfl, e1, rfl, he1⟩
   (simp only [aInts, aSets, tape, List.append_nil, List.nil_append, List.length_map, go_sem]; refine hK1 _ ?_; clear hK1 K1)
   (refine vk0 ?_; repeat clear hK K)
   (refine v_2 rfl rfl ?_; intro K1 hK1; refine stpX_mono ?_; refine xv [] (arrows26_fc X v1 e1 hXn2 hXr2) ?_ ?_)
   ·rintro _ _ ⟨rfl, rfl⟩ i o hi hl; simp at hl
   rintro _ _ ⟨rfl, rfl⟩
   (refine bkz ?_; clear hK1 K1)
   (refine vk1 (an @Bool.not_true @tRows_len) ?_; repeat clear hK K)
   (refine v_2g rfl rfl rfl (by simp only [go_sem] <;> rfl) ?_; intro K1 hK1; refine xw [1] (next_fc T (a1 + 1 + 1) X.length hT (by omega) (by omega)) ?_ ?_)
   ·rintro _ _ ⟨rfl, v, rfl, _⟩; exact born_one rfl
   rintro _ _ ⟨rfl, v2, rfl, hv2⟩
   (simp only [aInts, aSets, tape, List.append_nil, List.nil_append, List.length_map, go_sem]; refine hK1 _ ?_; clear hK1 K1)
   (refine vk0 ?_; repeat clear hK K)
   (refine v_2g rfl rfl rfl (by simp only [go_sem] <;> rfl) ?_; intro K1 hK1; refine stpX_mono ?_; refine xv [] (arrows26_fc X v2 2 hXn2 hXr2) ?_ ?_)
   ·rintro _ _ ⟨rfl, rfl⟩ i o hi hl; simp at hl
   rintro _ _ ⟨rfl, rfl⟩
   (refine bkz ?_; clear hK1 K1)
   (refine vk1 @Bool.not_true ?_; repeat clear hK K)
   (refine v_2g rfl rfl rfl (by simp only [go_sem] <;> rfl) ?_; intro K1 hK1; refine stpX_mono ?_; refine xv [] (arrows26_fc X s e hXn2 hXr2) ?_ ?_)
   ·rintro _ _ ⟨rfl, rfl⟩ i o hi hl; simp at hl
   rintro _ _ ⟨rfl, rfl⟩
   (refine bkz ?_; clear hK1 K1)
   (refine vk1 @Bool.not_true ?_; repeat clear hK K)
   (refine v_2g rfl rfl rfl (by simp only [go_sem] <;> rfl) ?_; intro K1 hK1; refine stpX_mono ?_; refine xv [] (arrows26_fc X 0 (-1) hXn2 hXr2) ?_ ?_)
   ·rintro _ _ ⟨rfl, rfl⟩ i o hi hl; simp at hl
   rintro _ _ ⟨rfl, rfl⟩
   (refine bkz ?_; clear hK1 K1)
   (refine vk1 @Bool.not_true ?_; repeat clear hK K)
   (refine v_2g rfl rfl rfl (by simp only [go_sem] <;> rfl) ?_; intro K1 hK1; refine stpX_mono ?_; refine xv [] (arrows26_fc X 0 1026 hXn2 hXr2) ?_ ?_)
   ·rintro _ _ ⟨rfl, rfl⟩ i o hi hl; simp at hl
   rintro _ _ ⟨rfl, rfl⟩
   (refine bkz ?_; clear hK1 K1)
   (refine vk1 @Bool.not_true ?_; repeat clear hK K)
   (refine v_2g rfl rfl rfl (by simp only [go_sem] <;> rfl) ?_; intro K1 hK1; refine xw [1] (spoil_fc T hT (a1 + 1 + 1 + 1) X (by omega) hX1 hXn hXr) ?_ ?_)
   ·rintro _ _ ⟨_, _, rfl, rfl, _⟩ i o hi hl
    have h0 : i = 0 := by simp at hl; exact hl
    subst h0
    simp at hi
    subst hi
    rfl
   rintro _ _ ⟨a3, Z, rfl, rfl, ha3, hZn, hZr⟩
   (simp only [aInts, aSets, tape, oLts, aLts, List.append_nil, List.nil_append, List.length_map, go_sem]; refine hK1 _ ?_; clear hK1 K1)
   (refine vk0 ?_; repeat clear hK K)
   (refine v_2g rfl rfl rfl (by simp only [go_sem] <;> rfl) ?_; intro K1 hK1; refine stpX_mono ?_; refine xv [] (arrows26_fc Z 0 2 (by omega) (fun r h => by have := hZr r h; omega)) ?_ ?_)
   ·rintro _ _ ⟨rfl, rfl⟩ i o hi hl; simp at hl
   rintro _ _ ⟨rfl, rfl⟩
   (refine bkz ?_; clear hK1 K1)
   (refine vk1 @Bool.not_true ?_; repeat clear hK K)
   (refine v_3 rfl rfl rfl ?_; intro K1 hK1; refine stp_ev rfl ?_; simp only [go_sem, Bool.not_true]; (first | refine hK1 _ ?_ | refine andk (hK1 _ ?_)); clear hK1 K1)
   (refine vk0 ?_; repeat clear hK K)
   (refine wk0 ?_;(repeat clear hK K);repeat refine kq fun K hK=>?_)
   refine cyz ?_
   (refine wk0 ?_;(repeat clear hK K);repeat refine kq fun K hK=>?_)
   refine rnz ?_
   refine hK _ (k + 1, a3) ⟨by simp only; omega, by simp only; omega⟩ (by simp only; omega) ?_
   refine Le.trans (le_pick [0, 1] rfl rfl) ?_
   (try simp only [List.set_nil, List.take_nil, List.take_zero, List.map_append, go_sem])
   exact lmz
  ·clear hX hY X Y
   (refine ekz ?_;repeat clear hK K)
   (refine wk0 ?_;(repeat clear hK K);repeat refine kq fun K hK=>?_)
   (refine ckz (huge_fc R0 hn0 hr0) ?_; intro K1 hK1)
   rintro _ _ ⟨rfl, rfl⟩
   (refine bkz ?_; clear hK1 K1)
   cases hb : hugeB R0 with
   | true =>
    (refine wk0 ?_;(repeat clear hK K);repeat refine kq fun K hK=>?_)
    exact rqc0 Tryz.results5
   | false =>
    have hb2 : R0.length ≤ 12 ∧ totA R0 ≤ 60 := by
     unfold hugeB at hb
     simp only [Bool.or_eq_false_iff, decide_eq_false_iff_not] at hb
     omega
    have hb3 : ∀ r ∈ R0, r.length ≤ 1000000 := fun r h => by
     obtain ⟨j, hj, rfl⟩ := List.getElem_of_mem h
     have h2 := totA_row R0 j
     rw [List.getD_eq_getElem?_getD, List.getElem?_eq_getElem hj, Option.getD_some] at h2
     omega
    (refine wk0 ?_;(repeat clear hK K);repeat refine kq fun K hK=>?_)
    (refine lst_goU rfl rfl (by simp only [go_sem] <;> rfl) ?_; intro K1 hK1; refine (stp_call0 (ids := []) (arrows26_fc R0 s e (by omega) hb3) rfl rfl (by simp only [go_sem]) (by kernel_rfl) (by (simp only [List.append_nil, go_sem]) <;> rfl) ?_).stp)
    rintro _ _ ⟨rfl, rfl⟩
    (refine bkz ?_; clear hK1 K1)
    (refine wk0 ?_;(repeat clear hK K);repeat refine kq fun K hK=>?_)
    (refine lst_goU rfl rfl (by simp only [go_sem] <;> rfl) ?_; intro K1 hK1; refine (stp_call0 (ids := []) (sane26_fc) rfl rfl (by simp only [go_sem]) (by kernel_rfl) (by (simp only [List.append_nil, go_sem]) <;> rfl) ?_).stp)
    rintro _ _ rfl
    (refine bkz ?_; clear hK1 K1)
    (refine wk0 ?_;(repeat clear hK K);repeat refine kq fun K hK=>?_)
    exact rqc0 Tryz.results5
end Go.Proofs.YtglchakimolfdaaGreatDoor
