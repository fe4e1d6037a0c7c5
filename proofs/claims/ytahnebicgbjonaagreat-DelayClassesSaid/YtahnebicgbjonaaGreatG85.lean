/- The law DelayClasses. -/
import Derived.Test.YtahnebicgbjonaaGreatZk
import Derived.Test.YtahnebicgbjonaaGreatOd1
import Derived.Test.YtahnebicgbjonaaGreatG80
import Derived.Test.YtahnebicgbjonaaGreatG36
import Derived.Test.YtahnebicgbjonaaGreatMI
import Derived.Test.YtahnebicgbjonaaGreatG69
namespace Go.Proofs.YtahnebicgbjonaaGreat
set_option linter.unusedVariables false
set_option linter.unusedSimpArgs false
open Go.RowKit
set_option maxRecDepth 100000
attribute [local go_sem] List.set_cons_zero List.set_cons_succ List.map_cons List.map_nil List.take_succ_cons List.take_zero List.drop_zero List.drop_succ_cons C.pl C.one List.all_cons List.all_nil Bool.and_true Nat.mul_one Int.toNat_natCast

set_option maxHeartbeats 1000000 in
theorem rintsN_fc : FC Tryz.prog 11 [.a (.c (.v (.slice none 0 0))), .a (.c (.v (.slice none 0 0)))] [] (fun r o => o = [] ∧ r = .b true) := by
 refine fc_intro Tryz.func11 rfl (by rw [Tryz.ntmps11]; simp) ?_
 rw [Tryz.ntmps11]
 simp only [enum]
 have d0 : (((0 : Nat) : Int) != ((0 : Nat) : Int)) = false := by simp
 (refine wk1 @d0 ?_;(repeat clear hK K);repeat refine kq fun K hK=>?_)
 refine cyz ?_
 (refine wk0 ?_;(repeat clear hK K);repeat refine kq fun K hK=>?_)
 refine aw_loop (fun k : Nat => { tm := [(0, .a (.c (.v (.slice none 0 0)))), (1, .a (.c (.v (.slice none 0 0)))), (5, .i k)], hp := [], n := 26, pin := 0 }) (fun k => k ≤ 0) (fun k => 0 - k) 0 ?_ ?_ ?_
 ·omega
 ·exact lmz
 ·rintro k hk K hK
  have hk0 : k = 0 := by omega
  subst hk0
  (refine wk0 ?_;(repeat clear hK K);repeat refine kq fun K hK=>?_)
  (refine aw_cnd ?_; intro X Y hX hY; simp only [go_sem])
  refine ⟨fun h => absurd h (by simp), fun _ => hY ?_⟩
  clear hX hY X Y
  (refine ekz ?_;repeat clear hK K)
  (refine wk0 ?_;(repeat clear hK K);repeat refine kq fun K hK=>?_)
  exact rpc0 [] Tryz.results11
theorem lts7_fc (T : List Int) (hT : TpOk T) (a0 : Nat) (ha : a0 ≤ 500000) :
  FC Tryz.prog 7 [.a (.c (.p 0 0)), .i 7] [tape T a0] (fun r o => ∃ (a' : Nat) (R : List (List Ar)), (o = [tape T a', oLts R] ∧ r = aLts R) ∧ a' ≤ a0 + 60 ∧ valB R = true ∧ R.length ≤ 7 ∧ totA R ≤ 200 ∧ ∀ r ∈ R, r.length ≤ 1000000) :=
 (lts_fc T hT a0 7 (by omega) (by omega) (by omega)).mono fun r o ⟨a', R, h0, h1, h2, h3, h4, h5⟩ => by
  obtain ⟨q1, q2, q3⟩ := ok_val h5 rfl h3 (by omega) (by omega)
  exact ⟨a', R, ⟨h0, h1⟩, by omega, q1, h4, q2, fun r hr => by have := q3 r hr; omega⟩
theorem calm7_fc (T : List Int) (hT : TpOk T) (a0 : Nat) (ha : a0 ≤ 500000) :
  FC Tryz.prog 8 [.a (.c (.p 0 0)), .i 7] [tape T a0] (fun r o => ∃ (a' : Nat) (R : List (List Ar)), (o = [tape T a', oLts R] ∧ r = aLts R) ∧ a' ≤ a0 + 60 ∧ valB R = true ∧ 1 ≤ R.length ∧ R.length ≤ 7 ∧ totA R ≤ 200 ∧ (∀ r ∈ R, r.length ≤ 10) ∧ OkSys 4 R.length R) :=
 (calm_fc T hT a0 7 (by omega) (by omega) (by omega)).mono fun r o ⟨a', R, h0, h2, h3, h4, h5⟩ => by
  obtain ⟨q1, q2, q3⟩ := ok_val h5 rfl h3 (by omega) (by omega)
  exact ⟨a', R, h0, by omega, q1, h3, h4, q2, q3, h5⟩
set_option maxHeartbeats 8000000 in
theorem lawCls_fc (T : List Int) (hT : TpOk T) (R0 : List (List Ar)) (hn0 : R0.length ≤ 140737488355328) (hr0 : ∀ r ∈ R0, r.length ≤ 140737488355328) : FC Tryz.prog 3 [aInts T, aLts R0] [] (fun r _ => r = .b true) := by
 refine fc_intro Tryz.func3 rfl (by rw [Tryz.ntmps3]; simp) ?_
 rw [Tryz.ntmps3]
 simp only [enum, aInts, aLts]
 (refine wk0 ?_;(repeat clear hK K);repeat refine kq fun K hK=>?_)
 (refine ckz (new_fc T) ?_; intro K1 hK1)
 rintro _ _ ⟨rfl, rfl⟩
 (simp only [aInts, aSets, tape, List.append_nil, List.nil_append, List.length_map, go_sem]; refine hK1 _ ?_; clear hK1 K1)
 (refine wk0 ?_;(repeat clear hK K);repeat refine kq fun K hK=>?_)
 refine aw_loop (fun p : Nat × Nat => { tm := [(3, .a (.c (.p 0 0))), (5, .a (.c (.p 1 0))), (6, .i p.1)], hp := [.r ⟨25, 1, false, [.t 1 (tRows R0)]⟩, .r ⟨43, 2, false, [.t 1 (tInts T), .v (.int .i64 p.2)]⟩], n := 51, pin := 0 }) (fun p => p.1 ≤ 3 ∧ p.2 ≤ 300 * p.1) (fun p => 3 - p.1) (0, 0) ?_ ?_ ?_
 ·exact ⟨by simp, by simp⟩
 ·exact lmz
 ·rintro ⟨k, a⟩ ⟨hk, ha⟩ K hK
  simp only at hk ha ⊢
  (refine wk0 ?_;(repeat clear hK K);repeat refine kq fun K hK=>?_)
  (refine aw_cnd ?_; intro X Y hX hY; simp only [go_sem])
  refine ⟨fun h => hX ?_, fun h => hY ?_⟩
  ·have hlt : k < 3 := by simp at h; omega
   clear hX hY X Y h
   (refine wk0 ?_;(repeat clear hK K);repeat refine kq fun K hK=>?_)
   (refine lst_cons rfl ?_; intro K1 hK1; refine stp_callσ (ids := []) [1] (lts7_fc T hT a (by omega)) rfl rfl (by simp only [go_sem]) (by first | assumption | kernel_rfl) rfl rfl (by (simp only [List.map_append, List.append_nil, go_sem]) <;> rfl) (by (simp only [pkh, tape, go_sem]) <;> rfl) ?_ ?_)
   ·rintro _ _ ⟨_, _, ⟨rfl, rfl⟩, _⟩; rfl
   rintro _ _ ⟨a1, U, ⟨rfl, rfl⟩, ha1, hUv, hUn, hUt, hUr⟩
   (simp only [aInts, aSets, tape, oLts, aLts, List.append_nil, List.nil_append, List.length_map, go_sem]; refine hK1 _ ?_; clear hK1 K1)
   (refine wks0 ?_;(repeat clear hK K);repeat refine kq fun K hK=>?_)
   (refine lst_cons rfl ?_; intro K1 hK1; refine stp_callσ (ids := []) [1] (calm7_fc T hT a1 (by omega)) rfl rfl (by simp only [go_sem]) (by first | assumption | kernel_rfl) rfl rfl (by (simp only [List.map_append, List.append_nil, go_sem]) <;> rfl) (by (simp only [pkh, tape, go_sem]) <;> rfl) ?_ ?_)
   ·rintro _ _ ⟨_, _, ⟨rfl, rfl⟩, _⟩; rfl
   rintro _ _ ⟨a2, V, ⟨rfl, rfl⟩, ha2, hVv, hV1, hVn, hVt, hVr, hVo⟩
   (simp only [aInts, aSets, tape, oLts, aLts, List.append_nil, List.nil_append, List.length_map, go_sem]; refine hK1 _ ?_; clear hK1 K1)
   (refine wks0 ?_;(repeat clear hK K);repeat refine kq fun K hK=>?_)
   refine aw_joinI hK (fun x : Nat × List (List Ar) => { tm := [(3, .a (.c (.p 0 0))), (5, .a (.c (.p 1 0))), (6, .i k), (7, .a (.c (.p 2 0))), (9, .a (.c (.p 3 0)))], hp := [.r ⟨25, 1, false, [.t 1 (tRows R0)]⟩, .r ⟨43, 2, false, [.t 1 (tInts T), .v (.int .i64 x.1)]⟩, .r ⟨25, 1, false, [.t 1 (tRows U)]⟩, .r ⟨25, 1, false, [.t 1 (tRows (bthR V x.2))]⟩], n := 51, pin := 0 }) (fun x => x.1 ≤ a2 + 6 ∧ VarOk V x.2) ?_ ?_
   ·clear hK
    intro hK
    (refine aw_regionZ [5] (.m 0 1 4 (.m 1 0 0 (.m 2 1 3 (.f 3 (.f 4 (.a 5 (.a 6 .e)) 5 (.a 4 (.a 6 .e))) 5 (.a 3 (.a 4 (.a 6 .e))))))) (by kernel_rfl) (by kernel_rfl) (by intro c st h; simp [ThenA, InBl, Ret] at h) ?_)
    (refine zk0 ?_; repeat clear hK K)
    refine z_f ?_ ?_
    ·(refine z_2y rfl rfl rfl ?_; intro K1 hK1; refine stpY_X (σ := [1]) (by first | rfl | simp only [rowsB, List.getD_cons_zero, List.getD_cons_succ, hne, List.isEmpty_cons, Bool.not_false, Bool.true_and, Bool.and_true, Bool.and_self]) rfl rfl rfl rfl ?_; refine stpX_call (ids := []) [1] (variant_fc T hT a2 V (by omega) hV1 (by omega) (fun r h => ⟨hVr r h, fun x hx => (hVo.2 r h).2.2 x hx⟩)) rfl rfl (by simp only [go_sem]) (by kernel_rfl) rfl rfl rfl (by (simp only [go_sem]) <;> rfl) (by (simp only [pkh, tape, go_sem]) <;> rfl) ?_ ?_)
     ·rintro _ _ ⟨_, _, ⟨rfl, rfl⟩, _⟩ i o hi hl
      have h0 : i = 0 := by simp at hl; exact hl
      subst h0
      simp at hi
      subst hi
      rfl
     rintro _ _ ⟨a3, W, ⟨rfl, rfl⟩, ha3, hWl, hWr⟩
     (simp only [aInts, aSets, tape, oLts, aLts, List.append_nil, List.nil_append, List.length_map, go_sem]; refine hK1 _ ?_; clear hK1 K1)
     (refine zk0 ?_; repeat clear hK K)
     refine z_f ?_ ?_
     ·(refine z_2y rfl rfl rfl ?_; intro K1 hK1; refine stpY_X (σ := []) (by first | rfl | simp only [rowsB, List.getD_cons_zero, List.getD_cons_succ, hne, List.isEmpty_cons, Bool.not_false, Bool.true_and, Bool.and_true, Bool.and_self]) rfl rfl rfl rfl ?_; refine stpX_call (ids := []) [] (both_fc V W (by omega) (by omega) (fun r h => by have := (hWr r h).1; omega) (fun r h x hx => by have := (hWr r h).2 x hx; omega)) rfl rfl (by simp only [go_sem]) (by kernel_rfl) rfl rfl rfl (by (simp only [go_sem]) <;> rfl) (by (simp only [pkh, go_sem]) <;> rfl) ?_ ?_)
      ·rintro _ _ ⟨rfl, rfl⟩ i o hi hl; simp at hl
      rintro _ _ ⟨rfl, rfl⟩
      (simp only [aInts, aSets, aLts, List.append_nil, List.nil_append, List.length_map, go_sem]; refine hK1 _ ?_; clear hK1 K1)
      (refine zk0 ?_; repeat clear hK K)
      (refine z_2 rfl rfl ?_; intro K1 hK1; refine stpF_a rfl ?_; simp only [go_sem]; (first | refine hK1 _ ?_ | refine andk (hK1 _ ?_)); clear hK1 K1)
      (refine z_3 rfl rfl rfl rfl ?_; intro K1 hK1; refine stp_ev rfl ?_; simp only [go_sem, ST.put, setC, A0.cells]; (first | refine hK1 _ ?_ | refine andk (hK1 _ ?_)); clear hK1 K1)
      refine z_nil ⟨by simp, by simp, ?_⟩
      (try simp only [ThenA, InBl])
      refine hK _ (a3, W) ⟨ha3, hWl, hWr⟩ ?_
      refine Le.trans (le_pick [0, 1, 3, 8] rfl rfl) ?_
      (try simp only [List.set_nil, List.take_nil, List.take_zero, List.map_append, go_sem])
      exact lmz
     ·(refine z_2 rfl rfl ?_; intro K1 hK1; refine stpF_a rfl ?_; simp only [go_sem]; (first | refine hK1 _ ?_ | refine andk (hK1 _ ?_)); clear hK1 K1)
      (refine z_2y rfl rfl rfl ?_; intro K1 hK1; refine stpY_X (σ := []) (by first | rfl | simp only [rowsB, List.getD_cons_zero, List.getD_cons_succ, hne, List.isEmpty_cons, Bool.not_false, Bool.true_and, Bool.and_true, Bool.and_self]) rfl rfl rfl rfl ?_; refine stpX_call (ids := []) [] (both_fc V W (by omega) (by omega) (fun r h => by have := (hWr r h).1; omega) (fun r h x hx => by have := (hWr r h).2 x hx; omega)) rfl rfl (by simp only [go_sem]) (by kernel_rfl) rfl rfl rfl (by (simp only [go_sem]) <;> rfl) (by (simp only [pkh, go_sem]) <;> rfl) ?_ ?_)
      ·rintro _ _ ⟨rfl, rfl⟩ i o hi hl; simp at hl
      rintro _ _ ⟨rfl, rfl⟩
      (simp only [aInts, aSets, aLts, List.append_nil, List.nil_append, List.length_map, go_sem]; refine hK1 _ ?_; clear hK1 K1)
      (refine zk0 ?_; repeat clear hK K)
      (refine z_3 rfl rfl rfl rfl ?_; intro K1 hK1; refine stp_ev rfl ?_; simp only [go_sem, ST.put, setC, A0.cells]; (first | refine hK1 _ ?_ | refine andk (hK1 _ ?_)); clear hK1 K1)
      refine z_nil ⟨by simp, by simp, ?_⟩
      (try simp only [ThenA, InBl])
      refine hK _ (a3, W) ⟨ha3, hWl, hWr⟩ ?_
      refine Le.trans (le_pick [0, 1, 3, 7] rfl rfl) ?_
      (try simp only [List.set_nil, List.take_nil, List.take_zero, List.map_append, go_sem])
      exact lmz
    ·(refine z_2 rfl rfl ?_; intro K1 hK1; refine stpF_a rfl ?_; simp only [go_sem]; (first | refine hK1 _ ?_ | refine andk (hK1 _ ?_)); clear hK1 K1)
     (refine z_2y rfl rfl rfl ?_; intro K1 hK1; refine stpY_X (σ := [1]) (by first | rfl | simp only [rowsB, List.getD_cons_zero, List.getD_cons_succ, hne, List.isEmpty_cons, Bool.not_false, Bool.true_and, Bool.and_true, Bool.and_self]) rfl rfl rfl rfl ?_; refine stpX_call (ids := []) [1] (variant_fc T hT a2 V (by omega) hV1 (by omega) (fun r h => ⟨hVr r h, fun x hx => (hVo.2 r h).2.2 x hx⟩)) rfl rfl (by simp only [go_sem]) (by kernel_rfl) rfl rfl rfl (by (simp only [go_sem]) <;> rfl) (by (simp only [pkh, tape, go_sem]) <;> rfl) ?_ ?_)
     ·rintro _ _ ⟨_, _, ⟨rfl, rfl⟩, _⟩ i o hi hl
      have h0 : i = 0 := by simp at hl; exact hl
      subst h0
      simp at hi
      subst hi
      rfl
     rintro _ _ ⟨a3, W, ⟨rfl, rfl⟩, ha3, hWl, hWr⟩
     (simp only [aInts, aSets, tape, oLts, aLts, List.append_nil, List.nil_append, List.length_map, go_sem]; refine hK1 _ ?_; clear hK1 K1)
     (refine zk0 ?_; repeat clear hK K)
     (refine z_2y rfl rfl rfl ?_; intro K1 hK1; refine stpY_X (σ := []) (by first | rfl | simp only [rowsB, List.getD_cons_zero, List.getD_cons_succ, hne, List.isEmpty_cons, Bool.not_false, Bool.true_and, Bool.and_true, Bool.and_self]) rfl rfl rfl rfl ?_; refine stpX_call (ids := []) [] (both_fc V W (by omega) (by omega) (fun r h => by have := (hWr r h).1; omega) (fun r h x hx => by have := (hWr r h).2 x hx; omega)) rfl rfl (by simp only [go_sem]) (by kernel_rfl) rfl rfl rfl (by (simp only [go_sem]) <;> rfl) (by (simp only [pkh, go_sem]) <;> rfl) ?_ ?_)
     ·rintro _ _ ⟨rfl, rfl⟩ i o hi hl; simp at hl
     rintro _ _ ⟨rfl, rfl⟩
     (simp only [aInts, aSets, aLts, List.append_nil, List.nil_append, List.length_map, go_sem]; refine hK1 _ ?_; clear hK1 K1)
     (refine zk0 ?_; repeat clear hK K)
     (refine z_3 rfl rfl rfl rfl ?_; intro K1 hK1; refine stp_ev rfl ?_; simp only [go_sem, ST.put, setC, A0.cells]; (first | refine hK1 _ ?_ | refine andk (hK1 _ ?_)); clear hK1 K1)
     refine z_nil ⟨by simp, by simp, ?_⟩
     (try simp only [ThenA, InBl])
     refine hK _ (a3, W) ⟨ha3, hWl, hWr⟩ ?_
     refine Le.trans (le_pick [0, 1, 3, 6] rfl rfl) ?_
     (try simp only [List.set_nil, List.take_nil, List.take_zero, List.map_append, go_sem])
     exact lmz
   clear hK K
   rintro ⟨a3, W⟩ ⟨ha3, hWl, hWr⟩
   simp only at ha3 hWl hWr ⊢
   (refine wk0 ?_;(repeat clear hK K);repeat refine kq fun K hK=>?_)
   have hVt := totA_mul3 hVr
   have hWt := totA_mul3 (fun r h => (hWr r h).1)
   have hZr : ∀ r ∈ bthR V W, r.length ≤ 1000000 := bth_row (fun r h => by have := hVr r h; omega) (fun r h => by have := (hWr r h).1; omega)
   have hZn : (bthR V W).length ≤ 14 := by rw [bthR_len]; omega
   have hZt : totA (bthR V W) ≤ 1000 := by rw [totA_bth]; omega
   generalize bthR V W = Z at *
   cases hz : valB Z with
   | true =>
    (refine aw_regionV [] [(0, 1, 1), (2, 1, 3), (1, 2, 0), (3, 2, 0), (4, 2, 0), (5, 0, 0), (6, 0, 0), (7, 1, 8), (9, 1, 10), (8, 2, 0), (10, 2, 0), (11, 2, 0), (12, 0, 0), (13, 2, 0)] (by kernel_rfl) (by kernel_rfl) (by intro c st h; simp [ThenA, InBl, Ret] at h) ?_)
    (refine vk0 ?_; repeat clear hK K)
    (refine v_2 rfl rfl ?_; intro K1 hK1; refine stpX_mono ?_; refine stpX_call (ids := []) [] (dcl_fc U hUv (by omega) (by omega) hUr) rfl rfl (by simp only [go_sem]) (by kernel_rfl) rfl rfl rfl (by (simp only [List.map_append, List.append_nil, go_sem]) <;> rfl) (by (simp only [pkh, go_sem]) <;> rfl) ?_ ?_)
    ·rintro _ _ ⟨_, _, _, rfl, rfl⟩ i o hi hl; simp at hl
    rintro _ _ ⟨cx, hcx, hNx, rfl, rfl⟩
    (refine bkz ?_; clear hK1 K1)
    (refine vk0 ?_; repeat clear hK K)
    (refine v_2 rfl rfl ?_; intro K1 hK1; refine stpX_mono ?_; refine stpX_call (ids := []) [] (rdl_fc U hUv (by omega) hUr) rfl rfl (by simp only [go_sem]) (by kernel_rfl) rfl rfl rfl (by (simp only [List.map_append, List.append_nil, go_sem]) <;> rfl) (by (simp only [pkh, go_sem]) <;> rfl) ?_ ?_)
    ·rintro _ _ ⟨_, _, _, rfl, rfl⟩ i o hi hl; simp at hl
    rintro _ _ ⟨dx, hdx, hMx, rfl, rfl⟩
    obtain rfl := DlC.uniq hcx hdx
    have hlx := hNx.len
    (refine bkz ?_; clear hK1 K1)
    (refine vk0 ?_; repeat clear hK K)
    (refine v_2 rfl rfl ?_; intro K1 hK1; refine stpX_mono ?_; refine stpX_call (ids := []) [] (rints_fc cx cx (by omega) (by omega)) rfl rfl (by simp only [go_sem]) (by kernel_rfl) rfl rfl rfl (by (simp only [List.map_append, List.append_nil, go_sem]) <;> rfl) (by (simp only [pkh, go_sem]) <;> rfl) ?_ ?_)
    ·rintro _ _ ⟨rfl, rfl⟩ i o hi hl; simp at hl
    rintro _ _ ⟨rfl, rfl⟩
    clear hcx hdx hNx hMx
    (refine bkz ?_; clear hK1 K1)
    (try simp only [eq_self, decide_true])
    (refine vk1 @Bool.not_true ?_; repeat clear hK K)
    (refine v_2g rfl rfl rfl (by simp only [go_sem] <;> rfl) ?_; intro K1 hK1; refine stpX_mono ?_; refine stpX_call (ids := []) [] (dcl_fc Z hz (by omega) (by omega) hZr) rfl rfl (by simp only [go_sem]) (by kernel_rfl) rfl rfl rfl (by (simp only [List.map_append, List.append_nil, go_sem]) <;> rfl) (by (simp only [pkh, go_sem]) <;> rfl) ?_ ?_)
    ·rintro _ _ ⟨_, _, _, rfl, rfl⟩ i o hi hl; simp at hl
    rintro _ _ ⟨cx, hcx, hNx, rfl, rfl⟩
    (refine bkz ?_; clear hK1 K1)
    (refine vk0 ?_; repeat clear hK K)
    (refine v_2g rfl rfl rfl (by simp only [go_sem] <;> rfl) ?_; intro K1 hK1; refine stpX_mono ?_; refine stpX_call (ids := []) [] (rdl_fc Z hz (by omega) hZr) rfl rfl (by simp only [go_sem]) (by kernel_rfl) rfl rfl rfl (by (simp only [List.map_append, List.append_nil, go_sem]) <;> rfl) (by (simp only [pkh, go_sem]) <;> rfl) ?_ ?_)
    ·rintro _ _ ⟨_, _, _, rfl, rfl⟩ i o hi hl; simp at hl
    rintro _ _ ⟨dx, hdx, hMx, rfl, rfl⟩
    obtain rfl := DlC.uniq hcx hdx
    have hlx := hNx.len
    (refine bkz ?_; clear hK1 K1)
    (refine vk0 ?_; repeat clear hK K)
    (refine v_2g rfl rfl rfl (by simp only [go_sem] <;> rfl) ?_; intro K1 hK1; refine stpX_mono ?_; refine stpX_call (ids := []) [] (rints_fc cx cx (by omega) (by omega)) rfl rfl (by simp only [go_sem]) (by kernel_rfl) rfl rfl rfl (by (simp only [List.map_append, List.append_nil, go_sem]) <;> rfl) (by (simp only [pkh, go_sem]) <;> rfl) ?_ ?_)
    ·rintro _ _ ⟨rfl, rfl⟩ i o hi hl; simp at hl
    rintro _ _ ⟨rfl, rfl⟩
    clear hcx hdx hNx hMx
    (refine bkz ?_; clear hK1 K1)
    (try simp only [eq_self, decide_true])
    (refine vk1 @Bool.not_true ?_; repeat clear hK K)
    (refine v_3 rfl rfl rfl ?_; intro K1 hK1; refine stp_ev rfl ?_; simp only [go_sem, Bool.not_true]; (first | refine hK1 _ ?_ | refine andk (hK1 _ ?_)); clear hK1 K1)
    (refine vk0 ?_; repeat clear hK K)
    (refine wk0 ?_;(repeat clear hK K);repeat refine kq fun K hK=>?_)
    refine cyz ?_
    (refine wk0 ?_;(repeat clear hK K);repeat refine kq fun K hK=>?_)
    refine rnz ?_
    refine hK _ (k + 1, a3) ⟨by simp only; omega, by simp only; omega⟩ (by simp only; omega) ?_
    refine Le.trans (le_pick [0, 1] rfl rfl) ?_
    (try simp only [List.set_nil, List.take_nil, List.take_zero, List.map_append, go_sem])
    exact lmz
   | false =>
    (refine aw_regionV [] [(0, 1, 1), (2, 1, 3), (1, 2, 0), (3, 2, 0), (4, 2, 0), (5, 0, 0), (6, 0, 0), (7, 1, 8), (9, 1, 10), (8, 2, 0), (10, 2, 0), (11, 2, 0), (12, 0, 0), (13, 2, 0)] (by kernel_rfl) (by kernel_rfl) (by intro c st h; simp [ThenA, InBl, Ret] at h) ?_)
    (refine vk0 ?_; repeat clear hK K)
    (refine v_2 rfl rfl ?_; intro K1 hK1; refine stpX_mono ?_; refine stpX_call (ids := []) [] (dcl_fc U hUv (by omega) (by omega) hUr) rfl rfl (by simp only [go_sem]) (by kernel_rfl) rfl rfl rfl (by (simp only [List.map_append, List.append_nil, go_sem]) <;> rfl) (by (simp only [pkh, go_sem]) <;> rfl) ?_ ?_)
    ·rintro _ _ ⟨_, _, _, rfl, rfl⟩ i o hi hl; simp at hl
    rintro _ _ ⟨cx, hcx, hNx, rfl, rfl⟩
    (refine bkz ?_; clear hK1 K1)
    (refine vk0 ?_; repeat clear hK K)
    (refine v_2 rfl rfl ?_; intro K1 hK1; refine stpX_mono ?_; refine stpX_call (ids := []) [] (rdl_fc U hUv (by omega) hUr) rfl rfl (by simp only [go_sem]) (by kernel_rfl) rfl rfl rfl (by (simp only [List.map_append, List.append_nil, go_sem]) <;> rfl) (by (simp only [pkh, go_sem]) <;> rfl) ?_ ?_)
    ·rintro _ _ ⟨_, _, _, rfl, rfl⟩ i o hi hl; simp at hl
    rintro _ _ ⟨dx, hdx, hMx, rfl, rfl⟩
    obtain rfl := DlC.uniq hcx hdx
    have hlx := hNx.len
    (refine bkz ?_; clear hK1 K1)
    (refine vk0 ?_; repeat clear hK K)
    (refine v_2 rfl rfl ?_; intro K1 hK1; refine stpX_mono ?_; refine stpX_call (ids := []) [] (rints_fc cx cx (by omega) (by omega)) rfl rfl (by simp only [go_sem]) (by kernel_rfl) rfl rfl rfl (by (simp only [List.map_append, List.append_nil, go_sem]) <;> rfl) (by (simp only [pkh, go_sem]) <;> rfl) ?_ ?_)
    ·rintro _ _ ⟨rfl, rfl⟩ i o hi hl; simp at hl
    rintro _ _ ⟨rfl, rfl⟩
    clear hcx hdx hNx hMx
    (refine bkz ?_; clear hK1 K1)
    (try simp only [eq_self, decide_true])
    (refine vk1 @Bool.not_true ?_; repeat clear hK K)
    (refine v_2g rfl rfl rfl (by simp only [go_sem] <;> rfl) ?_; intro K1 hK1; refine stpX_mono ?_; refine stpX_call (ids := []) [] (dcl_no Z hz (by omega) hZr) rfl rfl (by simp only [go_sem]) (by kernel_rfl) rfl rfl rfl (by (simp only [List.map_append, List.append_nil, go_sem]) <;> rfl) (by (simp only [pkh, go_sem]) <;> rfl) ?_ ?_)
    ·rintro _ _ ⟨rfl, rfl⟩ i o hi hl; simp at hl
    rintro _ _ ⟨rfl, rfl⟩
    (refine bkz ?_; clear hK1 K1)
    (refine vk0 ?_; repeat clear hK K)
    (refine v_2g rfl rfl rfl (by simp only [go_sem] <;> rfl) ?_; intro K1 hK1; refine stpX_mono ?_; refine stpX_call (ids := []) [] (rdl_no Z hz (by omega) (fun r h => Nat.le_trans (hZr r h) (by omega))) rfl rfl (by simp only [go_sem]) (by kernel_rfl) rfl rfl rfl (by (simp only [List.map_append, List.append_nil, go_sem]) <;> rfl) (by (simp only [pkh, go_sem]) <;> rfl) ?_ ?_)
    ·rintro _ _ ⟨rfl, rfl⟩ i o hi hl; simp at hl
    rintro _ _ ⟨rfl, rfl⟩
    (refine bkz ?_; clear hK1 K1)
    (refine vk0 ?_; repeat clear hK K)
    (refine v_2g rfl rfl rfl (by simp only [go_sem] <;> rfl) ?_; intro K1 hK1; refine stpX_mono ?_; refine stpX_call (ids := []) [] (rintsN_fc) rfl rfl (by simp only [go_sem]) (by kernel_rfl) rfl rfl rfl (by (simp only [List.map_append, List.append_nil, go_sem]) <;> rfl) (by (simp only [pkh, go_sem]) <;> rfl) ?_ ?_)
    ·rintro _ _ ⟨rfl, rfl⟩ i o hi hl; simp at hl
    rintro _ _ ⟨rfl, rfl⟩
    (refine bkz ?_; clear hK1 K1)
    (refine vk1 @Bool.not_true ?_; repeat clear hK K)
    (refine v_3 rfl rfl rfl ?_; intro K1 hK1; refine stp_ev rfl ?_; simp only [go_sem, Bool.not_true]; (first | refine hK1 _ ?_ | refine andk (hK1 _ ?_)); clear hK1 K1)
    (refine vk0 ?_; repeat clear hK K)
    (refine wk0 ?_;(repeat clear hK K);repeat refine kq fun K hK=>?_)
    refine cyz ?_
    (refine wk0 ?_;(repeat clear hK K);repeat refine kq fun K hK=>?_)
    refine rnz ?_
    refine hK _ (k + 1, a3) ⟨by simp only; omega, by simp only; omega⟩ (by simp only; omega) ?_
    refine Le.trans (le_pick [0, 1] rfl rfl) ?_
    (try simp only [List.set_nil, List.take_nil, List.take_zero, List.map_append, go_sem])
    exact lmz
  ·clear hX hY X Y
   (refine ekz ?_;repeat clear hK K)
   (refine wk0 ?_;(repeat clear hK K);repeat refine kq fun K hK=>?_)
   (refine aw_regionV [] [(0, 1, 1), (1, 2, 0), (2, 0, 0), (3, 1, 4), (5, 1, 6), (4, 2, 0), (6, 2, 0), (7, 2, 0), (8, 0, 0), (9, 2, 0), (10, 0, 0), (11, 0, 0), (12, 2, 0)] (by kernel_rfl) (by kernel_rfl) (by intro c st h; simp [ThenA, InBl, Ret] at h) ?_)
   (refine vk0 ?_; repeat clear hK K)
   (refine v_2 rfl rfl ?_; intro K1 hK1; refine stpX_mono ?_; refine stpX_call (ids := []) [] (huge_fc R0 hn0 hr0) rfl rfl (by simp only [go_sem]) (by kernel_rfl) rfl rfl rfl (by (simp only [List.map_append, List.append_nil, go_sem]) <;> rfl) (by (simp only [pkh, go_sem]) <;> rfl) ?_ ?_)
   ·rintro _ _ ⟨rfl, rfl⟩ i o hi hl; simp at hl
   rintro _ _ ⟨rfl, rfl⟩
   (refine bkz ?_; clear hK1 K1)
   cases hb : hugeB R0 with
   | true =>
    (refine vk0 ?_; repeat clear hK K)
    (refine v_3 rfl rfl rfl ?_; intro K1 hK1; refine stp_ev rfl ?_; simp only [go_sem]; (first | refine hK1 _ ?_ | refine andk (hK1 _ ?_)); clear hK1 K1)
    (refine vk0 ?_; repeat clear hK K)
    (refine wk0 ?_;(repeat clear hK K);repeat refine kq fun K hK=>?_)
    exact rqc0 Tryz.results3
   | false =>
    have hb2 : R0.length ≤ 12 ∧ totA R0 ≤ 60 := by
     unfold hugeB at hb
     simp only [Bool.or_eq_false_iff, decide_eq_false_iff_not] at hb
     omega
    have hR6 : ∀ r ∈ R0, r.length ≤ 1000000 := fun r h => by have := row_tot3 r h; omega
    cases hz : valB R0 with
    | true =>
     (refine vk0 ?_; repeat clear hK K)
     (refine v_2g rfl rfl rfl (by simp only [go_sem] <;> rfl) ?_; intro K1 hK1; refine stpX_mono ?_; refine stpX_call (ids := []) [] (dcl_fc R0 hz (by omega) (by omega) hR6) rfl rfl (by simp only [go_sem]) (by kernel_rfl) rfl rfl rfl (by (simp only [List.map_append, List.append_nil, go_sem]) <;> rfl) (by (simp only [pkh, go_sem]) <;> rfl) ?_ ?_)
     ·rintro _ _ ⟨_, _, _, rfl, rfl⟩ i o hi hl; simp at hl
     rintro _ _ ⟨cx, hcx, hNx, rfl, rfl⟩
     (refine bkz ?_; clear hK1 K1)
     (refine vk0 ?_; repeat clear hK K)
     (refine v_2g rfl rfl rfl (by simp only [go_sem] <;> rfl) ?_; intro K1 hK1; refine stpX_mono ?_; refine stpX_call (ids := []) [] (rdl_fc R0 hz (by omega) hR6) rfl rfl (by simp only [go_sem]) (by kernel_rfl) rfl rfl rfl (by (simp only [List.map_append, List.append_nil, go_sem]) <;> rfl) (by (simp only [pkh, go_sem]) <;> rfl) ?_ ?_)
     ·rintro _ _ ⟨_, _, _, rfl, rfl⟩ i o hi hl; simp at hl
     rintro _ _ ⟨dx, hdx, hMx, rfl, rfl⟩
     obtain rfl := DlC.uniq hcx hdx
     have hlx := hNx.len
     (refine bkz ?_; clear hK1 K1)
     (refine vk0 ?_; repeat clear hK K)
     (refine v_2g rfl rfl rfl (by simp only [go_sem] <;> rfl) ?_; intro K1 hK1; refine stpX_mono ?_; refine stpX_call (ids := []) [] (rints_fc cx cx (by omega) (by omega)) rfl rfl (by simp only [go_sem]) (by kernel_rfl) rfl rfl rfl (by (simp only [List.map_append, List.append_nil, go_sem]) <;> rfl) (by (simp only [pkh, go_sem]) <;> rfl) ?_ ?_)
     ·rintro _ _ ⟨rfl, rfl⟩ i o hi hl; simp at hl
     rintro _ _ ⟨rfl, rfl⟩
     clear hcx hdx hNx hMx
     (refine bkz ?_; clear hK1 K1)
     (try simp only [eq_self, decide_true])
     (refine vk0 ?_; repeat clear hK K)
     (refine v_2g rfl rfl rfl (by simp only [go_sem] <;> rfl) ?_; intro K1 hK1; refine stpX_mono ?_; refine stpX_call (ids := []) [] (sane27d_fc) rfl rfl (by simp only [go_sem]) (by kernel_rfl) rfl rfl rfl (by (simp only [List.map_append, List.append_nil, go_sem]) <;> rfl) (by (simp only [pkh, go_sem]) <;> rfl) ?_ ?_)
     ·rintro _ _ rfl i o hi hl; simp at hl
     rintro _ _ rfl
     (refine bkz ?_; clear hK1 K1)
     (refine vk0 ?_; repeat clear hK K)
     (refine v_3 rfl rfl rfl ?_; intro K1 hK1; refine stp_ev rfl ?_; simp only [go_sem]; (first | refine hK1 _ ?_ | refine andk (hK1 _ ?_)); clear hK1 K1)
     (refine vk0 ?_; repeat clear hK K)
     (refine wk0 ?_;(repeat clear hK K);repeat refine kq fun K hK=>?_)
     exact rqc0 Tryz.results3
    | false =>
     (refine vk0 ?_; repeat clear hK K)
     (refine v_2g rfl rfl rfl (by simp only [go_sem] <;> rfl) ?_; intro K1 hK1; refine stpX_mono ?_; refine stpX_call (ids := []) [] (dcl_no R0 hz (by omega) hR6) rfl rfl (by simp only [go_sem]) (by kernel_rfl) rfl rfl rfl (by (simp only [List.map_append, List.append_nil, go_sem]) <;> rfl) (by (simp only [pkh, go_sem]) <;> rfl) ?_ ?_)
     ·rintro _ _ ⟨rfl, rfl⟩ i o hi hl; simp at hl
     rintro _ _ ⟨rfl, rfl⟩
     (refine bkz ?_; clear hK1 K1)
     (refine vk0 ?_; repeat clear hK K)
     (refine v_2g rfl rfl rfl (by simp only [go_sem] <;> rfl) ?_; intro K1 hK1; refine stpX_mono ?_; refine stpX_call (ids := []) [] (rdl_no R0 hz (by omega) (fun r h => Nat.le_trans (hR6 r h) (by omega))) rfl rfl (by simp only [go_sem]) (by kernel_rfl) rfl rfl rfl (by (simp only [List.map_append, List.append_nil, go_sem]) <;> rfl) (by (simp only [pkh, go_sem]) <;> rfl) ?_ ?_)
     ·rintro _ _ ⟨rfl, rfl⟩ i o hi hl; simp at hl
     rintro _ _ ⟨rfl, rfl⟩
     (refine bkz ?_; clear hK1 K1)
     (refine vk0 ?_; repeat clear hK K)
     (refine v_2g rfl rfl rfl (by simp only [go_sem] <;> rfl) ?_; intro K1 hK1; refine stpX_mono ?_; refine stpX_call (ids := []) [] (rintsN_fc) rfl rfl (by simp only [go_sem]) (by kernel_rfl) rfl rfl rfl (by (simp only [List.map_append, List.append_nil, go_sem]) <;> rfl) (by (simp only [pkh, go_sem]) <;> rfl) ?_ ?_)
     ·rintro _ _ ⟨rfl, rfl⟩ i o hi hl; simp at hl
     rintro _ _ ⟨rfl, rfl⟩
     (refine bkz ?_; clear hK1 K1)
     (refine vk0 ?_; repeat clear hK K)
     (refine v_2g rfl rfl rfl (by simp only [go_sem] <;> rfl) ?_; intro K1 hK1; refine stpX_mono ?_; refine stpX_call (ids := []) [] (sane27d_fc) rfl rfl (by simp only [go_sem]) (by kernel_rfl) rfl rfl rfl (by (simp only [List.map_append, List.append_nil, go_sem]) <;> rfl) (by (simp only [pkh, go_sem]) <;> rfl) ?_ ?_)
     ·rintro _ _ rfl i o hi hl; simp at hl
     rintro _ _ rfl
     (refine bkz ?_; clear hK1 K1)
     (refine vk0 ?_; repeat clear hK K)
     (refine v_3 rfl rfl rfl ?_; intro K1 hK1; refine stp_ev rfl ?_; simp only [go_sem]; (first | refine hK1 _ ?_ | refine andk (hK1 _ ?_)); clear hK1 K1)
     (refine vk0 ?_; repeat clear hK K)
     (refine wk0 ?_;(repeat clear hK K);repeat refine kq fun K hK=>?_)
     exact rqc0 Tryz.results3
end Go.Proofs.YtahnebicgbjonaaGreat
