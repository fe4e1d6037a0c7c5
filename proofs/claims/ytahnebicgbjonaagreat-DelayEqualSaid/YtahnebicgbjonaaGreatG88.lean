/- The law DelayEqual. -/
import Derived.Test.YtahnebicgbjonaaGreatZk
import Derived.Test.YtahnebicgbjonaaGreatOd1
import Derived.Test.YtahnebicgbjonaaGreatMI
import Derived.Test.YtahnebicgbjonaaGreatG84
import Derived.Test.YtahnebicgbjonaaGreatG69
namespace Go.Proofs.YtahnebicgbjonaaGreat
set_option linter.unusedVariables false
set_option linter.unusedSimpArgs false
open Go.RowKit
set_option maxRecDepth 100000
attribute [local go_sem] List.set_cons_zero List.set_cons_succ List.map_cons List.map_nil List.take_succ_cons List.take_zero List.drop_zero List.drop_succ_cons C.pl C.one List.all_cons List.all_nil Bool.and_true Nat.mul_one Int.toNat_natCast

theorem calm6_fc (T : List Int) (hT : TpOk T) (a0 : Nat) (ha : a0 ≤ 500000) :
  FC Tryz.prog 8 [.a (.c (.p 0 0)), .i 6] [tape T a0] (fun r o => ∃ (a' : Nat) (R : List (List Ar)), (o = [tape T a', oLts R] ∧ r = aLts R) ∧ a' ≤ a0 + 60 ∧ 1 ≤ R.length ∧ R.length ≤ 6 ∧ totA R ≤ 60 ∧ (∀ r ∈ R, r.length ≤ 10) ∧ OkSys 4 R.length R) :=
 (calm_fc T hT a0 6 (by omega) (by omega) (by omega)).mono fun r o ⟨a', R, h0, h2, h3, h4, h5⟩ => by
  obtain ⟨q1, q2, q3⟩ := ok_val h5 rfl h3 (by omega) (by omega)
  have := totA_mul3 q3
  exact ⟨a', R, h0, by omega, h3, h4, by omega, q3, h5⟩
theorem hugeB_no {R : List (List Ar)} (h : hugeB R = false) : R.length ≤ 12 ∧ totA R ≤ 60 := by
 unfold hugeB at h
 simp only [Bool.or_eq_false_iff, decide_eq_false_iff_not] at h
 omega
set_option maxHeartbeats 8000000 in
theorem lawEqu_fc (T : List Int) (hT : TpOk T) (L1 L2 : List (List Ar)) (hn0 : L1.length ≤ 140737488355328) (hr0 : ∀ r ∈ L1, r.length ≤ 140737488355328) (hn1 : L2.length ≤ 140737488355328) (hr1 : ∀ r ∈ L2, r.length ≤ 140737488355328) : FC Tryz.prog 5 [aInts T, aLts L1, aLts L2] [] (fun r _ => r = .b true) := by
 refine fc_intro Tryz.func5 rfl (by rw [Tryz.ntmps5]; simp) ?_
 rw [Tryz.ntmps5]
 simp only [enum, aInts, aLts]
 (refine wk0 ?_;(repeat clear hK K);repeat refine kq fun K hK=>?_)
 (refine ckz (new_fc T) ?_; intro K1 hK1)
 rintro _ _ ⟨rfl, rfl⟩
 (simp only [aInts, aSets, tape, List.append_nil, List.nil_append, List.length_map, go_sem]; refine hK1 _ ?_; clear hK1 K1)
 (refine wk0 ?_;(repeat clear hK K);repeat refine kq fun K hK=>?_)
 refine aw_loop (fun p : Nat × Nat => { tm := [(4, .a (.c (.p 0 0))), (5, .a (.c (.p 1 0))), (7, .a (.c (.p 2 0))), (8, .i p.1)], hp := [.r ⟨25, 1, false, [.t 1 (tRows L1)]⟩, .r ⟨25, 1, false, [.t 1 (tRows L2)]⟩, .r ⟨43, 2, false, [.t 1 (tInts T), .v (.int .i64 p.2)]⟩], n := 60, pin := 0 }) (fun p => p.1 ≤ 3 ∧ p.2 ≤ 300 * p.1) (fun p => 3 - p.1) (0, 0) ?_ ?_ ?_
 ·exact ⟨by simp, by simp⟩
 ·exact lmz
 ·rintro ⟨k, a⟩ ⟨hk, ha⟩ K hK
  simp only at hk ha ⊢
  (refine wk0 ?_;(repeat clear hK K);repeat refine kq fun K hK=>?_)
  (refine aw_cnd ?_; intro X Y hX hY; simp only [go_sem])
  refine ⟨fun h => hX ?_, fun h => hY ?_⟩
  ·have hlt : k < 3 := by simp at h; omega
   clear hX hY X Y h
   (refine wk0 ?_;(repeat clear hK K);repeat refine kq fun K hK=>?_)
   (refine lst_cons rfl ?_; intro K1 hK1; refine ct [2] (calm6_fc T hT a (by omega)) ?_ ?_)
   ·rintro _ _ ⟨_, _, ⟨rfl, rfl⟩, _⟩; rfl
   rintro _ _ ⟨a1, U, ⟨rfl, rfl⟩, ha1, hU1, hUn, hUt, hUr, hUo⟩
   (simp only [aInts, aSets, tape, oLts, aLts, List.append_nil, List.nil_append, List.length_map, go_sem]; refine hK1 _ ?_; clear hK1 K1)
   (refine wks0 ?_;(repeat clear hK K);repeat refine kq fun K hK=>?_)
   (refine lst_cons rfl ?_; intro K1 hK1; refine ct [2] (variant_fc T hT a1 U (by omega) hU1 (by omega) (fun r h => ⟨hUr r h, fun x hx => (hUo.2 r h).2.2 x hx⟩)) ?_ ?_)
   ·rintro _ _ ⟨_, _, ⟨rfl, rfl⟩, _⟩; rfl
   rintro _ _ ⟨a2, V, ⟨rfl, rfl⟩, ha2, hVl, hVr⟩
   (simp only [aInts, aSets, tape, oLts, aLts, List.append_nil, List.nil_append, List.length_map, go_sem]; refine hK1 _ ?_; clear hK1 K1)
   (refine wks0 ?_;(repeat clear hK K);repeat refine kq fun K hK=>?_)
   (refine lst_cons rfl ?_; intro K1 hK1; refine ct [2] (spoilB_fc 11 (by omega) T hT a2 V (by omega) (by omega) (by omega) (fun r h => (hVr r h).1)) ?_ ?_)
   ·rintro _ _ ⟨_, _, rfl, rfl, _⟩; rfl
   rintro _ _ ⟨a3, W, rfl, rfl, ha3, hWn, hWr⟩
   (simp only [aInts, aSets, tape, oLts, aLts, List.append_nil, List.nil_append, List.length_map, go_sem]; refine hK1 _ ?_; clear hK1 K1)
   (refine wks0 ?_;(repeat clear hK K);repeat refine kq fun K hK=>?_)
   have hVt := totA_mul3 (fun r h => (hVr r h).1)
   have hWt := totA_mul3 hWr
   have hU6 : ∀ r ∈ U, r.length ≤ 1000000 := fun r h => by have := hUr r h; omega
   have hV6 : ∀ r ∈ V, r.length ≤ 1000000 := fun r h => by have := (hVr r h).1; omega
   have hW6 : ∀ r ∈ W, r.length ≤ 1000000 := fun r h => by have := hWr r h; omega
   (refine aw_regionV [] [(0, 1, 2), (1, 1, 2), (3, 1, 5), (4, 1, 5), (2, 2, 0), (5, 2, 0), (6, 2, 0), (7, 0, 0), (8, 1, 10), (9, 1, 10), (11, 1, 13), (12, 1, 13), (10, 2, 0), (13, 2, 0), (14, 2, 0), (15, 2, 0)] (by kernel_rfl) (by kernel_rfl) (by intro c st h; simp [ThenA, InBl, Ret] at h) ?_)
   (refine vk0 ?_; repeat clear hK K)
   (refine v_2 rfl rfl ?_; intro K1 hK1; refine stpX_mono ?_; refine xv [] (deqA_fc U V (by omega) (by omega) (by assumption) (by assumption)) ?_ ?_)
   ·rintro _ _ ⟨rfl, rfl⟩ i o hi hl; simp at hl
   rintro _ _ ⟨rfl, rfl⟩
   (refine bkz ?_; clear hK1 K1)
   (refine vk0 ?_; repeat clear hK K)
   (refine v_2 rfl rfl ?_; intro K1 hK1; refine stpX_mono ?_; refine xv [] (seqA_fc U V (by omega) (by omega) (by assumption) (by assumption)) ?_ ?_)
   ·rintro _ _ ⟨rfl, rfl⟩ i o hi hl; simp at hl
   rintro _ _ ⟨rfl, rfl⟩
   (refine bkz ?_; clear hK1 K1)
   (refine vk0 ?_; repeat clear hK K)
   (refine v_3 rfl rfl rfl ?_; intro K1 hK1; refine stp_bne (a := EqD U V) (b := EqD U V) Tryz.underlying4 rfl rfl (by simp only [go_sem]) (by simp only [go_sem]) ?_; simp only [go_sem, beq_self_eq_true, Bool.not_true]; refine hK1 _ ?_; clear hK1 K1)
   (refine vk0 ?_; repeat clear hK K)
   (refine v_2g rfl rfl rfl (by simp only [go_sem] <;> rfl) ?_; intro K1 hK1; refine stpX_mono ?_; refine xv [] (deqA_fc U W (by omega) (by omega) (by assumption) (by assumption)) ?_ ?_)
   ·rintro _ _ ⟨rfl, rfl⟩ i o hi hl; simp at hl
   rintro _ _ ⟨rfl, rfl⟩
   (refine bkz ?_; clear hK1 K1)
   (refine vk0 ?_; repeat clear hK K)
   (refine v_2g rfl rfl rfl (by simp only [go_sem] <;> rfl) ?_; intro K1 hK1; refine stpX_mono ?_; refine xv [] (seqA_fc U W (by omega) (by omega) (by assumption) (by assumption)) ?_ ?_)
   ·rintro _ _ ⟨rfl, rfl⟩ i o hi hl; simp at hl
   rintro _ _ ⟨rfl, rfl⟩
   (refine bkz ?_; clear hK1 K1)
   (refine vk0 ?_; repeat clear hK K)
   (refine v_3g rfl rfl rfl (by simp only [go_sem] <;> rfl) rfl ?_; intro K1 hK1; refine stp_bne (a := EqD U W) (b := EqD U W) Tryz.underlying4 rfl rfl (by simp only [go_sem]) (by simp only [go_sem]) ?_; simp only [go_sem, beq_self_eq_true, Bool.not_true]; refine hK1 _ ?_; clear hK1 K1)
   (refine vk0 ?_; repeat clear hK K)
   (refine v_3 rfl rfl rfl ?_; intro K1 hK1; refine stp_ev rfl ?_; simp only [go_sem, Bool.not_true]; (first | refine hK1 _ ?_ | refine andk (hK1 _ ?_)); clear hK1 K1)
   (refine vk0 ?_; repeat clear hK K)
   (refine wk0 ?_;(repeat clear hK K);repeat refine kq fun K hK=>?_)
   refine cyz ?_
   (refine wk0 ?_;(repeat clear hK K);repeat refine kq fun K hK=>?_)
   refine rnz ?_
   refine hK _ (k + 1, a3) ⟨by simp only; omega, by simp only; omega⟩ (by simp only; omega) ?_
   refine Le.trans (le_pick [0, 1, 2] rfl rfl) ?_
   (try simp only [List.set_nil, List.take_nil, List.take_zero, List.map_append, go_sem])
   exact lmz
  ·clear hX hY X Y
   (refine ekz ?_;repeat clear hK K)
   (refine wk0 ?_;(repeat clear hK K);repeat refine kq fun K hK=>?_)
   (refine aw_regionV [] [(0, 1, 1), (1, 2, 0), (2, 0, 0), (3, 1, 4), (4, 2, 0), (5, 0, 0), (6, 0, 0), (7, 1, 9), (8, 1, 9), (10, 1, 12), (11, 1, 12), (9, 2, 0), (12, 2, 0), (13, 2, 0), (14, 0, 0), (15, 2, 0), (16, 0, 0), (17, 0, 0), (18, 2, 0)] (by kernel_rfl) (by kernel_rfl) (by intro c st h; simp [ThenA, InBl, Ret] at h) ?_)
   (refine vk0 ?_; repeat clear hK K)
   (refine v_2 rfl rfl ?_; intro K1 hK1; refine stpX_mono ?_; refine xv [] (huge_fc L1 hn0 hr0) ?_ ?_)
   ·rintro _ _ ⟨rfl, rfl⟩ i o hi hl; simp at hl
   rintro _ _ ⟨rfl, rfl⟩
   (refine bkz ?_; clear hK1 K1)
   cases hb : hugeB L1 with
   | true =>
    (refine vk0 ?_; repeat clear hK K)
    (refine v_3 rfl rfl rfl ?_; intro K1 hK1; refine stp_ev rfl ?_; simp only [go_sem]; (first | refine hK1 _ ?_ | refine andk (hK1 _ ?_)); clear hK1 K1)
    (refine vk0 ?_; repeat clear hK K)
    (refine wk0 ?_;(repeat clear hK K);repeat refine kq fun K hK=>?_)
    exact rqc0 Tryz.results5
   | false =>
    (refine vk0 ?_; repeat clear hK K)
    (refine v_2g rfl rfl rfl (by simp only [go_sem] <;> rfl) ?_; intro K1 hK1; refine stpX_mono ?_; refine xv [] (huge_fc L2 hn1 hr1) ?_ ?_)
    ·rintro _ _ ⟨rfl, rfl⟩ i o hi hl; simp at hl
    rintro _ _ ⟨rfl, rfl⟩
    (refine bkz ?_; clear hK1 K1)
    cases hc : hugeB L2 with
    | true =>
     (refine vk0 ?_; repeat clear hK K)
     (refine v_3 rfl rfl rfl ?_; intro K1 hK1; refine stp_ev rfl ?_; simp only [go_sem]; (first | refine hK1 _ ?_ | refine andk (hK1 _ ?_)); clear hK1 K1)
     (refine vk0 ?_; repeat clear hK K)
     (refine wk0 ?_;(repeat clear hK K);repeat refine kq fun K hK=>?_)
     exact rqc0 Tryz.results5
    | false =>
     have hb2 := hugeB_no hb
     have hc2 := hugeB_no hc
     have hA6 : ∀ r ∈ L1, r.length ≤ 1000000 := fun r h => by have := row_tot3 r h; omega
     have hR6 : ∀ r ∈ L2, r.length ≤ 1000000 := fun r h => by have := row_tot3 r h; omega
     (refine vk0 ?_; repeat clear hK K)
     (refine v_2g rfl rfl rfl (by simp only [go_sem] <;> rfl) ?_; intro K1 hK1; refine stpX_mono ?_; refine xv [] (deqA_fc L1 L2 (by omega) (by omega) (by assumption) (by assumption)) ?_ ?_)
     ·rintro _ _ ⟨rfl, rfl⟩ i o hi hl; simp at hl
     rintro _ _ ⟨rfl, rfl⟩
     (refine bkz ?_; clear hK1 K1)
     (refine vk0 ?_; repeat clear hK K)
     (refine v_2g rfl rfl rfl (by simp only [go_sem] <;> rfl) ?_; intro K1 hK1; refine stpX_mono ?_; refine xv [] (seqA_fc L1 L2 (by omega) (by omega) (by assumption) (by assumption)) ?_ ?_)
     ·rintro _ _ ⟨rfl, rfl⟩ i o hi hl; simp at hl
     rintro _ _ ⟨rfl, rfl⟩
     (refine bkz ?_; clear hK1 K1)
     (refine vk0 ?_; repeat clear hK K)
     (refine v_3g rfl rfl rfl (by simp only [go_sem] <;> rfl) rfl ?_; intro K1 hK1; refine stp_beq (a := EqD L1 L2) (b := EqD L1 L2) Tryz.underlying4 rfl rfl (by simp only [go_sem]) (by simp only [go_sem]) ?_; simp only [go_sem, beq_self_eq_true]; refine hK1 _ ?_; clear hK1 K1)
     (refine vk0 ?_; repeat clear hK K)
     (refine v_2g rfl rfl rfl (by simp only [go_sem] <;> rfl) ?_; intro K1 hK1; refine stpX_mono ?_; refine xv [] (sane27d_fc) ?_ ?_)
     ·rintro _ _ rfl i o hi hl; simp at hl
     rintro _ _ rfl
     (refine bkz ?_; clear hK1 K1)
     (refine vk0 ?_; repeat clear hK K)
     (refine v_3 rfl rfl rfl ?_; intro K1 hK1; refine stp_ev rfl ?_; simp only [go_sem]; (first | refine hK1 _ ?_ | refine andk (hK1 _ ?_)); clear hK1 K1)
     (refine vk0 ?_; repeat clear hK K)
     (refine wk0 ?_;(repeat clear hK K);repeat refine kq fun K hK=>?_)
     exact rqc0 Tryz.results5
end Go.Proofs.YtahnebicgbjonaaGreat
