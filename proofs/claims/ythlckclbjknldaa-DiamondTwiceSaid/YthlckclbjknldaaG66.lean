/- The law DiamondTwice. -/
import Derived.Test.YthlckclbjknldaaG65
import Derived.Test.YthlckclbjknldaaCni
namespace Go.Proofs.Ythlckclbjknldaa
set_option linter.unusedVariables false
set_option linter.unusedSimpArgs false
open Go.RowKit
set_option maxRecDepth 100000
attribute [local go_sem] List.set_cons_zero List.set_cons_succ List.map_cons List.map_nil List.take_succ_cons List.take_zero List.drop_zero List.drop_succ_cons C.pl C.one List.all_cons List.all_nil Bool.and_true Nat.mul_one Int.toNat_natCast

theorem TL.id {X F : List (List Ar)} (hv : valB X = true) (hnc : NC X) (hc : (canonR X).1 = X) (h : TL X F) : F = X := by
 obtain ⟨D, hD, hL, rfl⟩ := h
 rw [tl_id hv hnc hD hL, hc]
theorem TL.nc {R F : List (List Ar)} (hv : valB R = true) (h : TL R F) : NC F := by
 obtain ⟨D, hD, hL, rfl⟩ := h
 exact tl_nc hv hD hL
theorem TL.can {R F : List (List Ar)} (hv : valB R = true) (h : TL R F) : (canonR F).1 = F := by
 obtain ⟨D, hD, hL, rfl⟩ := h
 have hlo : looB R = true := decide_eq_true (of_decide_eq_true hv).1
 have hp : LooP R := of_decide_eq_true hlo
 have hrep := least_rep (adj_lt true hlo) hD hL
 have hfm : ∀ v, v < R.length → clsN D v < (ixS D R.length).2 := fun v hv => by obtain ⟨_, _, _, h, _⟩ := cls_ok hD hrep hv; exact h
 have hTl := tlOut_len (clsN D) (ixS D R.length).2 R R.length
 have hTP := tlOut_P (f := clsN D) (m := (ixS D R.length).2) (R := R) (fun r hr0 a ha => by
  have h := hp.2.2.2 r hr0 a ha
  exact ⟨h.1, h.2.1, hfm _ (by omega)⟩) R.length (Nat.le_refl _)
 have h0 := hfm 0 hp.1
 exact canonR_idem (by omega) (fun r hr a ha => by rw [hTl]; have := hTP r hr a ha; exact ⟨this.2.2.1, this.2.2.2⟩)
theorem dmX_can {F : List (List Ar)} (hv : valB F = true) : (canonR (canonR (dmR F)).1).1 = (canonR (dmR F)).1 := by
 have hlo : looB F = true := decide_eq_true (of_decide_eq_true hv).1
 have hbd := dm_bd hlo
 have hl : (dmR F).length = F.length := dmL_len F F.length
 have hF1 := (of_decide_eq_true hv).1.1
 exact canonR_idem (by omega) (fun r hr a ha => by have := (hbd r hr).1 a ha; exact ⟨this.2.2.1, this.2.2.2⟩)
set_option maxHeartbeats 2000000 in
theorem lawTwice_fc (T : List Int) (hT : TpOk T) : FC Try.prog 4 [aInts T] [] (fun r _ => r = .b true) := by
 refine fc_intro Try.func4 rfl (by rw [Try.ntmps4]; simp) ?_
 rw [Try.ntmps4]
 simp only [enum, aInts]
 (repeat (first | (refine aw_seq ?_; intro K hK) | refine aw_block ?_ | refine aw_region ?_ | (refine lst_x rfl rfl ?_; intro K1 hK1; simp only [go_sem]; (first | refine hK1 _ ?_ | refine andk (hK1 _ ?_)); clear hK1 K1) | ((first | refine lst_nil ?_ | refine aw_skip ?_); refine hK _ ?_; clear hK K)))
 (refine lst_cons rfl ?_; intro K1 hK1; refine (stp_call0 (ids := []) (new_fc T) rfl rfl (by simp only [go_sem]) (by kernel_rfl) (by (simp only [List.append_nil, go_sem]) <;> rfl) ?_).stp)
 rintro _ _ ⟨rfl, rfl⟩
 (simp only [aInts, aSets, tape, List.append_nil, List.nil_append, List.length_map, go_sem]; refine hK1 _ ?_; clear hK1 K1)
 (repeat (first | (refine aw_seq ?_; intro K hK) | refine aw_block ?_ | refine aw_region ?_ | (refine lst_x rfl rfl ?_; intro K1 hK1; simp only [go_sem]; (first | refine hK1 _ ?_ | refine andk (hK1 _ ?_)); clear hK1 K1) | ((first | refine lst_nil ?_ | refine aw_skip ?_); refine hK _ ?_; clear hK K)))
 refine aw_loop (fun p : Nat × Nat => { tm := [(3, .a (.c (.p 0 0))), (4, .i p.1)], hp := [.r ⟨39, 2, false, [.t 1 (tInts T), .v (.int .i64 p.2)]⟩], n := 86, pin := 0 }) (fun p => p.1 ≤ 4 ∧ p.2 ≤ 100 * p.1) (fun p => 4 - p.1) (0, 0) ?_ ?_ ?_
 ·exact ⟨by simp, by simp⟩
 ·(refine le_tm ?_; simp only [LeTm, go_sem]; try simp)
 ·rintro ⟨k, a⟩ ⟨hk, ha⟩ K hK
  simp only at hk ha ⊢
  (repeat (first | (refine aw_seq ?_; intro K hK) | refine aw_block ?_ | refine aw_region ?_ | (refine lst_x rfl rfl ?_; intro K1 hK1; simp only [go_sem]; (first | refine hK1 _ ?_ | refine andk (hK1 _ ?_)); clear hK1 K1) | ((first | refine lst_nil ?_ | refine aw_skip ?_); refine hK _ ?_; clear hK K)))
  (refine aw_cnd ?_; intro X Y hX hY; simp only [go_sem])
  refine ⟨fun h => hX ?_, fun h => hY ?_⟩
  ·have hlt : k < 4 := by simp at h; omega
   clear hX hY X Y h
   (repeat (first | (refine aw_seq ?_; intro K hK) | refine aw_block ?_ | refine aw_region ?_ | (refine lst_x rfl rfl ?_; intro K1 hK1; simp only [go_sem]; (first | refine hK1 _ ?_ | refine andk (hK1 _ ?_)); clear hK1 K1) | ((first | refine lst_nil ?_ | refine aw_skip ?_); refine hK _ ?_; clear hK K)))
   (refine lst_cons rfl ?_; intro K1 hK1; refine stp_callσ (ids := []) [0] (chainV_fc T hT a 8 8 (by omega) (by omega) (by omega) rfl) rfl rfl (by simp only [go_sem]) (by first | assumption | kernel_rfl) rfl rfl (by (simp only [List.map_append, List.append_nil, go_sem]) <;> rfl) (by (simp only [pkh, tape, go_sem]) <;> rfl) ?_ ?_)
   ·rintro _ _ ⟨_, _, ⟨rfl, rfl⟩, _⟩; rfl
   rintro _ _ ⟨a1, R, ⟨rfl, rfl⟩, ha1, hv, hn, ht⟩
   (simp only [aInts, aSets, tape, oLts, aLts, List.append_nil, List.nil_append, List.length_map, go_sem]; refine hK1 _ ?_; clear hK1 K1)
   (repeat (first | (refine aw_seq ?_; intro K hK) | refine aw_block ?_ | refine aw_region ?_ | (refine lst_x rfl rfl ?_; intro K1 hK1; simp only [go_sem, ST.put, setC, A0.cells]; (first | refine hK1 _ ?_ | refine andk (hK1 _ ?_)); clear hK1 K1) | ((first | refine lst_nil ?_ | refine aw_skip ?_); refine hK _ ?_; clear hK K)))
   (refine lst_cons rfl ?_; intro K1 hK1; refine (stp_call0 (ids := []) (diaV_fc R hv hn (by omega)) rfl rfl (by simp only [go_sem]) (by kernel_rfl) (by (simp only [List.append_nil, go_sem]) <;> rfl) ?_).stp)
   rintro _ _ ⟨F, hTL, Z, hZ, rfl, rfl⟩
   have hcF := hTL.can hv
   have hnF := hTL.nc hv
   obtain ⟨hvF, hF1, hFn, hFt⟩ := hTL.ok hv
   obtain ⟨hZ1, hZn, hZt, hvZ⟩ := dmX_ok hvF (by omega) (by omega)
   have hcZ := dmX_can hvF
   have hqZ := dm_QX hvF hvZ
   rw [← hZ] at hZ1 hZn hZt hvZ hcZ hqZ
   have hnZ := q_nc hvZ hqZ
   have hdZ := dm_id hvZ hqZ
   (simp only [aInts, aSets, List.append_nil, List.nil_append, List.length_map, go_sem]; refine hK1 _ ?_; clear hK1 K1)
   (repeat (first | (refine aw_seq ?_; intro K hK) | refine aw_block ?_ | refine aw_region ?_ | (refine lst_x rfl rfl ?_; intro K1 hK1; simp only [go_sem, ST.put, setC, A0.cells]; (first | refine hK1 _ ?_ | refine andk (hK1 _ ?_)); clear hK1 K1) | ((first | refine lst_nil ?_ | refine aw_skip ?_); refine hK _ ?_; clear hK K)))
   (refine lst_cons rfl ?_; intro K1 hK1; refine (stp_call0 (ids := []) (diaV_fc Z hvZ (by omega) (by omega)) rfl rfl (by simp only [go_sem]) (by kernel_rfl) (by (simp only [List.append_nil, go_sem]) <;> rfl) ?_).stp)
   rintro _ _ ⟨F2, hT2, Z2, hZ2, rfl, rfl⟩
   obtain rfl : Z = F2 := (hT2.id hvZ hnZ hcZ).symm
   rw [hdZ, hcZ] at hZ2
   obtain rfl : Z = Z2 := hZ2.symm
   (simp only [aInts, aSets, List.append_nil, List.nil_append, List.length_map, go_sem]; refine hK1 _ ?_; clear hK1 K1)
   (repeat (first | (refine aw_seq ?_; intro K hK) | refine aw_block ?_ | refine aw_region ?_ | (refine lst_x rfl rfl ?_; intro K1 hK1; simp only [go_sem, ST.put, setC, A0.cells]; (first | refine hK1 _ ?_ | refine andk (hK1 _ ?_)); clear hK1 K1) | ((first | refine lst_nil ?_ | refine aw_skip ?_); refine hK _ ?_; clear hK K)))
   (refine lst_cons rfl ?_; intro K1 hK1; refine (stp_call0 (ids := []) (tauV_fc R hv hn (by omega)) rfl rfl (by simp only [go_sem]) (by kernel_rfl) (by (simp only [List.append_nil, go_sem]) <;> rfl) ?_).stp)
   rintro _ _ ⟨G, hTG, rfl, rfl⟩
   obtain rfl : F = G := hTL.uniq hTG
   (simp only [aInts, aSets, List.append_nil, List.nil_append, List.length_map, go_sem]; refine hK1 _ ?_; clear hK1 K1)
   (repeat (first | (refine aw_seq ?_; intro K hK) | refine aw_block ?_ | refine aw_region ?_ | (refine lst_x rfl rfl ?_; intro K1 hK1; simp only [go_sem, ST.put, setC, A0.cells]; (first | refine hK1 _ ?_ | refine andk (hK1 _ ?_)); clear hK1 K1) | ((first | refine lst_nil ?_ | refine aw_skip ?_); refine hK _ ?_; clear hK K)))
   (refine lst_cons rfl ?_; intro K1 hK1; refine (stp_call0 (ids := []) (tauV_fc F hvF (by omega) (by omega)) rfl rfl (by simp only [go_sem]) (by kernel_rfl) (by (simp only [List.append_nil, go_sem]) <;> rfl) ?_).stp)
   rintro _ _ ⟨G, hTG2, rfl, rfl⟩
   obtain rfl : F = G := (hTG2.id hvF hnF hcF).symm
   (simp only [aInts, aSets, List.append_nil, List.nil_append, List.length_map, go_sem]; refine hK1 _ ?_; clear hK1 K1)
   (repeat (first | (refine aw_seq ?_; intro K hK) | refine aw_block ?_ | refine aw_region ?_ | (refine lst_x rfl rfl ?_; intro K1 hK1; simp only [go_sem, ST.put, setC, A0.cells]; (first | refine hK1 _ ?_ | refine andk (hK1 _ ?_)); clear hK1 K1) | ((first | refine lst_nil ?_ | refine aw_skip ?_); refine hK _ ?_; clear hK K)))
   (refine lst_cons rfl ?_; intro K1 hK1; refine (stp_call0 (ids := []) (diaV_fc F hvF (by omega) (by omega)) rfl rfl (by simp only [go_sem]) (by kernel_rfl) (by (simp only [List.append_nil, go_sem]) <;> rfl) ?_).stp)
   rintro _ _ ⟨F3, hT3, Z3, hZ3, rfl, rfl⟩
   obtain rfl : F = F3 := (hT3.id hvF hnF hcF).symm
   rw [← hZ] at hZ3
   obtain rfl : Z = Z3 := hZ3.symm
   (simp only [aInts, aSets, List.append_nil, List.nil_append, List.length_map, go_sem]; refine hK1 _ ?_; clear hK1 K1)
   (repeat (first | (refine aw_seq ?_; intro K hK) | refine aw_block ?_ | refine aw_region ?_ | (refine lst_x rfl rfl ?_; intro K1 hK1; simp only [go_sem, ST.put, setC, A0.cells]; (first | refine hK1 _ ?_ | refine andk (hK1 _ ?_)); clear hK1 K1) | ((first | refine lst_nil ?_ | refine aw_skip ?_); refine hK _ ?_; clear hK K)))
   (refine lst_goU rfl rfl (by simp only [go_sem] <;> rfl) ?_; intro K1 hK1; refine (stp_call0 (ids := []) (same_fc Z (by omega) (fun r hr => by have := row_tot r hr; omega)) rfl rfl (by simp only [go_sem]) (by kernel_rfl) (by (simp only [List.append_nil, go_sem]) <;> rfl) ?_).stp)
   rintro _ _ ⟨rfl, rfl⟩
   (simp only [aInts, aSets, List.append_nil, List.nil_append, List.length_map, go_sem]; refine hK1 _ ?_; clear hK1 K1)
   (repeat (first | (refine aw_seq ?_; intro K hK) | refine aw_block ?_ | refine aw_region ?_ | (refine lst_x rfl rfl ?_; intro K1 hK1; simp only [go_sem, ST.put, setC, A0.cells, Bool.not_true]; (first | refine hK1 _ ?_ | refine andk (hK1 _ ?_)); clear hK1 K1) | ((first | refine lst_nil ?_ | refine aw_skip ?_); refine hK _ ?_; clear hK K)))
   (refine lst_goU rfl rfl (by simp only [go_sem] <;> rfl) ?_; intro K1 hK1; refine (stp_call0 (ids := []) (same_fc F (by omega) (fun r hr => by have := row_tot r hr; omega)) rfl rfl (by simp only [go_sem]) (by kernel_rfl) (by (simp only [List.append_nil, go_sem]) <;> rfl) ?_).stp)
   rintro _ _ ⟨rfl, rfl⟩
   (simp only [aInts, aSets, List.append_nil, List.nil_append, List.length_map, go_sem]; refine hK1 _ ?_; clear hK1 K1)
   (repeat (first | (refine aw_seq ?_; intro K hK) | refine aw_block ?_ | refine aw_region ?_ | (refine lst_x rfl rfl ?_; intro K1 hK1; simp only [go_sem, ST.put, setC, A0.cells, Bool.not_true]; (first | refine hK1 _ ?_ | refine andk (hK1 _ ?_)); clear hK1 K1) | ((first | refine lst_nil ?_ | refine aw_skip ?_); refine hK _ ?_; clear hK K)))
   (refine lst_goU rfl rfl (by simp only [go_sem] <;> rfl) ?_; intro K1 hK1; refine (stp_call0 (ids := []) (same_fc Z (by omega) (fun r hr => by have := row_tot r hr; omega)) rfl rfl (by simp only [go_sem]) (by kernel_rfl) (by (simp only [List.append_nil, go_sem]) <;> rfl) ?_).stp)
   rintro _ _ ⟨rfl, rfl⟩
   (simp only [aInts, aSets, List.append_nil, List.nil_append, List.length_map, go_sem]; refine hK1 _ ?_; clear hK1 K1)
   (repeat (first | (refine aw_seq ?_; intro K hK) | refine aw_block ?_ | refine aw_region ?_ | (refine lst_x rfl rfl ?_; intro K1 hK1; simp only [go_sem, ST.put, setC, A0.cells, Bool.not_true]; (first | refine hK1 _ ?_ | refine andk (hK1 _ ?_)); clear hK1 K1) | ((first | refine lst_nil ?_ | refine aw_skip ?_); refine hK _ ?_; clear hK K)))
   (refine aw_cnd ?_; intro X Y hX hY; simp only [go_sem])
   refine hY ?_
   clear hX hY X Y
   (repeat (first | (refine aw_seq ?_; intro K hK) | refine aw_block ?_ | refine aw_region ?_ | (refine lst_x rfl rfl ?_; intro K1 hK1; simp only [go_sem]; (first | refine hK1 _ ?_ | refine andk (hK1 _ ?_)); clear hK1 K1) | ((first | refine lst_nil ?_ | refine aw_skip ?_); refine hK _ ?_; clear hK K)))
   ((try refine lst_nil ?_); (try refine aw_skip ?_); try simp only [ThenA])
   refine hK _ (k + 1, a1) ⟨by simp only; omega, by simp only; omega⟩ (by simp only; omega) ?_
   refine Le.trans (le_pick [0] rfl rfl) ?_
   (try simp only [List.set_nil, List.take_nil, List.take_zero, List.map_append, go_sem])
   (refine le_tm ?_; simp only [LeTm, go_sem]; try simp)
  ·clear hX hY X Y
   (refine aw_exit ?_; simp only [ThenA, InBl, reduceIte, Nat.reduceEqDiff]; (first | refine hK _ ?_ | (clear hK K; refine hK _ ?_) | (clear hK K; clear hK K; refine hK _ ?_) | (clear hK K; clear hK K; clear hK K; refine hK _ ?_) | (clear hK K; clear hK K; clear hK K; clear hK K; refine hK _ ?_) | (clear hK K; clear hK K; clear hK K; clear hK K; clear hK K; refine hK _ ?_)); clear hK K)
   (repeat (first | (refine aw_seq ?_; intro K hK) | refine aw_block ?_ | refine aw_region ?_ | (refine lst_x rfl rfl ?_; intro K1 hK1; simp only [go_sem]; (first | refine hK1 _ ?_ | refine andk (hK1 _ ?_)); clear hK1 K1) | ((first | refine lst_nil ?_ | refine aw_skip ?_); refine hK _ ?_; clear hK K)))
   (refine lst_cons rfl ?_; intro K1 hK1; refine (stp_call0 (ids := []) (sane28d_fc) rfl rfl (by simp only [go_sem]) (by kernel_rfl) (by (simp only [List.append_nil, go_sem]) <;> rfl) ?_).stp)
   rintro _ _ rfl
   (simp only [aInts, aSets, List.append_nil, List.nil_append, List.length_map, go_sem]; refine hK1 _ ?_; clear hK1 K1)
   (repeat (first | (refine aw_seq ?_; intro K hK) | refine aw_block ?_ | refine aw_region ?_ | (refine lst_x rfl rfl ?_; intro K1 hK1; simp only [go_sem]; (first | refine hK1 _ ?_ | refine andk (hK1 _ ?_)); clear hK1 K1) | ((first | refine lst_nil ?_ | refine aw_skip ?_); refine hK _ ?_; clear hK K)))
   ((try refine aw_ret ?_); (try refine lst_nil ?_); (try simp only [ThenA, InBl]); refine ret_mk (by first | exact .inl rfl | exact .inr rfl) rfl ?_; simp only [rtn, resA, resL, resV, Try.results4, go_sem])
end Go.Proofs.Ythlckclbjknldaa
