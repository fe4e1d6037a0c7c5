/- LegalityLegal, by the machine. -/
import Derived.Test.YthlckclbjknldaaGreatG33
import Derived.Test.YthlckclbjknldaaGreatG30
import Derived.Test.YthlckclbjknldaaGreatMbe
import Derived.Test.YthlckclbjknldaaGreatSan
namespace Go.Proofs.YthlckclbjknldaaGreat
set_option linter.unusedVariables false
set_option linter.unusedSimpArgs false
open Go.RowKit
set_option maxRecDepth 100000

theorem ctxO3_fc (T : List Int) (hT : TpOk T) (a0 : Nat) (b : Bool) (ha : a0 ≤ 100000) :
    FC Tryz.prog 16 [.a (.c (.p 0 0)), .i 3, .b b] [tape T a0] (fun r o => ∃ (a' : Nat) (X : List Cstep), o = [tape T a', .r ⟨32, 5, true, cSteps X⟩] ∧ r = .a (.c (.s 1 X.length)) ∧ a' ≤ a0 + 121 ∧ X.length ≤ 3 ∧ ∀ x ∈ X, x.Ok) := ctxO_fc T hT a0 3 b ha (by omega)
set_option maxHeartbeats 2000000 in
theorem lawLeg_fc (T : List Int) (hT : TpOk T) (c m : Int) : FC Tryz.prog 5 [aInts T, .i c, .i m] [] (fun r _ => r = .b true) := by
  refine fc_intro Tryz.func5 rfl (by rw [Tryz.ntmps5]; simp) ?_
  rw [Tryz.ntmps5]
  simp only [enum, aInts]
  (repeat (first | (refine aw_seq ?_; intro K hK) | refine aw_block ?_ | refine aw_region ?_ | (refine lst_x rfl rfl ?_; intro K1 hK1; simp only [go_sem]; (first | refine hK1 _ ?_ | refine andk (hK1 _ ?_)); clear hK1 K1) | ((first | refine lst_nil ?_ | refine aw_skip ?_); refine hK _ ?_; clear hK K)))
  (refine lst_cons rfl ?_; intro K1 hK1; refine (stp_call0 (ids := []) (new_fc T) rfl rfl (by simp only [go_sem]) (by kernel_rfl) (by (simp only [List.append_nil, go_sem]) <;> rfl) ?_).stp)
  rintro _ _ ⟨rfl, rfl⟩
  (simp only [aInts, aSets, tape, List.append_nil, List.nil_append, List.length_map, go_sem]; refine hK1 _ ?_; clear hK1 K1)
  (repeat (first | (refine aw_seq ?_; intro K hK) | refine aw_block ?_ | refine aw_region ?_ | (refine lst_x rfl rfl ?_; intro K1 hK1; simp only [go_sem]; (first | refine hK1 _ ?_ | refine andk (hK1 _ ?_)); clear hK1 K1) | ((first | refine lst_nil ?_ | refine aw_skip ?_); refine hK _ ?_; clear hK K)))
  refine aw_loop (fun p : Nat × Nat => { tm := [(1, .i c), (2, .i m), (7, .a (.c (.p 0 0))), (8, .i p.1)], hp := [.r ⟨51, 2, false, [.t 1 (tInts T), .v (.int .i64 p.2)]⟩], n := 57, pin := 0 }) (fun p => p.1 ≤ 5 ∧ p.2 ≤ 200 * p.1) (fun p => 5 - p.1) (0, 0) ?_ ?_ ?_
  · exact ⟨by simp, by simp⟩
  · (refine le_tm ?_; simp only [LeTm, go_sem]; try simp)
  · rintro ⟨k, a⟩ ⟨hk, ha⟩ K hK
    simp only at hk ha ⊢
    (repeat (first | (refine aw_seq ?_; intro K hK) | refine aw_block ?_ | refine aw_region ?_ | (refine lst_x rfl rfl ?_; intro K1 hK1; simp only [go_sem]; (first | refine hK1 _ ?_ | refine andk (hK1 _ ?_)); clear hK1 K1) | ((first | refine lst_nil ?_ | refine aw_skip ?_); refine hK _ ?_; clear hK K)))
    (refine aw_cnd ?_; intro X Y hX hY; simp only [go_sem])
    refine ⟨fun h => hX ?_, fun h => hY ?_⟩
    · have hlt : k < 5 := by simp at h; omega
      clear hX hY X Y h
      (repeat (first | (refine aw_seq ?_; intro K hK) | refine aw_block ?_ | refine aw_region ?_ | (refine lst_x rfl rfl ?_; intro K1 hK1; simp only [go_sem]; (first | refine hK1 _ ?_ | refine andk (hK1 _ ?_)); clear hK1 K1) | ((first | refine lst_nil ?_ | refine aw_skip ?_); refine hK _ ?_; clear hK K)))
      (refine lst_cons rfl ?_; intro K1 hK1; refine stp_callσ (ids := []) [0] (next_fc T a 2 hT (by omega) (by omega)) rfl rfl (by simp only [go_sem]) (by first | assumption | kernel_rfl) rfl rfl (by (simp only [List.map_append, List.append_nil, go_sem]) <;> rfl) (by (simp only [pkh, tape, go_sem]) <;> rfl) ?_ ?_)
      · rintro _ _ ⟨rfl, v, rfl, _⟩; rfl
      rintro _ _ ⟨rfl, v0, rfl, hv0⟩
      (simp only [aInts, aSets, tape, List.append_nil, List.nil_append, List.length_map, go_sem]; refine hK1 _ ?_; clear hK1 K1)
      (repeat (first | (refine aw_seq ?_; intro K hK) | refine aw_block ?_ | refine aw_region ?_ | (refine lst_x rfl rfl ?_; intro K1 hK1; simp only [go_sem]; (first | refine hK1 _ ?_ | refine andk (hK1 _ ?_)); clear hK1 K1) | ((first | refine lst_nil ?_ | refine aw_skip ?_); refine hK _ ?_; clear hK K)))
      (refine lst_cons rfl ?_; intro K1 hK1; refine stp_callσ (ids := []) [0] (ctxO3_fc T hT (a + 1) ((v0 : Int) == 0) (by omega)) rfl rfl (by simp only [go_sem]) (by first | assumption | kernel_rfl) rfl rfl (by (simp only [List.map_append, List.append_nil, go_sem]) <;> rfl) (by (simp only [pkh, tape, go_sem]) <;> rfl) ?_ ?_)
      · rintro _ _ ⟨_, _, rfl, rfl, _⟩; rfl
      rintro _ _ ⟨a2, C2, rfl, rfl, ha2, hl2, hg2⟩
      (simp only [aInts, aSets, tape, cSteps_up, List.append_nil, List.nil_append, List.length_map, go_sem]; refine hK1 _ ?_; clear hK1 K1)
      have hlc := List.take_of_length_le (Nat.le_of_eq (cSteps_len C2))
      have e2 (y : Cstep) : (C2 ++ [y]).length = C2.length + 1 := by simp
      (repeat (first | (refine aw_seq ?_; intro K hK) | refine aw_block ?_ | refine aw_region ?_ | (refine lst_x rfl rfl ?_; intro K1 hK1; simp only [go_sem]; (first | refine hK1 _ ?_ | refine andk (hK1 _ ?_)); clear hK1 K1) | ((first | refine lst_nil ?_ | refine aw_skip ?_); refine hK _ ?_; clear hK K)))
      (refine aw_cnd ?_; intro X Y hX hY; simp only [go_sem])
      refine ⟨fun h => hX ?_, fun h => hY ?_⟩
      · clear hX hY X Y
        (repeat (first | (refine aw_seq ?_; intro K hK) | refine aw_block ?_ | refine aw_region ?_ | (refine lst_x rfl rfl ?_; intro K1 hK1; simp only [go_sem]; (first | refine hK1 _ ?_ | refine andk (hK1 _ ?_)); clear hK1 K1) | ((first | refine lst_nil ?_ | refine aw_skip ?_); refine hK _ ?_; clear hK K)))
        (refine lst_cons rfl ?_; intro K1 hK1; refine stp_callσ (ids := []) [0] (step_fc T hT a2 false (by omega)) rfl rfl (by simp only [go_sem]) (by first | assumption | kernel_rfl) rfl rfl (by (simp only [List.map_append, List.append_nil, go_sem]) <;> rfl) (by (simp only [pkh, tape, go_sem]) <;> rfl) ?_ ?_)
        · rintro _ _ ⟨_, _, rfl, rfl, _⟩; rfl
        rintro _ _ ⟨a3, x, rfl, rfl, ha3, hx⟩
        (simp only [aInts, aSets, tape, cSteps_up, Cstep.av, Cstep.cells, List.append_nil, List.nil_append, List.length_map, go_sem]; refine hK1 _ ?_; clear hK1 K1)
        (repeat (first | (refine aw_seq ?_; intro K hK) | refine aw_block ?_ | refine aw_region ?_ | (refine lst_x rfl rfl ?_; intro K1 hK1; simp only [go_sem]; (first | refine hK1 _ ?_ | refine andk (hK1 _ ?_)); clear hK1 K1) | ((first | refine lst_nil ?_ | refine aw_skip ?_); refine hK _ ?_; clear hK K)))
        (refine lst_cons rfl ?_; intro K1 hK1; refine stp_callσ (ids := []) [0] (spst_fc T hT a3 x hx.sz (by omega)) rfl rfl (by simp only [go_sem]) (by first | assumption | kernel_rfl) rfl rfl (by (simp only [List.map_append, List.append_nil, go_sem]) <;> rfl) (by (simp only [pkh, tape, Cstep.av, Cstep.cells, go_sem]) <;> rfl) ?_ ?_)
        · rintro _ _ ⟨_, _, rfl, rfl, _⟩; rfl
        rintro _ _ ⟨a4, y, rfl, rfl, ha4, hy⟩
        (simp only [aInts, aSets, tape, cSteps_up, Cstep.av, Cstep.cells, List.append_nil, List.nil_append, List.length_map, go_sem]; refine hK1 _ ?_; clear hK1 K1)
        (repeat (first | (refine aw_seq ?_; intro K hK) | refine aw_block ?_ | refine aw_region ?_ | (refine lst_x rfl rfl ?_; intro K1 hK1; simp only [go_sem, List.set_cons_zero, List.set_cons_succ, List.take_succ_cons, List.take_zero, List.drop_zero, cSteps_len, half5, cSteps_one, cSteps_pl, cSteps_snocL, hlc]; (first | refine hK1 _ ?_ | refine andk (hK1 _ ?_)); clear hK1 K1) | ((first | refine lst_nil ?_ | refine aw_skip ?_); refine hK _ ?_; clear hK K)))
        (refine aw_le (le_frz (r := ⟨32, 5, true, cSteps (C2 ++ [y])⟩) 5 (tSteps (C2 ++ [y])) rfl (fz_cst _) (show 0 < (5 : Nat) by omega)) ?_; simp only [ST.frz, A0.frz, AV.frz, C.frz, Nat.le_refl, List.set_cons_zero, List.set_cons_succ, go_sem, tSteps_len, half5, e2, List.take_length])
        have htk2 : (tSteps (C2 ++ [y])).take ((C2.length + 1) * 5) = tSteps (C2 ++ [y]) := List.take_of_length_le (Nat.le_of_eq (by rw [tSteps_len, e2]))
        simp only [htk2]
        have bL : ∀ z ∈ C2 ++ [y], z.Bd := fun z hz => by
          rcases List.mem_append.1 hz with hz | hz
          · exact (hg2 z hz).sz.bd
          · simp at hz; subst hz; exact hy.bd
        have lL : (C2 ++ [y]).length ≤ 4 := by rw [e2]; omega
        (repeat (first | (refine aw_seq ?_; intro K hK) | refine aw_block ?_ | refine aw_region ?_ | (refine lst_x rfl rfl ?_; intro K1 hK1; simp only [go_sem]; (first | refine hK1 _ ?_ | refine andk (hK1 _ ?_)); clear hK1 K1) | ((first | refine lst_nil ?_ | refine aw_skip ?_); refine hK _ ?_; clear hK K)))
        refine aw_loop (fun p : Nat × Nat => { tm := [(1, .i c), (2, .i m), (7, .a (.c (.p 0 0))), (8, .i k), (9, .a (.c (.t 5 (tSteps (C2 ++ [y]))))), (10, .i p.1)], hp := [.r ⟨51, 2, false, [.t 1 (tInts T), .v (.int .i64 p.2)]⟩], n := 57, pin := 0 }) (fun p => p.1 ≤ 11 ∧ p.2 ≤ a4 + p.1) (fun p => 11 - p.1) (0, a4) ?_ ?_ ?_
        · exact ⟨by simp, by simp⟩
        · refine Le.trans (le_pick [0] rfl rfl) ?_
          (try simp only [List.set_nil, List.take_nil, List.take_zero, List.map_append, go_sem])
          (refine le_tm ?_; simp only [LeTm, go_sem]; try simp)
        · rintro ⟨j, a4⟩ ⟨hj, ha4⟩ K hK
          simp only at hj ha4 ⊢
          (repeat (first | (refine aw_seq ?_; intro K hK) | refine aw_block ?_ | refine aw_region ?_ | (refine lst_x rfl rfl ?_; intro K1 hK1; simp only [go_sem]; (first | refine hK1 _ ?_ | refine andk (hK1 _ ?_)); clear hK1 K1) | ((first | refine lst_nil ?_ | refine aw_skip ?_); refine hK _ ?_; clear hK K)))
          (refine aw_cnd ?_; intro X Y hX hY; simp only [go_sem])
          refine ⟨fun h => hX ?_, fun h => hY ?_⟩
          · have hj1 : j < 11 := by simp at h; omega
            clear hX hY X Y h
            (repeat (first | (refine aw_seq ?_; intro K hK) | refine aw_block ?_ | refine aw_region ?_ | (refine lst_x rfl rfl ?_; intro K1 hK1; simp only [go_sem]; (first | refine hK1 _ ?_ | refine andk (hK1 _ ?_)); clear hK1 K1) | ((first | refine lst_nil ?_ | refine aw_skip ?_); refine hK _ ?_; clear hK K)))
            (refine lst_cons rfl ?_; intro K1 hK1; refine stp_callσ (ids := []) [0] (next_fc T a4 5 hT (by omega) (by omega)) rfl rfl (by simp only [go_sem]) (by first | assumption | kernel_rfl) rfl rfl (by (simp only [List.map_append, List.append_nil, go_sem]) <;> rfl) (by (simp only [pkh, tape, go_sem]) <;> rfl) ?_ ?_)
            · rintro _ _ ⟨rfl, v, rfl, _⟩; rfl
            rintro _ _ ⟨rfl, u, rfl, hu⟩
            (simp only [aInts, aSets, tape, List.append_nil, List.nil_append, List.length_map, go_sem]; refine hK1 _ ?_; clear hK1 K1)
            (repeat (first | (refine aw_seq ?_; intro K hK) | refine aw_block ?_ | refine aw_region ?_ | (refine lst_x rfl rfl ?_; intro K1 hK1; simp only [go_sem]; (first | refine hK1 _ ?_ | refine andk (hK1 _ ?_)); clear hK1 K1) | ((first | refine lst_nil ?_ | refine aw_skip ?_); refine hK _ ?_; clear hK K)))
            (refine lst_cons rfl ?_; intro K1 hK1; refine (stp_call0 (ids := []) (legal_fc (j : Int) (u : Int) (C2 ++ [y]) (by omega) bL) rfl rfl (by simp only [go_sem]) (by kernel_rfl) (by (simp only [List.append_nil, go_sem]) <;> rfl) ?_).stp)
            rintro _ _ ⟨rfl, rfl⟩
            (simp only [aInts, aSets, List.append_nil, List.nil_append, List.length_map, go_sem]; refine hK1 _ ?_; clear hK1 K1)
            (repeat (first | (refine aw_seq ?_; intro K hK) | refine aw_block ?_ | refine aw_region ?_ | (refine lst_x rfl rfl ?_; intro K1 hK1; simp only [go_sem]; (first | refine hK1 _ ?_ | refine andk (hK1 _ ?_)); clear hK1 K1) | ((first | refine lst_nil ?_ | refine aw_skip ?_); refine hK _ ?_; clear hK K)))
            (refine lst_cons rfl ?_; intro K1 hK1; refine (stp_call0 (ids := []) (rlegal_fc (j : Int) (u : Int) (C2 ++ [y]) (by omega) bL) rfl rfl (by simp only [go_sem]) (by kernel_rfl) (by (simp only [List.append_nil, go_sem]) <;> rfl) ?_).stp)
            rintro _ _ ⟨rfl, rfl⟩
            (simp only [aInts, aSets, List.append_nil, List.nil_append, List.length_map, go_sem]; refine hK1 _ ?_; clear hK1 K1)
            (refine lst_cons rfl ?_; intro K1 hK1; refine stp_bne (a := legalB (j : Int) (u : Int) (C2 ++ [y])) (b := legalB (j : Int) (u : Int) (C2 ++ [y])) Tryz.underlying4 rfl rfl (by simp only [go_sem]) (by simp only [go_sem]) ?_; simp only [go_sem, beq_self_eq_true, Bool.not_true]; refine hK1 _ ?_; clear hK1 K1)
            (repeat (first | (refine aw_seq ?_; intro K hK) | refine aw_block ?_ | refine aw_region ?_ | (refine lst_x rfl rfl ?_; intro K1 hK1; simp only [go_sem]; (first | refine hK1 _ ?_ | refine andk (hK1 _ ?_)); clear hK1 K1) | ((first | refine lst_nil ?_ | refine aw_skip ?_); refine hK _ ?_; clear hK K)))
            (refine aw_cnd ?_; intro X Y hX hY; simp only [go_sem])
            refine hY ?_
            clear hX hY X Y
            (repeat (first | (refine aw_seq ?_; intro K hK) | refine aw_block ?_ | refine aw_region ?_ | (refine lst_x rfl rfl ?_; intro K1 hK1; simp only [go_sem]; (first | refine hK1 _ ?_ | refine andk (hK1 _ ?_)); clear hK1 K1) | ((first | refine lst_nil ?_ | refine aw_skip ?_); refine hK _ ?_; clear hK K)))
            ((try refine lst_nil ?_); (try refine aw_skip ?_); try simp only [ThenA])
            refine hK _ (j + 1, a4 + 1) ⟨by simp only; omega, by simp only; omega⟩ (by simp only; omega) ?_
            (refine le_tm ?_; simp only [LeTm, go_sem]; try simp)
          · clear hX hY X Y
            (refine aw_exit ?_; simp only [ThenA, InBl, reduceIte, Nat.reduceEqDiff]; (first | refine hK _ ?_ | (clear hK K; refine hK _ ?_) | (clear hK K; clear hK K; refine hK _ ?_) | (clear hK K; clear hK K; clear hK K; refine hK _ ?_) | (clear hK K; clear hK K; clear hK K; clear hK K; refine hK _ ?_) | (clear hK K; clear hK K; clear hK K; clear hK K; clear hK K; refine hK _ ?_)); clear hK K)
            (repeat (first | (refine aw_seq ?_; intro K hK) | refine aw_block ?_ | refine aw_region ?_ | (refine lst_x rfl rfl ?_; intro K1 hK1; simp only [go_sem]; (first | refine hK1 _ ?_ | refine andk (hK1 _ ?_)); clear hK1 K1) | ((first | refine lst_nil ?_ | refine aw_skip ?_); refine hK _ ?_; clear hK K)))
            (refine lst_cons rfl ?_; intro K1 hK1; refine (stp_call0 (ids := []) (legal_fc c m (C2 ++ [y]) (by omega) bL) rfl rfl (by simp only [go_sem]) (by kernel_rfl) (by (simp only [List.append_nil, go_sem]) <;> rfl) ?_).stp)
            rintro _ _ ⟨rfl, rfl⟩
            (simp only [aInts, aSets, List.append_nil, List.nil_append, List.length_map, go_sem]; refine hK1 _ ?_; clear hK1 K1)
            (repeat (first | (refine aw_seq ?_; intro K hK) | refine aw_block ?_ | refine aw_region ?_ | (refine lst_x rfl rfl ?_; intro K1 hK1; simp only [go_sem]; (first | refine hK1 _ ?_ | refine andk (hK1 _ ?_)); clear hK1 K1) | ((first | refine lst_nil ?_ | refine aw_skip ?_); refine hK _ ?_; clear hK K)))
            (refine lst_cons rfl ?_; intro K1 hK1; refine (stp_call0 (ids := []) (rlegal_fc c m (C2 ++ [y]) (by omega) bL) rfl rfl (by simp only [go_sem]) (by kernel_rfl) (by (simp only [List.append_nil, go_sem]) <;> rfl) ?_).stp)
            rintro _ _ ⟨rfl, rfl⟩
            (simp only [aInts, aSets, List.append_nil, List.nil_append, List.length_map, go_sem]; refine hK1 _ ?_; clear hK1 K1)
            (refine lst_cons rfl ?_; intro K1 hK1; refine stp_bne (a := legalB c m (C2 ++ [y])) (b := legalB c m (C2 ++ [y])) Tryz.underlying4 rfl rfl (by simp only [go_sem]) (by simp only [go_sem]) ?_; simp only [go_sem, beq_self_eq_true, Bool.not_true]; refine hK1 _ ?_; clear hK1 K1)
            (repeat (first | (refine aw_seq ?_; intro K hK) | refine aw_block ?_ | refine aw_region ?_ | (refine lst_x rfl rfl ?_; intro K1 hK1; simp only [go_sem]; (first | refine hK1 _ ?_ | refine andk (hK1 _ ?_)); clear hK1 K1) | ((first | refine lst_nil ?_ | refine aw_skip ?_); refine hK _ ?_; clear hK K)))
            (refine aw_cnd ?_; intro X Y hX hY; simp only [go_sem])
            refine hY ?_
            clear hX hY X Y
            (repeat (first | (refine aw_seq ?_; intro K hK) | refine aw_block ?_ | refine aw_region ?_ | (refine lst_x rfl rfl ?_; intro K1 hK1; simp only [go_sem]; (first | refine hK1 _ ?_ | refine andk (hK1 _ ?_)); clear hK1 K1) | ((first | refine lst_nil ?_ | refine aw_skip ?_); refine hK _ ?_; clear hK K)))
            ((try refine lst_nil ?_); (try refine aw_skip ?_); try simp only [ThenA])
            refine hK _ (k + 1, a4) ⟨by simp only; omega, by simp only; omega⟩ (by simp only; omega) ?_
            (refine le_tm ?_; simp only [LeTm, go_sem]; try simp)
      · clear hX hY X Y
        (refine aw_le (le_frz (r := ⟨32, 5, true, cSteps C2⟩) 1 (tSteps C2) rfl (fz_cst _) (show 0 < (5 : Nat) by omega)) ?_; simp only [ST.frz, A0.frz, AV.frz, C.frz, Nat.le_refl, List.set_cons_zero, List.set_cons_succ, go_sem, tSteps_len, half5, List.take_length])
        have htk2 : (tSteps C2).take (C2.length * 5) = tSteps C2 := List.take_of_length_le (Nat.le_of_eq (tSteps_len C2))
        simp only [htk2]
        have bL : ∀ z ∈ C2, z.Bd := fun z hz => (hg2 z hz).sz.bd
        (repeat (first | (refine aw_seq ?_; intro K hK) | refine aw_block ?_ | refine aw_region ?_ | (refine lst_x rfl rfl ?_; intro K1 hK1; simp only [go_sem]; (first | refine hK1 _ ?_ | refine andk (hK1 _ ?_)); clear hK1 K1) | ((first | refine lst_nil ?_ | refine aw_skip ?_); refine hK _ ?_; clear hK K)))
        refine aw_loop (fun p : Nat × Nat => { tm := [(1, .i c), (2, .i m), (7, .a (.c (.p 0 0))), (8, .i k), (9, .a (.c (.t 5 (tSteps (C2))))), (10, .i p.1)], hp := [.r ⟨51, 2, false, [.t 1 (tInts T), .v (.int .i64 p.2)]⟩], n := 57, pin := 0 }) (fun p => p.1 ≤ 11 ∧ p.2 ≤ a2 + p.1) (fun p => 11 - p.1) (0, a2) ?_ ?_ ?_
        · exact ⟨by simp, by simp⟩
        · refine Le.trans (le_pick [0] rfl rfl) ?_
          (try simp only [List.set_nil, List.take_nil, List.take_zero, List.map_append, go_sem])
          (refine le_tm ?_; simp only [LeTm, go_sem]; try simp)
        · rintro ⟨j, a4⟩ ⟨hj, ha4⟩ K hK
          simp only at hj ha4 ⊢
          (repeat (first | (refine aw_seq ?_; intro K hK) | refine aw_block ?_ | refine aw_region ?_ | (refine lst_x rfl rfl ?_; intro K1 hK1; simp only [go_sem]; (first | refine hK1 _ ?_ | refine andk (hK1 _ ?_)); clear hK1 K1) | ((first | refine lst_nil ?_ | refine aw_skip ?_); refine hK _ ?_; clear hK K)))
          (refine aw_cnd ?_; intro X Y hX hY; simp only [go_sem])
          refine ⟨fun h => hX ?_, fun h => hY ?_⟩
          · have hj1 : j < 11 := by simp at h; omega
            clear hX hY X Y h
            (repeat (first | (refine aw_seq ?_; intro K hK) | refine aw_block ?_ | refine aw_region ?_ | (refine lst_x rfl rfl ?_; intro K1 hK1; simp only [go_sem]; (first | refine hK1 _ ?_ | refine andk (hK1 _ ?_)); clear hK1 K1) | ((first | refine lst_nil ?_ | refine aw_skip ?_); refine hK _ ?_; clear hK K)))
            (refine lst_cons rfl ?_; intro K1 hK1; refine stp_callσ (ids := []) [0] (next_fc T a4 5 hT (by omega) (by omega)) rfl rfl (by simp only [go_sem]) (by first | assumption | kernel_rfl) rfl rfl (by (simp only [List.map_append, List.append_nil, go_sem]) <;> rfl) (by (simp only [pkh, tape, go_sem]) <;> rfl) ?_ ?_)
            · rintro _ _ ⟨rfl, v, rfl, _⟩; rfl
            rintro _ _ ⟨rfl, u, rfl, hu⟩
            (simp only [aInts, aSets, tape, List.append_nil, List.nil_append, List.length_map, go_sem]; refine hK1 _ ?_; clear hK1 K1)
            (repeat (first | (refine aw_seq ?_; intro K hK) | refine aw_block ?_ | refine aw_region ?_ | (refine lst_x rfl rfl ?_; intro K1 hK1; simp only [go_sem]; (first | refine hK1 _ ?_ | refine andk (hK1 _ ?_)); clear hK1 K1) | ((first | refine lst_nil ?_ | refine aw_skip ?_); refine hK _ ?_; clear hK K)))
            (refine lst_cons rfl ?_; intro K1 hK1; refine (stp_call0 (ids := []) (legal_fc (j : Int) (u : Int) (C2) (by omega) bL) rfl rfl (by simp only [go_sem]) (by kernel_rfl) (by (simp only [List.append_nil, go_sem]) <;> rfl) ?_).stp)
            rintro _ _ ⟨rfl, rfl⟩
            (simp only [aInts, aSets, List.append_nil, List.nil_append, List.length_map, go_sem]; refine hK1 _ ?_; clear hK1 K1)
            (repeat (first | (refine aw_seq ?_; intro K hK) | refine aw_block ?_ | refine aw_region ?_ | (refine lst_x rfl rfl ?_; intro K1 hK1; simp only [go_sem]; (first | refine hK1 _ ?_ | refine andk (hK1 _ ?_)); clear hK1 K1) | ((first | refine lst_nil ?_ | refine aw_skip ?_); refine hK _ ?_; clear hK K)))
            (refine lst_cons rfl ?_; intro K1 hK1; refine (stp_call0 (ids := []) (rlegal_fc (j : Int) (u : Int) (C2) (by omega) bL) rfl rfl (by simp only [go_sem]) (by kernel_rfl) (by (simp only [List.append_nil, go_sem]) <;> rfl) ?_).stp)
            rintro _ _ ⟨rfl, rfl⟩
            (simp only [aInts, aSets, List.append_nil, List.nil_append, List.length_map, go_sem]; refine hK1 _ ?_; clear hK1 K1)
            (refine lst_cons rfl ?_; intro K1 hK1; refine stp_bne (a := legalB (j : Int) (u : Int) (C2)) (b := legalB (j : Int) (u : Int) (C2)) Tryz.underlying4 rfl rfl (by simp only [go_sem]) (by simp only [go_sem]) ?_; simp only [go_sem, beq_self_eq_true, Bool.not_true]; refine hK1 _ ?_; clear hK1 K1)
            (repeat (first | (refine aw_seq ?_; intro K hK) | refine aw_block ?_ | refine aw_region ?_ | (refine lst_x rfl rfl ?_; intro K1 hK1; simp only [go_sem]; (first | refine hK1 _ ?_ | refine andk (hK1 _ ?_)); clear hK1 K1) | ((first | refine lst_nil ?_ | refine aw_skip ?_); refine hK _ ?_; clear hK K)))
            (refine aw_cnd ?_; intro X Y hX hY; simp only [go_sem])
            refine hY ?_
            clear hX hY X Y
            (repeat (first | (refine aw_seq ?_; intro K hK) | refine aw_block ?_ | refine aw_region ?_ | (refine lst_x rfl rfl ?_; intro K1 hK1; simp only [go_sem]; (first | refine hK1 _ ?_ | refine andk (hK1 _ ?_)); clear hK1 K1) | ((first | refine lst_nil ?_ | refine aw_skip ?_); refine hK _ ?_; clear hK K)))
            ((try refine lst_nil ?_); (try refine aw_skip ?_); try simp only [ThenA])
            refine hK _ (j + 1, a4 + 1) ⟨by simp only; omega, by simp only; omega⟩ (by simp only; omega) ?_
            (refine le_tm ?_; simp only [LeTm, go_sem]; try simp)
          · clear hX hY X Y
            (refine aw_exit ?_; simp only [ThenA, InBl, reduceIte, Nat.reduceEqDiff]; (first | refine hK _ ?_ | (clear hK K; refine hK _ ?_) | (clear hK K; clear hK K; refine hK _ ?_) | (clear hK K; clear hK K; clear hK K; refine hK _ ?_) | (clear hK K; clear hK K; clear hK K; clear hK K; refine hK _ ?_) | (clear hK K; clear hK K; clear hK K; clear hK K; clear hK K; refine hK _ ?_)); clear hK K)
            (repeat (first | (refine aw_seq ?_; intro K hK) | refine aw_block ?_ | refine aw_region ?_ | (refine lst_x rfl rfl ?_; intro K1 hK1; simp only [go_sem]; (first | refine hK1 _ ?_ | refine andk (hK1 _ ?_)); clear hK1 K1) | ((first | refine lst_nil ?_ | refine aw_skip ?_); refine hK _ ?_; clear hK K)))
            (refine lst_cons rfl ?_; intro K1 hK1; refine (stp_call0 (ids := []) (legal_fc c m (C2) (by omega) bL) rfl rfl (by simp only [go_sem]) (by kernel_rfl) (by (simp only [List.append_nil, go_sem]) <;> rfl) ?_).stp)
            rintro _ _ ⟨rfl, rfl⟩
            (simp only [aInts, aSets, List.append_nil, List.nil_append, List.length_map, go_sem]; refine hK1 _ ?_; clear hK1 K1)
            (repeat (first | (refine aw_seq ?_; intro K hK) | refine aw_block ?_ | refine aw_region ?_ | (refine lst_x rfl rfl ?_; intro K1 hK1; simp only [go_sem]; (first | refine hK1 _ ?_ | refine andk (hK1 _ ?_)); clear hK1 K1) | ((first | refine lst_nil ?_ | refine aw_skip ?_); refine hK _ ?_; clear hK K)))
            (refine lst_cons rfl ?_; intro K1 hK1; refine (stp_call0 (ids := []) (rlegal_fc c m (C2) (by omega) bL) rfl rfl (by simp only [go_sem]) (by kernel_rfl) (by (simp only [List.append_nil, go_sem]) <;> rfl) ?_).stp)
            rintro _ _ ⟨rfl, rfl⟩
            (simp only [aInts, aSets, List.append_nil, List.nil_append, List.length_map, go_sem]; refine hK1 _ ?_; clear hK1 K1)
            (refine lst_cons rfl ?_; intro K1 hK1; refine stp_bne (a := legalB c m (C2)) (b := legalB c m (C2)) Tryz.underlying4 rfl rfl (by simp only [go_sem]) (by simp only [go_sem]) ?_; simp only [go_sem, beq_self_eq_true, Bool.not_true]; refine hK1 _ ?_; clear hK1 K1)
            (repeat (first | (refine aw_seq ?_; intro K hK) | refine aw_block ?_ | refine aw_region ?_ | (refine lst_x rfl rfl ?_; intro K1 hK1; simp only [go_sem]; (first | refine hK1 _ ?_ | refine andk (hK1 _ ?_)); clear hK1 K1) | ((first | refine lst_nil ?_ | refine aw_skip ?_); refine hK _ ?_; clear hK K)))
            (refine aw_cnd ?_; intro X Y hX hY; simp only [go_sem])
            refine hY ?_
            clear hX hY X Y
            (repeat (first | (refine aw_seq ?_; intro K hK) | refine aw_block ?_ | refine aw_region ?_ | (refine lst_x rfl rfl ?_; intro K1 hK1; simp only [go_sem]; (first | refine hK1 _ ?_ | refine andk (hK1 _ ?_)); clear hK1 K1) | ((first | refine lst_nil ?_ | refine aw_skip ?_); refine hK _ ?_; clear hK K)))
            ((try refine lst_nil ?_); (try refine aw_skip ?_); try simp only [ThenA])
            refine hK _ (k + 1, a4) ⟨by simp only; omega, by simp only; omega⟩ (by simp only; omega) ?_
            (refine le_tm ?_; simp only [LeTm, go_sem]; try simp)
    · clear hX hY X Y
      (refine aw_exit ?_; simp only [ThenA, InBl, reduceIte, Nat.reduceEqDiff]; (first | refine hK _ ?_ | (clear hK K; refine hK _ ?_) | (clear hK K; clear hK K; refine hK _ ?_) | (clear hK K; clear hK K; clear hK K; refine hK _ ?_) | (clear hK K; clear hK K; clear hK K; clear hK K; refine hK _ ?_) | (clear hK K; clear hK K; clear hK K; clear hK K; clear hK K; refine hK _ ?_)); clear hK K)
      (repeat (first | (refine aw_seq ?_; intro K hK) | refine aw_block ?_ | refine aw_region ?_ | (refine lst_x rfl rfl ?_; intro K1 hK1; simp only [go_sem]; (first | refine hK1 _ ?_ | refine andk (hK1 _ ?_)); clear hK1 K1) | ((first | refine lst_nil ?_ | refine aw_skip ?_); refine hK _ ?_; clear hK K)))
      (refine lst_cons rfl ?_; intro K1 hK1; refine (stp_call0 (ids := []) (sane31_fc) rfl rfl (by simp only [go_sem]) (by kernel_rfl) (by (simp only [List.append_nil, go_sem]) <;> rfl) ?_).stp)
      rintro _ _ rfl
      (simp only [aInts, aSets, List.append_nil, List.nil_append, List.length_map, go_sem]; refine hK1 _ ?_; clear hK1 K1)
      (repeat (first | (refine aw_seq ?_; intro K hK) | refine aw_block ?_ | refine aw_region ?_ | (refine lst_x rfl rfl ?_; intro K1 hK1; simp only [go_sem]; (first | refine hK1 _ ?_ | refine andk (hK1 _ ?_)); clear hK1 K1) | ((first | refine lst_nil ?_ | refine aw_skip ?_); refine hK _ ?_; clear hK K)))
      ((try refine aw_ret ?_); (try refine lst_nil ?_); (try simp only [ThenA, InBl]); refine ret_mk (by first | exact .inl rfl | exact .inr rfl) rfl ?_; simp only [rtn, resA, resL, resV, Tryz.results5, go_sem])
end Go.Proofs.YthlckclbjknldaaGreat
