/- LegalityContexts, by the machine. -/
import Derived.Test.YthlckclbjknldaaGreatG29
import Derived.Test.YthlckclbjknldaaGreatG30
import Derived.Test.YthlckclbjknldaaGreatMbe
import Derived.Test.YthlckclbjknldaaGreatSan
namespace Go.Proofs.YthlckclbjknldaaGreat
set_option linter.unusedVariables false
set_option linter.unusedSimpArgs false
open Go.RowKit
set_option maxRecDepth 100000

def cChase : Cstep := ⟨8, [], [], [], []⟩
theorem ctx_chase (j : Nat) : ctxB (List.replicate j cChase) = decide (j ≤ 8) := by
  have : (List.replicate j cChase).all stepB = true := by
    rw [List.all_eq_true]
    intro x hx
    rw [List.eq_of_mem_replicate hx]
    decide
  rw [ctxB, this, List.length_replicate, Bool.and_true]
theorem chase_bd (j : Nat) : ∀ x ∈ List.replicate j cChase, x.Bd := fun x hx => by
  rw [List.eq_of_mem_replicate hx]
  exact ⟨by simp [cChase], by simp [cChase], by simp [cChase], by simp [cChase], by simp [cChase]⟩
theorem chase_snoc (j : Nat) : cSteps (List.replicate j cChase) ++ [.v (.int .i64 8), .t 1 [], .t 2 [], .t 2 [], .t 1 []] = cSteps (List.replicate (j + 1) cChase) := by
  rw [List.replicate_succ', ← cSteps_snoc]; rfl

theorem ctx4_fc (T : List Int) (hT : TpOk T) (a0 : Nat) (b : Bool) (ha : a0 ≤ 100000) :
    FC Tryz.prog 16 [.a (.c (.p 0 0)), .i 4, .b b] [tape T a0] (fun r o => ∃ (a' : Nat) (X : List Cstep), o = [tape T a'] ∧ r = aSteps X ∧ a' ≤ a0 + 161 ∧ X.length ≤ 4 ∧ ∀ x ∈ X, x.Ok) := ctx_fc T hT a0 4 b ha (by omega)
theorem ctxO2_fc (T : List Int) (hT : TpOk T) (a0 : Nat) (b : Bool) (ha : a0 ≤ 100000) :
    FC Tryz.prog 16 [.a (.c (.p 0 0)), .i 2, .b b] [tape T a0] (fun r o => ∃ (a' : Nat) (X : List Cstep), o = [tape T a', .r ⟨32, 5, true, cSteps X⟩] ∧ r = .a (.c (.s 1 X.length)) ∧ a' ≤ a0 + 81 ∧ X.length ≤ 2 ∧ ∀ x ∈ X, x.Ok) := by
  have := ctxO_fc T hT a0 2 b ha (by omega)
  exact this
set_option maxHeartbeats 2000000 in
theorem lawCtx_fc (T : List Int) (hT : TpOk T) (n : Int) : FC Tryz.prog 4 [aInts T, .i n] [] (fun r _ => r = .b true) := by
  refine fc_intro Tryz.func4 rfl (by rw [Tryz.ntmps4]; simp) ?_
  rw [Tryz.ntmps4]
  simp only [enum, aInts]
  (repeat (first | (refine aw_seq ?_; intro K hK) | refine aw_block ?_ | refine aw_region ?_ | (refine lst_x rfl rfl ?_; intro K1 hK1; simp only [go_sem]; (first | refine hK1 _ ?_ | refine andk (hK1 _ ?_)); clear hK1 K1) | ((first | refine lst_nil ?_ | refine aw_skip ?_); refine hK _ ?_; clear hK K)))
  (refine lst_cons rfl ?_; intro K1 hK1; refine (stp_call0 (ids := []) (new_fc T) rfl rfl (by simp only [go_sem]) (by kernel_rfl) (by (simp only [List.append_nil, go_sem]) <;> rfl) ?_).stp)
  rintro _ _ ⟨rfl, rfl⟩
  (simp only [aInts, aSets, tape, List.append_nil, List.nil_append, List.length_map, go_sem]; refine hK1 _ ?_; clear hK1 K1)
  (repeat (first | (refine aw_seq ?_; intro K hK) | refine aw_block ?_ | refine aw_region ?_ | (refine lst_x rfl rfl ?_; intro K1 hK1; simp only [go_sem]; (first | refine hK1 _ ?_ | refine andk (hK1 _ ?_)); clear hK1 K1) | ((first | refine lst_nil ?_ | refine aw_skip ?_); refine hK _ ?_; clear hK K)))
  refine aw_loop (fun p : Nat × Nat => { tm := [(1, .i n), (5, .a (.c (.p 0 0))), (6, .i p.1)], hp := [.r ⟨51, 2, false, [.t 1 (tInts T), .v (.int .i64 p.2)]⟩], n := 61, pin := 0 }) (fun p => p.1 ≤ 5 ∧ p.2 ≤ 300 * p.1) (fun p => 5 - p.1) (0, 0) ?_ ?_ ?_
  · exact ⟨by simp, by simp⟩
  · (refine le_tm ?_; simp only [LeTm, go_sem]; try simp)
  · rintro ⟨k, a⟩ ⟨hk, ha⟩ K hK
    simp only at hk ha ⊢
    (repeat (first | (refine aw_seq ?_; intro K hK) | refine aw_block ?_ | refine aw_region ?_ | (refine lst_x rfl rfl ?_; intro K1 hK1; simp only [go_sem]; (first | refine hK1 _ ?_ | refine andk (hK1 _ ?_)); clear hK1 K1) | ((first | refine lst_nil ?_ | refine aw_skip ?_); refine hK _ ?_; clear hK K)))
    (refine aw_cnd ?_; intro X Y hX hY; simp only [go_sem])
    refine ⟨fun h => hX ?_, fun h => hY ?_⟩
    · have hlt : k < 5 := by simp at h; omega
      clear hX hY X Y h
      (repeat (first | (refine aw_seq ?_; intro K hK) | refine aw_block ?_ | refine aw_region ?_ | (refine lst_x rfl rfl ?_; intro K1 hK1; simp only [go_sem]; (first | refine hK1 _ ?_ | refine andk (hK1 _ ?_)); clear hK1 K1) | ((first | refine lst_nil ?_ | refine aw_skip ?_); refine hK _ ?_; clear hK K)))
      (refine lst_cons rfl ?_; intro K1 hK1; refine stp_callσ (ids := []) [0] (ctx4_fc T hT a false (by omega)) rfl rfl (by simp only [go_sem]) (by first | assumption | kernel_rfl) rfl rfl (by (simp only [List.map_append, List.append_nil, go_sem]) <;> rfl) (by (simp only [pkh, tape, go_sem]) <;> rfl) ?_ ?_)
      · rintro _ _ ⟨_, _, rfl, rfl, _⟩; rfl
      rintro _ _ ⟨a1, C1, rfl, rfl, ha1, hl1, hg1⟩
      (simp only [aInts, aSets, tape, aSteps, List.append_nil, List.nil_append, List.length_map, go_sem]; refine hK1 _ ?_; clear hK1 K1)
      (repeat (first | (refine aw_seq ?_; intro K hK) | refine aw_block ?_ | refine aw_region ?_ | (refine lst_x rfl rfl ?_; intro K1 hK1; simp only [go_sem]; (first | refine hK1 _ ?_ | refine andk (hK1 _ ?_)); clear hK1 K1) | ((first | refine lst_nil ?_ | refine aw_skip ?_); refine hK _ ?_; clear hK K)))
      (refine lst_cons rfl ?_; intro K1 hK1; refine stp_callσ (ids := []) [0] (ctxO2_fc T hT a1 false (by omega)) rfl rfl (by simp only [go_sem]) (by first | assumption | kernel_rfl) rfl rfl (by (simp only [List.map_append, List.append_nil, go_sem]) <;> rfl) (by (simp only [pkh, tape, go_sem]) <;> rfl) ?_ ?_)
      · rintro _ _ ⟨_, _, rfl, rfl, _⟩; rfl
      rintro _ _ ⟨a2, C2, rfl, rfl, ha2, hl2, hg2⟩
      (simp only [aInts, aSets, tape, cSteps_up, List.append_nil, List.nil_append, List.length_map, go_sem]; refine hK1 _ ?_; clear hK1 K1)
      (repeat (first | (refine aw_seq ?_; intro K hK) | refine aw_block ?_ | refine aw_region ?_ | (refine lst_x rfl rfl ?_; intro K1 hK1; simp only [go_sem]; (first | refine hK1 _ ?_ | refine andk (hK1 _ ?_)); clear hK1 K1) | ((first | refine lst_nil ?_ | refine aw_skip ?_); refine hK _ ?_; clear hK K)))
      (refine lst_cons rfl ?_; intro K1 hK1; refine stp_callσ (ids := []) [0] (step_fc T hT a2 false (by omega)) rfl rfl (by simp only [go_sem]) (by first | assumption | kernel_rfl) rfl rfl (by (simp only [List.map_append, List.append_nil, go_sem]) <;> rfl) (by (simp only [pkh, tape, go_sem]) <;> rfl) ?_ ?_)
      · rintro _ _ ⟨_, _, rfl, rfl, _⟩; rfl
      rintro _ _ ⟨a3, x, rfl, rfl, ha3, hx⟩
      (simp only [aInts, aSets, tape, cSteps_up, Cstep.av, Cstep.cells, List.append_nil, List.nil_append, List.length_map, go_sem]; refine hK1 _ ?_; clear hK1 K1)
      (repeat (first | (refine aw_seq ?_; intro K hK) | refine aw_block ?_ | refine aw_region ?_ | (refine lst_x rfl rfl ?_; intro K1 hK1; simp only [go_sem]; (first | refine hK1 _ ?_ | refine andk (hK1 _ ?_)); clear hK1 K1) | ((first | refine lst_nil ?_ | refine aw_skip ?_); refine hK _ ?_; clear hK K)))
      (refine lst_cons rfl ?_; intro K1 hK1; refine stp_callσ (ids := []) [0] (spst_fc T hT a3 x hx.sz (by omega)) rfl rfl (by simp only [go_sem]) (by first | assumption | kernel_rfl) rfl rfl (by (simp only [List.map_append, List.append_nil, go_sem]) <;> rfl) (by (simp only [pkh, tape, Cstep.av, Cstep.cells, go_sem]) <;> rfl) ?_ ?_)
      · rintro _ _ ⟨_, _, rfl, rfl, _⟩; rfl
      rintro _ _ ⟨a4, y, rfl, rfl, ha4, hy⟩
      (simp only [aInts, aSets, tape, cSteps_up, Cstep.av, Cstep.cells, List.append_nil, List.nil_append, List.length_map, go_sem]; refine hK1 _ ?_; clear hK1 K1)
      have hlc := List.take_of_length_le (Nat.le_of_eq (cSteps_len C2))
      have e2 : (C2 ++ [y]).length = C2.length + 1 := by simp
      (repeat (first | (refine aw_seq ?_; intro K hK) | refine aw_block ?_ | refine aw_region ?_ | (refine lst_x rfl rfl ?_; intro K1 hK1; simp only [go_sem, List.set_cons_zero, List.set_cons_succ, List.take_succ_cons, List.take_zero, List.drop_zero, cSteps_len, half5, cSteps_one, cSteps_pl, cSteps_snocL, hlc]; (first | refine hK1 _ ?_ | refine andk (hK1 _ ?_)); clear hK1 K1) | ((first | refine lst_nil ?_ | refine aw_skip ?_); refine hK _ ?_; clear hK K)))
      (refine lst_le (le_frz (r := ⟨32, 5, true, cSteps (C2 ++ [y])⟩) 5 (tSteps (C2 ++ [y])) rfl (fz_cst _) (show 0 < (5 : Nat) by omega)) ?_; simp only [ST.frz, A0.frz, AV.frz, C.frz, Nat.le_refl, List.set_cons_zero, List.set_cons_succ, go_sem, tSteps_len, half5, e2, List.take_length])
      have htk2 : (tSteps (C2 ++ [y])).take ((C2.length + 1) * 5) = tSteps (C2 ++ [y]) := List.take_of_length_le (Nat.le_of_eq (by rw [tSteps_len, e2]))
      simp only [htk2]
      have b1 : ∀ z ∈ C1, z.Bd := fun z hz => (hg1 z hz).sz.bd
      have b2 : ∀ z ∈ C2 ++ [y], z.Bd := fun z hz => by
        rcases List.mem_append.1 hz with hz | hz
        · exact (hg2 z hz).sz.bd
        · simp at hz; subst hz; exact hy.bd
      (repeat (first | (refine aw_seq ?_; intro K hK) | refine aw_block ?_ | refine aw_region ?_ | (refine lst_x rfl rfl ?_; intro K1 hK1; simp only [go_sem]; (first | refine hK1 _ ?_ | refine andk (hK1 _ ?_)); clear hK1 K1) | ((first | refine lst_nil ?_ | refine aw_skip ?_); refine hK _ ?_; clear hK K)))
      (refine lst_cons rfl ?_; intro K1 hK1; refine (stp_call0 (ids := []) (vctx_fc C1 (by omega) b1) rfl rfl (by simp only [go_sem]) (by kernel_rfl) (by (simp only [List.append_nil, go_sem]) <;> rfl) ?_).stp)
      rintro _ _ ⟨rfl, rfl⟩
      (simp only [aInts, aSets, List.append_nil, List.nil_append, List.length_map, go_sem]; refine hK1 _ ?_; clear hK1 K1)
      (repeat (first | (refine aw_seq ?_; intro K hK) | refine aw_block ?_ | refine aw_region ?_ | (refine lst_x rfl rfl ?_; intro K1 hK1; simp only [go_sem]; (first | refine hK1 _ ?_ | refine andk (hK1 _ ?_)); clear hK1 K1) | ((first | refine lst_nil ?_ | refine aw_skip ?_); refine hK _ ?_; clear hK K)))
      (refine lst_cons rfl ?_; intro K1 hK1; refine (stp_call0 (ids := []) (rctx_fc C1 (by omega) b1) rfl rfl (by simp only [go_sem]) (by kernel_rfl) (by (simp only [List.append_nil, go_sem]) <;> rfl) ?_).stp)
      rintro _ _ ⟨rfl, rfl⟩
      (simp only [aInts, aSets, List.append_nil, List.nil_append, List.length_map, go_sem]; refine hK1 _ ?_; clear hK1 K1)
      (repeat (first | (refine aw_seq ?_; intro K hK) | refine aw_block ?_ | refine aw_region ?_ | (refine lst_x rfl rfl ?_; intro K1 hK1; simp only [go_sem]; (first | refine hK1 _ ?_ | refine andk (hK1 _ ?_)); clear hK1 K1) | ((first | refine lst_nil ?_ | refine aw_skip ?_); refine hK _ ?_; clear hK K)))
      (refine lst_cons rfl ?_; intro K1 hK1; refine stp_bne (a := ctxB C1) (b := ctxB C1) Tryz.underlying4 rfl rfl (by simp only [go_sem]) (by simp only [go_sem]) ?_; simp only [go_sem, beq_self_eq_true, Bool.not_true]; refine hK1 _ ?_; clear hK1 K1)
      (repeat (first | (refine aw_seq ?_; intro K hK) | refine aw_block ?_ | refine aw_region ?_ | (refine lst_x rfl rfl ?_; intro K1 hK1; simp only [go_sem]; (first | refine hK1 _ ?_ | refine andk (hK1 _ ?_)); clear hK1 K1) | ((first | refine lst_nil ?_ | refine aw_skip ?_); refine hK _ ?_; clear hK K)))
      (refine lst_goU rfl rfl (by simp only [go_sem] <;> rfl) ?_; intro K1 hK1; refine (stp_call0 (ids := []) (vctx_fc (C2 ++ [y]) (by omega) b2) rfl rfl (by simp only [go_sem]) (by kernel_rfl) (by (simp only [List.append_nil, go_sem]) <;> rfl) ?_).stp)
      rintro _ _ ⟨rfl, rfl⟩
      (simp only [aInts, aSets, List.append_nil, List.nil_append, List.length_map, go_sem]; refine hK1 _ ?_; clear hK1 K1)
      (repeat (first | (refine aw_seq ?_; intro K hK) | refine aw_block ?_ | refine aw_region ?_ | (refine lst_x rfl rfl ?_; intro K1 hK1; simp only [go_sem]; (first | refine hK1 _ ?_ | refine andk (hK1 _ ?_)); clear hK1 K1) | ((first | refine lst_nil ?_ | refine aw_skip ?_); refine hK _ ?_; clear hK K)))
      (refine lst_goU rfl rfl (by simp only [go_sem] <;> rfl) ?_; intro K1 hK1; refine (stp_call0 (ids := []) (rctx_fc (C2 ++ [y]) (by omega) b2) rfl rfl (by simp only [go_sem]) (by kernel_rfl) (by (simp only [List.append_nil, go_sem]) <;> rfl) ?_).stp)
      rintro _ _ ⟨rfl, rfl⟩
      (simp only [aInts, aSets, List.append_nil, List.nil_append, List.length_map, go_sem]; refine hK1 _ ?_; clear hK1 K1)
      (repeat (first | (refine aw_seq ?_; intro K hK) | refine aw_block ?_ | refine aw_region ?_ | (refine lst_x rfl rfl ?_; intro K1 hK1; simp only [go_sem]; (first | refine hK1 _ ?_ | refine andk (hK1 _ ?_)); clear hK1 K1) | ((first | refine lst_nil ?_ | refine aw_skip ?_); refine hK _ ?_; clear hK K)))
      (refine lst_goU rfl rfl (by simp only [go_sem] <;> rfl) ?_; intro K1 hK1; refine stp_bne (a := ctxB (C2 ++ [y])) (b := ctxB (C2 ++ [y])) Tryz.underlying4 rfl rfl (by simp only [go_sem]) (by simp only [go_sem]) ?_; simp only [go_sem, beq_self_eq_true, Bool.not_true]; refine hK1 _ ?_; clear hK1 K1)
      (repeat (first | (refine aw_seq ?_; intro K hK) | refine aw_block ?_ | refine aw_region ?_ | (refine lst_x rfl rfl ?_; intro K1 hK1; simp only [go_sem]; (first | refine hK1 _ ?_ | refine andk (hK1 _ ?_)); clear hK1 K1) | ((first | refine lst_nil ?_ | refine aw_skip ?_); refine hK _ ?_; clear hK K)))
      (refine aw_cnd ?_; intro X Y hX hY; simp only [go_sem])
      refine hY ?_
      clear hX hY X Y
      (repeat (first | (refine aw_seq ?_; intro K hK) | refine aw_block ?_ | refine aw_region ?_ | (refine lst_x rfl rfl ?_; intro K1 hK1; simp only [go_sem]; (first | refine hK1 _ ?_ | refine andk (hK1 _ ?_)); clear hK1 K1) | ((first | refine lst_nil ?_ | refine aw_skip ?_); refine hK _ ?_; clear hK K)))
      ((try refine lst_nil ?_); (try refine aw_skip ?_); try simp only [ThenA])
      refine hK _ (k + 1, a4) ⟨by simp only; omega, by simp only; omega⟩ (by simp only; omega) ?_
      refine Le.trans (le_pick [0] rfl rfl) ?_
      (try simp only [List.set_nil, List.take_nil, List.take_zero, List.map_append, go_sem])
      (refine le_tm ?_; simp only [LeTm, go_sem]; try simp)
    · clear hX hY X Y
      (refine aw_exit ?_; simp only [ThenA, InBl, reduceIte, Nat.reduceEqDiff]; (first | refine hK _ ?_ | (clear hK K; refine hK _ ?_) | (clear hK K; clear hK K; refine hK _ ?_) | (clear hK K; clear hK K; clear hK K; refine hK _ ?_) | (clear hK K; clear hK K; clear hK K; clear hK K; refine hK _ ?_) | (clear hK K; clear hK K; clear hK K; clear hK K; clear hK K; refine hK _ ?_)); clear hK K)
      (repeat (first | (refine aw_seq ?_; intro K hK) | refine aw_block ?_ | refine aw_region ?_ | (refine lst_x rfl rfl ?_; intro K1 hK1; simp only [go_sem]; (first | refine hK1 _ ?_ | refine andk (hK1 _ ?_)); clear hK1 K1) | ((first | refine lst_nil ?_ | refine aw_skip ?_); refine hK _ ?_; clear hK K)))
      refine aw_le (le_pick [] rfl rfl) ?_
      (try simp only [List.set_nil, List.take_nil, List.take_zero, List.map_append, go_sem])
      refine aw_le (le_nil 9 32 5 ?_) ?_
      · simp only [go_sem]
      refine aw_loop (fun j : Nat => { tm := [(1, .i n), (9, .a (.c (.s 0 j))), (10, .i j)], hp := [.r ⟨32, 5, true, cSteps (List.replicate j cChase)⟩], n := 61, pin := 0 }) (fun j => j ≤ 12) (fun j => 12 - j) 0 ?_ ?_ ?_
      · omega
      · (refine le_tm ?_; simp only [LeTm, go_sem, cSteps, List.replicate_zero, List.flatMap_nil]; try simp)
      · rintro j hj K hK
        by_cases hlt : (j : Int) < n ∧ j < 12
        · have d1 : decide ((j : Int) < n) = true := by simpa using hlt.1
          have d2 : decide ((j : Int) < 12) = true := by simp; omega
          (repeat (first | (refine aw_seq ?_; intro K hK) | refine aw_block ?_ | refine aw_region ?_ | (refine lst_x rfl rfl ?_; intro K1 hK1; simp only [go_sem, d1, d2]; (first | refine hK1 _ ?_ | refine andk (hK1 _ ?_)); clear hK1 K1) | ((first | refine lst_nil ?_ | refine aw_skip ?_); refine hK _ ?_; clear hK K)))
          (refine aw_cnd ?_; intro X Y hX hY; simp only [go_sem])
          refine hX ?_
          clear hX hY X Y
          (repeat (first | (refine aw_seq ?_; intro K hK) | refine aw_block ?_ | refine aw_region ?_ | ((first | refine lst_nil ?_ | refine aw_skip ?_); refine hK _ ?_; clear hK K)))
          (refine lst_cons rfl ?_; intro K1 hK1; refine stp_ev rfl ?_; simp only [go_sem, List.set_cons_zero, List.set_cons_succ, List.map_cons, List.map_nil, List.take_succ_cons, List.take_zero, List.drop_zero, List.drop_succ_cons, C.pl, C.one, List.all_cons, List.all_nil, Bool.and_true]; (first | refine hK1 _ ?_ | refine andk (hK1 _ ?_)); clear hK1 K1)
          (refine lst_cons rfl ?_; intro K1 hK1; refine stp_ev rfl ?_; simp only [go_sem, List.set_cons_zero, List.set_cons_succ, List.map_cons, List.map_nil, List.take_succ_cons, List.take_zero, List.drop_zero, List.drop_succ_cons, C.pl, C.one, List.all_cons, List.all_nil, Bool.and_true]; (first | refine hK1 _ ?_ | refine andk (hK1 _ ?_)); clear hK1 K1)
          (refine lst_cons rfl ?_; intro K1 hK1; refine stp_ev rfl ?_; simp only [go_sem, List.set_cons_zero, List.set_cons_succ, List.map_cons, List.map_nil, List.take_succ_cons, List.take_zero, List.drop_zero, List.drop_succ_cons, C.pl, C.one, List.all_cons, List.all_nil, Bool.and_true]; (first | refine hK1 _ ?_ | refine andk (hK1 _ ?_)); clear hK1 K1)
          refine lst_le (le_nt 1 [1, 1, 2, 2, 1] rfl) ?_
          simp only [ntA, ntC, otC, List.set_cons_zero, List.set_cons_succ]
          have hlc := List.take_of_length_le (Nat.le_of_eq (cSteps_len (List.replicate j cChase)))
          rw [List.length_replicate] at hlc
          (repeat (first | (refine aw_seq ?_; intro K hK) | refine aw_block ?_ | refine aw_region ?_ | (refine lst_x rfl rfl ?_; intro K1 hK1; simp only [go_sem, List.set_cons_zero, List.set_cons_succ, List.take_succ_cons, List.take_zero, List.drop_zero, cSteps_len, List.length_replicate, half5, cSteps_one, cSteps_pl, chase_snoc, hlc]; (first | refine hK1 _ ?_ | refine andk (hK1 _ ?_)); clear hK1 K1) | ((first | refine lst_nil ?_ | refine aw_skip ?_); refine hK _ ?_; clear hK K)))
          ((try refine lst_nil ?_); (try refine aw_skip ?_); try simp only [ThenA])
          refine hK _ (j + 1) (by omega) (by omega) ?_
          refine Le.trans (le_pick [2] rfl rfl) ?_
          (try simp only [List.set_nil, List.take_nil, List.take_zero, List.map_append, go_sem])
          simp only [cSteps_ren]
          (refine le_tm ?_; simp only [LeTm, go_sem]; try simp)
        · have key : (decide ((j : Int) < n) = true ∧ decide ((j : Int) < 12) = false) ∨ decide ((j : Int) < n) = false := by
            by_cases h1 : (j : Int) < n
            · exact .inl ⟨by simpa using h1, by simp; omega⟩
            · exact .inr (by simpa using h1)
          rcases key with ⟨d1, d2⟩ | d1
          · (repeat (first | (refine aw_seq ?_; intro K hK) | refine aw_block ?_ | refine aw_region ?_ | (refine lst_x rfl rfl ?_; intro K1 hK1; simp only [go_sem, d1, d2]; (first | refine hK1 _ ?_ | refine andk (hK1 _ ?_)); clear hK1 K1) | ((first | refine lst_nil ?_ | refine aw_skip ?_); refine hK _ ?_; clear hK K)))
            (refine aw_cnd ?_; intro X Y hX hY; simp only [go_sem])
            refine hY ?_
            clear hX hY X Y
            (refine aw_exit ?_; simp only [ThenA, InBl, reduceIte, Nat.reduceEqDiff]; (first | refine hK _ ?_ | (clear hK K; refine hK _ ?_) | (clear hK K; clear hK K; refine hK _ ?_) | (clear hK K; clear hK K; clear hK K; refine hK _ ?_) | (clear hK K; clear hK K; clear hK K; clear hK K; refine hK _ ?_) | (clear hK K; clear hK K; clear hK K; clear hK K; clear hK K; refine hK _ ?_)); clear hK K)
            (refine aw_le (le_frz (r := ⟨32, 5, true, cSteps (List.replicate j cChase)⟩) 0 (tSteps (List.replicate j cChase)) rfl (fz_cst _) (show 0 < (5 : Nat) by omega)) ?_; simp only [ST.frz, A0.frz, AV.frz, C.frz, Nat.le_refl, List.set_cons_zero, List.set_cons_succ, go_sem, tSteps_len, half5, List.length_replicate, List.take_of_length_le (Nat.le_of_eq (tSteps_len (List.replicate j cChase))), List.take_length])
            have htk : (tSteps (List.replicate j cChase)).take (j * 5) = tSteps (List.replicate j cChase) := List.take_of_length_le (Nat.le_of_eq (by rw [tSteps_len, List.length_replicate]))
            (try simp only [htk])
            (repeat (first | (refine aw_seq ?_; intro K hK) | refine aw_block ?_ | refine aw_region ?_ | (refine lst_x rfl rfl ?_; intro K1 hK1; simp only [go_sem]; (first | refine hK1 _ ?_ | refine andk (hK1 _ ?_)); clear hK1 K1) | ((first | refine lst_nil ?_ | refine aw_skip ?_); refine hK _ ?_; clear hK K)))
            (refine lst_cons rfl ?_; intro K1 hK1; refine (stp_call0 (ids := []) (vctx_fc (List.replicate j cChase) (by rw [List.length_replicate]; omega) (chase_bd j)) rfl rfl (by simp only [go_sem]) (by kernel_rfl) (by (simp only [List.append_nil, go_sem]) <;> rfl) ?_).stp)
            rintro _ _ ⟨rfl, rfl⟩
            (simp only [aInts, aSets, List.append_nil, List.nil_append, List.length_map, go_sem]; refine hK1 _ ?_; clear hK1 K1)
            have e8 : (ctxB (List.replicate j cChase) == decide ((j : Int) ≤ 8)) = true := by
              rw [ctx_chase]; simp; omega
            (repeat (first | (refine aw_seq ?_; intro K hK) | refine aw_block ?_ | refine aw_region ?_ | (refine lst_x rfl rfl ?_; intro K1 hK1; simp only [go_sem, tSteps_len, half5, List.length_replicate]; (first | refine hK1 _ ?_ | refine andk (hK1 _ ?_)); clear hK1 K1) | ((first | refine lst_nil ?_ | refine aw_skip ?_); refine hK _ ?_; clear hK K)))
            (refine lst_cons rfl ?_; intro K1 hK1; refine stp_beq (a := ctxB (List.replicate j cChase)) (b := decide ((j : Int) ≤ 8)) Tryz.underlying4 rfl rfl (by simp only [go_sem]) (by simp only [go_sem]) ?_; simp only [go_sem, e8]; refine hK1 _ ?_; clear hK1 K1)
            (repeat (first | (refine aw_seq ?_; intro K hK) | refine aw_block ?_ | refine aw_region ?_ | (refine lst_x rfl rfl ?_; intro K1 hK1; simp only [go_sem]; (first | refine hK1 _ ?_ | refine andk (hK1 _ ?_)); clear hK1 K1) | ((first | refine lst_nil ?_ | refine aw_skip ?_); refine hK _ ?_; clear hK K)))
            (refine lst_goU rfl rfl (by simp only [go_sem] <;> rfl) ?_; intro K1 hK1; refine (stp_call0 (ids := []) (sane31_fc) rfl rfl (by simp only [go_sem]) (by kernel_rfl) (by (simp only [List.append_nil, go_sem]) <;> rfl) ?_).stp)
            rintro _ _ rfl
            (simp only [aInts, aSets, List.append_nil, List.nil_append, List.length_map, go_sem]; refine hK1 _ ?_; clear hK1 K1)
            (repeat (first | (refine aw_seq ?_; intro K hK) | refine aw_block ?_ | refine aw_region ?_ | (refine lst_x rfl rfl ?_; intro K1 hK1; simp only [go_sem]; (first | refine hK1 _ ?_ | refine andk (hK1 _ ?_)); clear hK1 K1) | ((first | refine lst_nil ?_ | refine aw_skip ?_); refine hK _ ?_; clear hK K)))
            ((try refine aw_ret ?_); (try refine lst_nil ?_); (try simp only [ThenA, InBl]); refine ret_mk (by first | exact .inl rfl | exact .inr rfl) rfl ?_; simp only [rtn, resA, resL, resV, Tryz.results4, go_sem])
          · (repeat (first | (refine aw_seq ?_; intro K hK) | refine aw_block ?_ | refine aw_region ?_ | (refine lst_x rfl rfl ?_; intro K1 hK1; simp only [go_sem, d1]; (first | refine hK1 _ ?_ | refine andk (hK1 _ ?_)); clear hK1 K1) | ((first | refine lst_nil ?_ | refine aw_skip ?_); refine hK _ ?_; clear hK K)))
            (refine aw_cnd ?_; intro X Y hX hY; simp only [go_sem])
            refine hY ?_
            clear hX hY X Y
            (refine aw_exit ?_; simp only [ThenA, InBl, reduceIte, Nat.reduceEqDiff]; (first | refine hK _ ?_ | (clear hK K; refine hK _ ?_) | (clear hK K; clear hK K; refine hK _ ?_) | (clear hK K; clear hK K; clear hK K; refine hK _ ?_) | (clear hK K; clear hK K; clear hK K; clear hK K; refine hK _ ?_) | (clear hK K; clear hK K; clear hK K; clear hK K; clear hK K; refine hK _ ?_)); clear hK K)
            (refine aw_le (le_frz (r := ⟨32, 5, true, cSteps (List.replicate j cChase)⟩) 0 (tSteps (List.replicate j cChase)) rfl (fz_cst _) (show 0 < (5 : Nat) by omega)) ?_; simp only [ST.frz, A0.frz, AV.frz, C.frz, Nat.le_refl, List.set_cons_zero, List.set_cons_succ, go_sem, tSteps_len, half5, List.length_replicate, List.take_of_length_le (Nat.le_of_eq (tSteps_len (List.replicate j cChase))), List.take_length])
            have htk : (tSteps (List.replicate j cChase)).take (j * 5) = tSteps (List.replicate j cChase) := List.take_of_length_le (Nat.le_of_eq (by rw [tSteps_len, List.length_replicate]))
            (try simp only [htk])
            (repeat (first | (refine aw_seq ?_; intro K hK) | refine aw_block ?_ | refine aw_region ?_ | (refine lst_x rfl rfl ?_; intro K1 hK1; simp only [go_sem]; (first | refine hK1 _ ?_ | refine andk (hK1 _ ?_)); clear hK1 K1) | ((first | refine lst_nil ?_ | refine aw_skip ?_); refine hK _ ?_; clear hK K)))
            (refine lst_cons rfl ?_; intro K1 hK1; refine (stp_call0 (ids := []) (vctx_fc (List.replicate j cChase) (by rw [List.length_replicate]; omega) (chase_bd j)) rfl rfl (by simp only [go_sem]) (by kernel_rfl) (by (simp only [List.append_nil, go_sem]) <;> rfl) ?_).stp)
            rintro _ _ ⟨rfl, rfl⟩
            (simp only [aInts, aSets, List.append_nil, List.nil_append, List.length_map, go_sem]; refine hK1 _ ?_; clear hK1 K1)
            have e8 : (ctxB (List.replicate j cChase) == decide ((j : Int) ≤ 8)) = true := by
              rw [ctx_chase]; simp; omega
            (repeat (first | (refine aw_seq ?_; intro K hK) | refine aw_block ?_ | refine aw_region ?_ | (refine lst_x rfl rfl ?_; intro K1 hK1; simp only [go_sem, tSteps_len, half5, List.length_replicate]; (first | refine hK1 _ ?_ | refine andk (hK1 _ ?_)); clear hK1 K1) | ((first | refine lst_nil ?_ | refine aw_skip ?_); refine hK _ ?_; clear hK K)))
            (refine lst_cons rfl ?_; intro K1 hK1; refine stp_beq (a := ctxB (List.replicate j cChase)) (b := decide ((j : Int) ≤ 8)) Tryz.underlying4 rfl rfl (by simp only [go_sem]) (by simp only [go_sem]) ?_; simp only [go_sem, e8]; refine hK1 _ ?_; clear hK1 K1)
            (repeat (first | (refine aw_seq ?_; intro K hK) | refine aw_block ?_ | refine aw_region ?_ | (refine lst_x rfl rfl ?_; intro K1 hK1; simp only [go_sem]; (first | refine hK1 _ ?_ | refine andk (hK1 _ ?_)); clear hK1 K1) | ((first | refine lst_nil ?_ | refine aw_skip ?_); refine hK _ ?_; clear hK K)))
            (refine lst_goU rfl rfl (by simp only [go_sem] <;> rfl) ?_; intro K1 hK1; refine (stp_call0 (ids := []) (sane31_fc) rfl rfl (by simp only [go_sem]) (by kernel_rfl) (by (simp only [List.append_nil, go_sem]) <;> rfl) ?_).stp)
            rintro _ _ rfl
            (simp only [aInts, aSets, List.append_nil, List.nil_append, List.length_map, go_sem]; refine hK1 _ ?_; clear hK1 K1)
            (repeat (first | (refine aw_seq ?_; intro K hK) | refine aw_block ?_ | refine aw_region ?_ | (refine lst_x rfl rfl ?_; intro K1 hK1; simp only [go_sem]; (first | refine hK1 _ ?_ | refine andk (hK1 _ ?_)); clear hK1 K1) | ((first | refine lst_nil ?_ | refine aw_skip ?_); refine hK _ ?_; clear hK K)))
            ((try refine aw_ret ?_); (try refine lst_nil ?_); (try simp only [ThenA, InBl]); refine ret_mk (by first | exact .inl rfl | exact .inr rfl) rfl ?_; simp only [rtn, resA, resL, resV, Tryz.results4, go_sem])
end Go.Proofs.YthlckclbjknldaaGreat
