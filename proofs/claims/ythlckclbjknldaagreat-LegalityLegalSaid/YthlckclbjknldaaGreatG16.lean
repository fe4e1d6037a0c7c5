/- A context drawn from the tape. -/
import Derived.Test.YthlckclbjknldaaGreatG15
namespace Go.Proofs.YthlckclbjknldaaGreat
set_option linter.unusedVariables false
set_option linter.unusedSimpArgs false
open Go.RowKit
set_option maxRecDepth 100000

def Cstep.trs (x : Cstep) : List Tr := [.v (.int .i64 x.k), .l 1 (tInts x.s), .l 2 (tArcs x.m), .l 2 (tArcs x.o), .l 1 (tRows x.R)]
def cSteps (X : List Cstep) : List C := X.flatMap Cstep.cells
def tSteps (X : List Cstep) : List Tr := X.flatMap Cstep.trs
def aSteps (X : List Cstep) : AV := .a (.c (.t 5 (tSteps X)))
theorem cSteps_len (X : List Cstep) : (cSteps X).length = X.length * 5 := by
  induction X with
  | nil => rfl
  | cons x r ih =>
    have : cSteps (x :: r) = x.cells ++ cSteps r := rfl
    rw [this, List.length_append, ih]; simp [Cstep.cells]; omega
theorem tSteps_len (X : List Cstep) : (tSteps X).length = X.length * 5 := by
  induction X with
  | nil => rfl
  | cons x r ih =>
    have : tSteps (x :: r) = x.trs ++ tSteps r := rfl
    rw [this, List.length_append, ih]; simp [Cstep.trs]; omega
theorem cSteps_snoc (X : List Cstep) (x : Cstep) : cSteps X ++ x.cells = cSteps (X ++ [x]) := by simp [cSteps]
theorem cSteps_snocL (X : List Cstep) (x : Cstep) : cSteps X ++ [.v (.int .i64 x.k), .t 1 (tInts x.s), .t 2 (tArcs x.m), .t 2 (tArcs x.o), .t 1 (tRows x.R)] = cSteps (X ++ [x]) := cSteps_snoc X x
theorem cSteps_ren (f : List Nat) (L : List Cstep) : (cSteps L).map (C.ren f) = cSteps L := by
  simp [cSteps, Cstep.cells, List.map_flatMap, C.ren]
  rfl
theorem cSteps_up (f : Nat → Nat) (L : List Cstep) : (cSteps L).map (C.up f) = cSteps L := by
  simp [cSteps, Cstep.cells, List.map_flatMap, C.up]
  rfl
theorem cSteps_one (xs : List Cstep) : (cSteps xs).all C.one = true := by simp [cSteps, Cstep.cells, C.one]
theorem cSteps_pl (xs : List Cstep) : (cSteps xs).all C.pl = true := by simp [cSteps, Cstep.cells, C.pl]
theorem half5 (n : Nat) : n * 5 / 5 = n := by omega
theorem fz_cst (L : List Cstep) : Fz (cSteps L) (tSteps L) := by
  unfold cSteps tSteps
  exact Fz.flatMap fun x _ => ⟨.inl rfl, .inl rfl, .inl rfl, .inl rfl, .inl rfl, trivial⟩

theorem ctx_fc (T : List Int) (hT : TpOk T) (a0 n : Nat) (b : Bool) (ha : a0 ≤ 100000) (hn : n ≤ 20) :
    FC Tryz.prog 16 [.a (.c (.p 0 0)), .i n, .b b] [tape T a0] (fun r o => ∃ (a' : Nat) (X : List Cstep), o = [tape T a'] ∧ r = aSteps X ∧ a' ≤ a0 + 1 + 40 * n ∧ X.length ≤ n ∧ ∀ x ∈ X, x.Ok) := by
  refine fc_intro Tryz.func16 rfl (by rw [Tryz.ntmps16]; simp) ?_
  rw [Tryz.ntmps16]
  simp only [enum, tape]
  (repeat (first | (refine aw_seq ?_; intro K hK) | refine aw_block ?_ | refine aw_region ?_ | (refine lst_x rfl rfl ?_; intro K1 hK1; simp only [go_sem]; (first | refine hK1 _ ?_ | refine andk (hK1 _ ?_)); clear hK1 K1) | ((first | refine lst_nil ?_ | refine aw_skip ?_); refine hK _ ?_; clear hK K)))
  (refine lst_cons rfl ?_; intro K1 hK1; refine stp_callσ (ids := []) [0] (next_fc T a0 ((n : Int) + 1) hT (by omega) (by omega)) rfl rfl (by simp only [go_sem]) (by first | assumption | kernel_rfl) rfl rfl (by (simp only [List.map_append, List.append_nil, go_sem]) <;> rfl) (by (simp only [pkh, tape, go_sem]) <;> rfl) ?_ ?_)
  · rintro _ _ ⟨rfl, v, rfl, _⟩; rfl
  rintro _ _ ⟨rfl, v0, rfl, hv⟩
  (simp only [aInts, aSets, tape, List.append_nil, List.nil_append, List.length_map, go_sem]; refine hK1 _ ?_; clear hK1 K1)
  (repeat (first | (refine aw_seq ?_; intro K hK) | refine aw_block ?_ | refine aw_region ?_ | (refine lst_x rfl rfl ?_; intro K1 hK1; simp only [go_sem]; (first | refine hK1 _ ?_ | refine andk (hK1 _ ?_)); clear hK1 K1) | ((first | refine lst_nil ?_ | refine aw_skip ?_); refine hK _ ?_; clear hK K)))
  refine aw_le (le_nil 7 32 5 ?_) ?_
  · simp only [go_sem]
  refine aw_loop (fun p : Nat × List Cstep × Nat => { tm := [(0, .a (.c (.p 0 0))), (2, .b b), (7, .a (.c (.s 1 p.2.1.length))), (8, .i p.1)], hp := [.r ⟨51, 2, false, [.t 1 (tInts T), .v (.int .i64 p.2.2)]⟩, .r ⟨32, 5, true, cSteps p.2.1⟩], n := 24, pin := 1 })
    (fun p => p.2.1.length + p.1 ≤ n ∧ p.2.2 + 40 * p.1 ≤ a0 + 1 + 40 * n ∧ ∀ s ∈ p.2.1, s.Ok) (fun p => p.1) (v0, [], a0 + 1) ?_ ?_ ?_
  · exact ⟨by simp; omega, by simp only; omega, by simp⟩
  · (refine le_tm ?_; simp only [LeTm, go_sem, cSteps, List.flatMap_nil]; try simp)
  · rintro ⟨v, X, a⟩ ⟨hl, hA, hG⟩ K hK
    simp only at hl hA hG ⊢
    (repeat (first | (refine aw_seq ?_; intro K hK) | refine aw_block ?_ | refine aw_region ?_ | (refine lst_x rfl rfl ?_; intro K1 hK1; simp only [go_sem]; (first | refine hK1 _ ?_ | refine andk (hK1 _ ?_)); clear hK1 K1) | ((first | refine lst_nil ?_ | refine aw_skip ?_); refine hK _ ?_; clear hK K)))
    (refine aw_cnd ?_; intro X Y hX hY; simp only [go_sem])
    refine ⟨fun h => hX ?_, fun h => hY ?_⟩
    · have hv0 : 0 < v := by simpa using h
      clear hX hY X Y h
      (repeat (first | (refine aw_seq ?_; intro K hK) | refine aw_block ?_ | refine aw_region ?_ | (refine lst_x rfl rfl ?_; intro K1 hK1; simp only [go_sem]; (first | refine hK1 _ ?_ | refine andk (hK1 _ ?_)); clear hK1 K1) | ((first | refine lst_nil ?_ | refine aw_skip ?_); refine hK _ ?_; clear hK K)))
      (refine lst_cons rfl ?_; intro K1 hK1; refine stp_callσ (ids := []) [0] (step_fc T hT a b (by omega)) rfl rfl (by simp only [go_sem]) (by first | assumption | kernel_rfl) rfl rfl (by (simp only [List.map_append, List.append_nil, go_sem]) <;> rfl) (by (simp only [pkh, tape, go_sem]) <;> rfl) ?_ ?_)
      · rintro _ _ ⟨_, _, rfl, rfl, _⟩; rfl
      rintro _ _ ⟨a', x, rfl, rfl, ha', hx⟩
      (simp only [aInts, aSets, tape, cSteps_up, Cstep.av, Cstep.cells, List.append_nil, List.nil_append, List.length_map, go_sem]; refine hK1 _ ?_; clear hK1 K1)
      have e1 : ((v : Int) - 1) = ((v - 1 : Nat) : Int) := by omega
      have e2 : (X ++ [x]).length = X.length + 1 := by simp
      have hlc := List.take_of_length_le (Nat.le_of_eq (cSteps_len X))
      (repeat (first | (refine aw_seq ?_; intro K hK) | refine aw_block ?_ | refine aw_region ?_ | (refine lst_x rfl rfl ?_; intro K1 hK1; simp only [go_sem, List.set_cons_zero, List.set_cons_succ, List.take_succ_cons, List.take_zero, List.drop_zero, cSteps_len, half5, cSteps_one, cSteps_pl, cSteps_snocL, hlc]; (first | refine hK1 _ ?_ | refine andk (hK1 _ ?_)); clear hK1 K1) | ((first | refine lst_nil ?_ | refine aw_skip ?_); refine hK _ ?_; clear hK K)))
      ((try refine lst_nil ?_); (try refine aw_skip ?_); try simp only [ThenA])
      refine hK _ (v - 1, X ++ [x], a') ⟨by simp only [e2]; omega, by simp only; omega, fun y hy => ?_⟩ (by simp only; omega) ?_
      · rcases List.mem_append.1 hy with hy | hy
        · exact hG y hy
        · simp at hy; subst hy; exact hx
      · refine Le.trans (le_pick [0, 4] rfl rfl) ?_
        (try simp only [List.set_nil, List.take_nil, List.take_zero, List.map_append, go_sem])
        simp only [cSteps_ren]
        (refine le_tm ?_; simp only [LeTm, go_sem, e1, e2]; try simp)
    · clear hX hY X Y
      (refine aw_exit ?_; simp only [ThenA, InBl, reduceIte, Nat.reduceEqDiff]; (first | refine hK _ ?_ | (clear hK K; refine hK _ ?_) | (clear hK K; clear hK K; refine hK _ ?_) | (clear hK K; clear hK K; clear hK K; refine hK _ ?_) | (clear hK K; clear hK K; clear hK K; clear hK K; refine hK _ ?_) | (clear hK K; clear hK K; clear hK K; clear hK K; clear hK K; refine hK _ ?_)); clear hK K)
      (repeat (first | (refine aw_seq ?_; intro K hK) | refine aw_block ?_ | refine aw_region ?_ | (refine lst_x rfl rfl ?_; intro K1 hK1; simp only [go_sem]; (first | refine hK1 _ ?_ | refine andk (hK1 _ ?_)); clear hK1 K1) | ((first | refine lst_nil ?_ | refine aw_skip ?_); refine hK _ ?_; clear hK K)))
      ((try refine aw_ret ?_); (try simp only [ThenA, InBl]); refine ret_le (le_frz (r := ⟨32, 5, true, cSteps X⟩) 1 (tSteps X) rfl (fz_cst _) (show 0 < (5 : Nat) by omega)) ?_; refine ret_le (le_pick [0] rfl rfl) ?_; simp only [ST.frz, A0.frz, AV.frz, C.frz, Nat.le_refl, List.set_cons_zero, List.set_cons_succ, go_sem, tSteps_len, half5, List.take_of_length_le (Nat.le_of_eq (tSteps_len X)), List.take_length]; (try simp only [List.set_nil, List.take_nil, List.take_zero, List.map_append, go_sem]); ((try refine aw_ret ?_); (try refine lst_nil ?_); (try simp only [ThenA, InBl]); refine ret_mk (by first | exact .inl rfl | exact .inr rfl) rfl ?_; simp only [rtn, resA, resL, resV, Tryz.results16, go_sem, true_and, and_true, tSteps_len, half5, List.take_of_length_le (Nat.le_of_eq (tSteps_len X)), List.take_length]))
      exact ⟨a, X, rfl, rfl, by omega, by omega, hG⟩
end Go.Proofs.YthlckclbjknldaaGreat
