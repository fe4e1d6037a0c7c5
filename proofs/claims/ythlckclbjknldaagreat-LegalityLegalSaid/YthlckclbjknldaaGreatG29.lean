/- Contexts: ValidContext of the program and of the reference. -/
import Derived.Test.YthlckclbjknldaaGreatG27
import Derived.Test.YthlckclbjknldaaGreatG28
namespace Go.Proofs.YthlckclbjknldaaGreat
set_option linter.unusedVariables false
set_option linter.unusedSimpArgs false
open Go.RowKit
set_option maxRecDepth 100000
attribute [local go_sem] List.set_cons_zero List.set_cons_succ List.map_cons List.map_nil List.take_succ_cons List.take_zero List.drop_zero List.drop_succ_cons C.pl C.one List.all_cons List.all_nil Bool.and_true

theorem tSteps_at {XS : List Cstep} {i : Nat} (h : i < XS.length) : ((tSteps XS).drop (i * 5)).take 5 = XS[i].trs := by
  induction XS generalizing i with
  | nil => simp at h
  | cons x r ih =>
    have e : tSteps (x :: r) = x.trs ++ tSteps r := rfl
    cases i with
    | zero => rw [e]; simp [Cstep.trs]
    | succ i =>
      rw [e, show (i + 1) * 5 = x.trs.length + i * 5 by simp [Cstep.trs]; omega, List.drop_length_add_append, ih (by simpa using h)]
      rfl
theorem trs_c (x : Cstep) : x.trs.map C.ofTr = x.cells := by simp [Cstep.trs, Cstep.cells, C.ofTr]
/-- a context -/
def ctxB (XS : List Cstep) : Bool := decide (XS.length ≤ 8) && XS.all stepB

/-- IndexFunc at a function that touches the objects that it holds and gives them back -/
theorem indexFunc_steps (XS : List Cstep) (p : Cstep → Bool) (fn : Nat) (hn : XS.length ≤ 100000000) (hcal : callable Tryz.prog fn = true)
    (hf : ∀ x ∈ XS, FC Tryz.prog fn [x.av] [] (fun r o => o = [] ∧ r = .b (p x))) :
    FC Tryz.prog 65 [aSteps XS, .a (.c (.f fn []))] [] (fun r o => o = [] ∧ ∃ n : Int, r = .i n ∧ -1 ≤ n ∧ (0 ≤ n ↔ XS.any p = true)) := by
  refine fc_intro Tryz.func65 rfl (by rw [Tryz.ntmps65]; simp) ?_
  rw [Tryz.ntmps65]
  simp only [enum, aSteps]
  (repeat (first | (refine aw_seq ?_; intro K hK) | refine aw_block ?_ | refine aw_region ?_ | (refine lst_x rfl rfl ?_; intro K1 hK1; simp only [go_sem, tSteps_len, half5]; (first | refine hK1 _ ?_ | refine andk (hK1 _ ?_)); clear hK1 K1) | ((first | refine lst_nil ?_ | refine aw_skip ?_); refine hK _ ?_; clear hK K)))
  refine aw_loop (fun i : Nat => { tm := [(0, .a (.c (.t 5 (tSteps XS)))), (1, .a (.c (.f fn []))), (7, .i XS.length), (8, .i i)], hp := [], n := 19, pin := 0 }) (fun i => i ≤ XS.length ∧ ∀ j x, j < i → XS[j]? = some x → p x = false) (fun i => XS.length - i) 0 ?_ ?_ ?_
  · exact ⟨by omega, by intro i x hi; omega⟩
  · (refine le_tm ?_; simp only [LeTm, go_sem]; try simp)
  · rintro i ⟨hk, hno⟩ K hK
    by_cases hlt : i < XS.length
    · have hl1 : decide ((i : Int) < (XS.length : Int)) = true := by simpa using hlt
      have hg := List.getElem?_eq_getElem hlt
      have hk2 := tSteps_at hlt
      (repeat (first | (refine aw_seq ?_; intro K hK) | refine aw_block ?_ | refine aw_region ?_ | (refine lst_x rfl rfl ?_; intro K1 hK1; simp only [go_sem, hl1]; (first | refine hK1 _ ?_ | refine andk (hK1 _ ?_)); clear hK1 K1) | ((first | refine lst_nil ?_ | refine aw_skip ?_); refine hK _ ?_; clear hK K)))
      (refine aw_cnd ?_; intro X Y hX hY; simp only [go_sem])
      refine hX ?_
      clear hX hY X Y
      (repeat (first | (refine aw_seq ?_; intro K hK) | refine aw_block ?_ | refine aw_region ?_ | (refine lst_x rfl rfl ?_; intro K1 hK1; simp only [go_sem, tSteps_len, half5, hk2, trs_c]; (first | refine hK1 _ ?_ | refine andk (hK1 _ ?_)); clear hK1 K1) | ((first | refine lst_nil ?_ | refine aw_skip ?_); refine hK _ ?_; clear hK K)))
      (refine lst_cons rfl ?_; intro K1 hK1; refine stp_callσ (ids := []) [] (hf XS[i] (List.getElem_mem hlt)) rfl rfl (by simp only [go_sem]) (by first | assumption | kernel_rfl) rfl rfl (by (simp only [List.map_append, List.append_nil, go_sem]) <;> rfl) (by (simp only [pkh, Cstep.av, go_sem]) <;> rfl) ?_ ?_)
      · rintro _ _ ⟨rfl, rfl⟩; rfl
      rintro _ _ ⟨rfl, rfl⟩
      (simp only [aInts, aSets, List.append_nil, List.nil_append, List.length_map, go_sem]; refine hK1 _ ?_; clear hK1 K1)
      cases hp : p XS[i] with
      | true =>
        (repeat (first | (refine aw_seq ?_; intro K hK) | refine aw_block ?_ | refine aw_region ?_ | (refine lst_x rfl rfl ?_; intro K1 hK1; simp only [go_sem, hp]; (first | refine hK1 _ ?_ | refine andk (hK1 _ ?_)); clear hK1 K1) | ((first | refine lst_nil ?_ | refine aw_skip ?_); refine hK _ ?_; clear hK K)))
        (refine aw_cnd ?_; intro X Y hX hY; simp only [go_sem])
        refine hX ?_
        clear hX hY X Y
        (repeat (first | (refine aw_seq ?_; intro K hK) | refine aw_block ?_ | refine aw_region ?_ | (refine lst_x rfl rfl ?_; intro K1 hK1; simp only [go_sem]; (first | refine hK1 _ ?_ | refine andk (hK1 _ ?_)); clear hK1 K1) | ((first | refine lst_nil ?_ | refine aw_skip ?_); refine hK _ ?_; clear hK K)))
        ((try refine aw_ret ?_); (try simp only [ThenA, InBl]); refine ret_le (le_pick [] rfl rfl) ?_; (try simp only [List.set_nil, List.take_nil, List.take_zero, List.map_append, go_sem]); ((try refine aw_ret ?_); (try refine lst_nil ?_); (try simp only [ThenA, InBl]); refine ret_mk (by first | exact .inl rfl | exact .inr rfl) rfl ?_; simp only [rtn, resA, resL, resV, Tryz.results65, go_sem, true_and, and_true]))
        exact ⟨i, rfl, by omega, by simp; exact ⟨_, List.getElem_mem hlt, hp⟩⟩
      | false =>
        (repeat (first | (refine aw_seq ?_; intro K hK) | refine aw_block ?_ | refine aw_region ?_ | (refine lst_x rfl rfl ?_; intro K1 hK1; simp only [go_sem, hp]; (first | refine hK1 _ ?_ | refine andk (hK1 _ ?_)); clear hK1 K1) | ((first | refine lst_nil ?_ | refine aw_skip ?_); refine hK _ ?_; clear hK K)))
        (refine aw_cnd ?_; intro X Y hX hY; simp only [go_sem])
        refine hY ?_
        clear hX hY X Y
        (repeat (first | (refine aw_seq ?_; intro K hK) | refine aw_block ?_ | refine aw_region ?_ | (refine lst_x rfl rfl ?_; intro K1 hK1; simp only [go_sem]; (first | refine hK1 _ ?_ | refine andk (hK1 _ ?_)); clear hK1 K1) | ((first | refine lst_nil ?_ | refine aw_skip ?_); refine hK _ ?_; clear hK K)))
        ((try refine lst_nil ?_); (try refine aw_skip ?_); try simp only [ThenA])
        refine hK _ (i + 1) ⟨by omega, fun j x hj hx => ?_⟩ (by omega) ?_
        · by_cases e : j = i
          · subst e; rw [hg] at hx; cases hx; exact hp
          · exact hno j x (by omega) hx
        · (refine le_tm ?_; simp only [LeTm, go_sem]; try simp)
    · have hl1 : decide ((i : Int) < (XS.length : Int)) = false := by simpa using hlt
      (repeat (first | (refine aw_seq ?_; intro K hK) | refine aw_block ?_ | refine aw_region ?_ | (refine lst_x rfl rfl ?_; intro K1 hK1; simp only [go_sem, hl1]; (first | refine hK1 _ ?_ | refine andk (hK1 _ ?_)); clear hK1 K1) | ((first | refine lst_nil ?_ | refine aw_skip ?_); refine hK _ ?_; clear hK K)))
      (refine aw_cnd ?_; intro X Y hX hY; simp only [go_sem])
      refine hY ?_
      clear hX hY X Y
      (refine aw_exit ?_; simp only [ThenA, InBl, reduceIte, Nat.reduceEqDiff]; (first | refine hK _ ?_ | (clear hK K; refine hK _ ?_) | (clear hK K; clear hK K; refine hK _ ?_) | (clear hK K; clear hK K; clear hK K; refine hK _ ?_) | (clear hK K; clear hK K; clear hK K; clear hK K; refine hK _ ?_) | (clear hK K; clear hK K; clear hK K; clear hK K; clear hK K; refine hK _ ?_)); clear hK K)
      (repeat (first | (refine aw_seq ?_; intro K hK) | refine aw_block ?_ | refine aw_region ?_ | (refine lst_x rfl rfl ?_; intro K1 hK1; simp only [go_sem]; (first | refine hK1 _ ?_ | refine andk (hK1 _ ?_)); clear hK1 K1) | ((first | refine lst_nil ?_ | refine aw_skip ?_); refine hK _ ?_; clear hK K)))
      ((try refine aw_ret ?_); (try simp only [ThenA, InBl]); refine ret_le (le_pick [] rfl rfl) ?_; (try simp only [List.set_nil, List.take_nil, List.take_zero, List.map_append, go_sem]); ((try refine aw_ret ?_); (try refine lst_nil ?_); (try simp only [ThenA, InBl]); refine ret_mk (by first | exact .inl rfl | exact .inr rfl) rfl ?_; simp only [rtn, resA, resL, resV, Tryz.results65, go_sem, true_and, and_true]))
      refine ⟨-1, rfl, by omega, ?_⟩
      simp
      intro x hm
      obtain ⟨j, hj⟩ := List.mem_iff_getElem?.1 hm
      exact hno j x (by have := (List.getElem?_eq_some_iff.1 hj).1; omega) hj
theorem containsFunc_steps (XS : List Cstep) (p : Cstep → Bool) (fn : Nat) (hn : XS.length ≤ 100000000) (hcal : callable Tryz.prog fn = true)
    (hf : ∀ x ∈ XS, FC Tryz.prog fn [x.av] [] (fun r o => o = [] ∧ r = .b (p x))) :
    FC Tryz.prog 37 [aSteps XS, .a (.c (.f fn []))] [] (fun r o => o = [] ∧ r = .b (XS.any p)) := by
  refine fc_intro Tryz.func37 rfl (by rw [Tryz.ntmps37]; simp) ?_
  rw [Tryz.ntmps37]
  simp only [enum, aSteps]
  (repeat (first | (refine aw_seq ?_; intro K hK) | refine aw_block ?_ | refine aw_region ?_ | (refine lst_x rfl rfl ?_; intro K1 hK1; simp only [go_sem]; (first | refine hK1 _ ?_ | refine andk (hK1 _ ?_)); clear hK1 K1) | ((first | refine lst_nil ?_ | refine aw_skip ?_); refine hK _ ?_; clear hK K)))
  (refine lst_cons rfl ?_; intro K1 hK1; refine stp_callσ (ids := []) [] (indexFunc_steps XS p fn hn hcal hf) rfl rfl (by simp only [go_sem]) (by first | assumption | kernel_rfl) rfl rfl (by (simp only [List.map_append, List.append_nil, go_sem]) <;> rfl) (by (simp only [pkh, go_sem]) <;> rfl) ?_ ?_)
  · rintro _ _ ⟨rfl, n, rfl, hn1, hn2⟩; rfl
  rintro _ _ ⟨rfl, n, rfl, hn1, hn2⟩
  (simp only [aInts, aSets, List.append_nil, List.nil_append, List.length_map, go_sem]; refine hK1 _ ?_; clear hK1 K1)
  (repeat (first | (refine aw_seq ?_; intro K hK) | refine aw_block ?_ | refine aw_region ?_ | (refine lst_x rfl rfl ?_; intro K1 hK1; simp only [go_sem]; (first | refine hK1 _ ?_ | refine andk (hK1 _ ?_)); clear hK1 K1) | ((first | refine lst_nil ?_ | refine aw_skip ?_); refine hK _ ?_; clear hK K)))
  have e : decide (n ≥ 0) = XS.any p := by rw [Bool.eq_iff_iff, decide_eq_true_iff]; exact hn2
  ((try refine aw_ret ?_); (try simp only [ThenA, InBl]); refine ret_le (le_pick [] rfl rfl) ?_; (try simp only [List.set_nil, List.take_nil, List.take_zero, List.map_append, go_sem]); ((try refine aw_ret ?_); (try refine lst_nil ?_); (try simp only [ThenA, InBl]); refine ret_mk (by first | exact .inl rfl | exact .inr rfl) rfl ?_; simp only [rtn, resA, resL, resV, Tryz.results37, go_sem, true_and, and_true]))
  simp only [e]
theorem vctx1_fc (x : Cstep) (hx : x.Bd) : FC Tryz.prog 38 [x.av] [] (fun r o => o = [] ∧ r = .b (!stepB x)) := by
  refine fc_intro Tryz.func38 rfl (by rw [Tryz.ntmps38]; simp) ?_
  rw [Tryz.ntmps38]
  simp only [enum, Cstep.av, Cstep.cells]
  (repeat (first | (refine aw_seq ?_; intro K hK) | refine aw_block ?_ | refine aw_region ?_ | (refine lst_x rfl rfl ?_; intro K1 hK1; simp only [go_sem]; (first | refine hK1 _ ?_ | refine andk (hK1 _ ?_)); clear hK1 K1) | ((first | refine lst_nil ?_ | refine aw_skip ?_); refine hK _ ?_; clear hK K)))
  (refine lst_cons rfl ?_; intro K1 hK1; refine (stp_call0 (ids := []) (vstep_fc x hx) rfl rfl (by simp only [go_sem]) (by kernel_rfl) (by (simp only [List.append_nil, go_sem]) <;> rfl) ?_).stp)
  rintro _ _ ⟨rfl, rfl⟩
  (simp only [aInts, aSets, List.append_nil, List.nil_append, List.length_map, go_sem]; refine hK1 _ ?_; clear hK1 K1)
  (repeat (first | (refine aw_seq ?_; intro K hK) | refine aw_block ?_ | refine aw_region ?_ | (refine lst_x rfl rfl ?_; intro K1 hK1; simp only [go_sem]; (first | refine hK1 _ ?_ | refine andk (hK1 _ ?_)); clear hK1 K1) | ((first | refine lst_nil ?_ | refine aw_skip ?_); refine hK _ ?_; clear hK K)))
  ((try refine aw_ret ?_); (try simp only [ThenA, InBl]); refine ret_le (le_pick [] rfl rfl) ?_; (try simp only [List.set_nil, List.take_nil, List.take_zero, List.map_append, go_sem]); ((try refine aw_ret ?_); (try refine lst_nil ?_); (try simp only [ThenA, InBl]); refine ret_mk (by first | exact .inl rfl | exact .inr rfl) rfl ?_; simp only [rtn, resA, resL, resV, Tryz.results38, go_sem, true_and, and_true]))
theorem vctx_fc (XS : List Cstep) (hn : XS.length ≤ 100000000) (hB : ∀ x ∈ XS, x.Bd) : FC Tryz.prog 17 [aSteps XS] [] (fun r o => o = [] ∧ r = .b (ctxB XS)) := by
  refine fc_intro Tryz.func17 rfl (by rw [Tryz.ntmps17]; simp) ?_
  rw [Tryz.ntmps17]
  simp only [enum, aSteps]
  by_cases h8 : XS.length ≤ 8
  · have d8 : decide ((XS.length : Int) ≤ 8) = true := by simp; omega
    (repeat (first | (refine aw_seq ?_; intro K hK) | refine aw_block ?_ | refine aw_region ?_ | (refine lst_x rfl rfl ?_; intro K1 hK1; simp only [go_sem, d8, tSteps_len, half5]; (first | refine hK1 _ ?_ | refine andk (hK1 _ ?_)); clear hK1 K1) | ((first | refine lst_nil ?_ | refine aw_skip ?_); refine hK _ ?_; clear hK K)))
    (refine lst_goU rfl rfl (by simp only [go_sem] <;> rfl) ?_; intro K1 hK1; refine stp_callσ (ids := []) [] (containsFunc_steps XS (fun x => !stepB x) 38 hn (by kernel_rfl) (fun x hx => vctx1_fc x (hB x hx))) rfl rfl (by simp only [go_sem]) (by first | assumption | kernel_rfl) rfl rfl (by (simp only [List.map_append, List.append_nil, go_sem]) <;> rfl) (by (simp only [pkh, aSteps, go_sem]) <;> rfl) ?_ ?_)
    · rintro _ _ ⟨rfl, rfl⟩; rfl
    rintro _ _ ⟨rfl, rfl⟩
    (simp only [aInts, aSets, List.append_nil, List.nil_append, List.length_map, go_sem]; refine hK1 _ ?_; clear hK1 K1)
    (repeat (first | (refine aw_seq ?_; intro K hK) | refine aw_block ?_ | refine aw_region ?_ | (refine lst_x rfl rfl ?_; intro K1 hK1; simp only [go_sem]; (first | refine hK1 _ ?_ | refine andk (hK1 _ ?_)); clear hK1 K1) | ((first | refine lst_nil ?_ | refine aw_skip ?_); refine hK _ ?_; clear hK K)))
    ((try refine aw_ret ?_); (try simp only [ThenA, InBl]); refine ret_le (le_pick [] rfl rfl) ?_; (try simp only [List.set_nil, List.take_nil, List.take_zero, List.map_append, go_sem]); ((try refine aw_ret ?_); (try refine lst_nil ?_); (try simp only [ThenA, InBl]); refine ret_mk (by first | exact .inl rfl | exact .inr rfl) rfl ?_; simp only [rtn, resA, resL, resV, Tryz.results17, go_sem, true_and, and_true]))
    have e1 : decide (XS.length ≤ 8) = true := by simpa using h8
    rw [ctxB, e1, Bool.true_and, ← List.not_all_eq_any_not, Bool.not_not]
  · have d8 : decide ((XS.length : Int) ≤ 8) = false := by simp; omega
    (repeat (first | (refine aw_seq ?_; intro K hK) | refine aw_block ?_ | refine aw_region ?_ | (refine lst_x rfl rfl ?_; intro K1 hK1; simp only [go_sem, d8, tSteps_len, half5]; (first | refine hK1 _ ?_ | refine andk (hK1 _ ?_)); clear hK1 K1) | ((first | refine lst_nil ?_ | refine aw_skip ?_); refine hK _ ?_; clear hK K)))
    ((try refine aw_ret ?_); (try simp only [ThenA, InBl]); refine ret_le (le_pick [] rfl rfl) ?_; (try simp only [List.set_nil, List.take_nil, List.take_zero, List.map_append, go_sem]); ((try refine aw_ret ?_); (try refine lst_nil ?_); (try simp only [ThenA, InBl]); refine ret_mk (by first | exact .inl rfl | exact .inr rfl) rfl ?_; simp only [rtn, resA, resL, resV, Tryz.results17, go_sem, true_and, and_true]))
    have e1 : decide (XS.length ≤ 8) = false := by simpa using h8
    rw [ctxB, e1, Bool.false_and]
theorem rctx_fc (XS : List Cstep) (hn : XS.length ≤ 100000000) (hB : ∀ x ∈ XS, x.Bd) : FC Tryz.prog 18 [aSteps XS] [] (fun r o => o = [] ∧ r = .b (ctxB XS)) := by
  refine fc_intro Tryz.func18 rfl (by rw [Tryz.ntmps18]; simp) ?_
  rw [Tryz.ntmps18]
  simp only [enum, aSteps]
  by_cases h8 : XS.length ≤ 8
  rotate_left
  · have d8 : decide ((XS.length : Int) > 8) = true := by simp; omega
    (repeat (first | (refine aw_seq ?_; intro K hK) | refine aw_block ?_ | refine aw_region ?_ | (refine lst_x rfl rfl ?_; intro K1 hK1; simp only [go_sem, d8, tSteps_len, half5]; (first | refine hK1 _ ?_ | refine andk (hK1 _ ?_)); clear hK1 K1) | ((first | refine lst_nil ?_ | refine aw_skip ?_); refine hK _ ?_; clear hK K)))
    (refine aw_cnd ?_; intro X Y hX hY; simp only [go_sem])
    refine hX ?_
    clear hX hY X Y
    (repeat (first | (refine aw_seq ?_; intro K hK) | refine aw_block ?_ | refine aw_region ?_ | (refine lst_x rfl rfl ?_; intro K1 hK1; simp only [go_sem]; (first | refine hK1 _ ?_ | refine andk (hK1 _ ?_)); clear hK1 K1) | ((first | refine lst_nil ?_ | refine aw_skip ?_); refine hK _ ?_; clear hK K)))
    ((try refine aw_ret ?_); (try simp only [ThenA, InBl]); refine ret_le (le_pick [] rfl rfl) ?_; (try simp only [List.set_nil, List.take_nil, List.take_zero, List.map_append, go_sem]); ((try refine aw_ret ?_); (try refine lst_nil ?_); (try simp only [ThenA, InBl]); refine ret_mk (by first | exact .inl rfl | exact .inr rfl) rfl ?_; simp only [rtn, resA, resL, resV, Tryz.results18, go_sem, true_and, and_true]))
    have e1 : decide (XS.length ≤ 8) = false := by simpa using h8
    rw [ctxB, e1, Bool.false_and]
  have d8 : decide ((XS.length : Int) > 8) = false := by simp; omega
  have e1 : decide (XS.length ≤ 8) = true := by simpa using h8
  (repeat (first | (refine aw_seq ?_; intro K hK) | refine aw_block ?_ | refine aw_region ?_ | (refine lst_x rfl rfl ?_; intro K1 hK1; simp only [go_sem, d8, tSteps_len, half5]; (first | refine hK1 _ ?_ | refine andk (hK1 _ ?_)); clear hK1 K1) | ((first | refine lst_nil ?_ | refine aw_skip ?_); refine hK _ ?_; clear hK K)))
  (refine aw_cnd ?_; intro X Y hX hY; simp only [go_sem])
  refine hY ?_
  clear hX hY X Y
  (repeat (first | (refine aw_seq ?_; intro K hK) | refine aw_block ?_ | refine aw_region ?_ | (refine lst_x rfl rfl ?_; intro K1 hK1; simp only [go_sem]; (first | refine hK1 _ ?_ | refine andk (hK1 _ ?_)); clear hK1 K1) | ((first | refine lst_nil ?_ | refine aw_skip ?_); refine hK _ ?_; clear hK K)))
  refine aw_loop (fun i : Nat => { tm := [(0, .a (.c (.t 5 (tSteps XS)))), (3, .i i)], hp := [], n := 19, pin := 0 }) (fun i => i ≤ XS.length ∧ ∀ j x, j < i → XS[j]? = some x → stepB x = true) (fun i => XS.length - i) 0 ?_ ?_ ?_
  · exact ⟨by omega, by intro i x hi; omega⟩
  · (refine le_tm ?_; simp only [LeTm, go_sem]; try simp)
  · rintro i ⟨hk, hno⟩ K hK
    by_cases hlt : i < XS.length
    · have hl1 : decide ((i : Int) < (XS.length : Int)) = true := by simpa using hlt
      have hg := List.getElem?_eq_getElem hlt
      have hk2 := tSteps_at hlt
      (repeat (first | (refine aw_seq ?_; intro K hK) | refine aw_block ?_ | refine aw_region ?_ | (refine lst_x rfl rfl ?_; intro K1 hK1; simp only [go_sem, hl1, tSteps_len, half5]; (first | refine hK1 _ ?_ | refine andk (hK1 _ ?_)); clear hK1 K1) | ((first | refine lst_nil ?_ | refine aw_skip ?_); refine hK _ ?_; clear hK K)))
      (refine aw_cnd ?_; intro X Y hX hY; simp only [go_sem])
      refine hX ?_
      clear hX hY X Y
      (repeat (first | (refine aw_seq ?_; intro K hK) | refine aw_block ?_ | refine aw_region ?_ | (refine lst_x rfl rfl ?_; intro K1 hK1; simp only [go_sem, tSteps_len, half5, hk2, trs_c]; (first | refine hK1 _ ?_ | refine andk (hK1 _ ?_)); clear hK1 K1) | ((first | refine lst_nil ?_ | refine aw_skip ?_); refine hK _ ?_; clear hK K)))
      (refine lst_cons rfl ?_; intro K1 hK1; refine stp_callσ (ids := []) [] (stepOK_fc XS[i] (hB _ (List.getElem_mem hlt))) rfl rfl (by simp only [go_sem]) (by first | assumption | kernel_rfl) rfl rfl (by (simp only [List.map_append, List.append_nil, go_sem]) <;> rfl) (by (simp only [pkh, Cstep.av, go_sem]) <;> rfl) ?_ ?_)
      · rintro _ _ ⟨rfl, rfl⟩; rfl
      rintro _ _ ⟨rfl, rfl⟩
      (simp only [aInts, aSets, List.append_nil, List.nil_append, List.length_map, go_sem]; refine hK1 _ ?_; clear hK1 K1)
      cases hp : stepB XS[i] with
      | true =>
        (repeat (first | (refine aw_seq ?_; intro K hK) | refine aw_block ?_ | refine aw_region ?_ | (refine lst_x rfl rfl ?_; intro K1 hK1; simp only [go_sem, hp, Bool.not_true]; (first | refine hK1 _ ?_ | refine andk (hK1 _ ?_)); clear hK1 K1) | ((first | refine lst_nil ?_ | refine aw_skip ?_); refine hK _ ?_; clear hK K)))
        (refine aw_cnd ?_; intro X Y hX hY; simp only [go_sem])
        refine hY ?_
        clear hX hY X Y
        (repeat (first | (refine aw_seq ?_; intro K hK) | refine aw_block ?_ | refine aw_region ?_ | (refine lst_x rfl rfl ?_; intro K1 hK1; simp only [go_sem]; (first | refine hK1 _ ?_ | refine andk (hK1 _ ?_)); clear hK1 K1) | ((first | refine lst_nil ?_ | refine aw_skip ?_); refine hK _ ?_; clear hK K)))
        ((try refine lst_nil ?_); (try refine aw_skip ?_); try simp only [ThenA])
        refine hK _ (i + 1) ⟨by omega, fun j x hj hx => ?_⟩ (by omega) ?_
        · by_cases e : j = i
          · subst e; rw [hg] at hx; cases hx; exact hp
          · exact hno j x (by omega) hx
        · (refine le_tm ?_; simp only [LeTm, go_sem]; try simp)
      | false =>
        (repeat (first | (refine aw_seq ?_; intro K hK) | refine aw_block ?_ | refine aw_region ?_ | (refine lst_x rfl rfl ?_; intro K1 hK1; simp only [go_sem, hp, Bool.not_false]; (first | refine hK1 _ ?_ | refine andk (hK1 _ ?_)); clear hK1 K1) | ((first | refine lst_nil ?_ | refine aw_skip ?_); refine hK _ ?_; clear hK K)))
        (refine aw_cnd ?_; intro X Y hX hY; simp only [go_sem])
        refine hX ?_
        clear hX hY X Y
        (repeat (first | (refine aw_seq ?_; intro K hK) | refine aw_block ?_ | refine aw_region ?_ | (refine lst_x rfl rfl ?_; intro K1 hK1; simp only [go_sem]; (first | refine hK1 _ ?_ | refine andk (hK1 _ ?_)); clear hK1 K1) | ((first | refine lst_nil ?_ | refine aw_skip ?_); refine hK _ ?_; clear hK K)))
        ((try refine aw_ret ?_); (try simp only [ThenA, InBl]); refine ret_le (le_pick [] rfl rfl) ?_; (try simp only [List.set_nil, List.take_nil, List.take_zero, List.map_append, go_sem]); ((try refine aw_ret ?_); (try refine lst_nil ?_); (try simp only [ThenA, InBl]); refine ret_mk (by first | exact .inl rfl | exact .inr rfl) rfl ?_; simp only [rtn, resA, resL, resV, Tryz.results18, go_sem, true_and, and_true]))
        have : XS.all stepB = false := by rw [List.all_eq_false]; exact ⟨_, List.getElem_mem hlt, by simp [hp]⟩
        rw [ctxB, this, Bool.and_false]
    · have hl1 : decide ((i : Int) < (XS.length : Int)) = false := by simpa using hlt
      (repeat (first | (refine aw_seq ?_; intro K hK) | refine aw_block ?_ | refine aw_region ?_ | (refine lst_x rfl rfl ?_; intro K1 hK1; simp only [go_sem, hl1, tSteps_len, half5]; (first | refine hK1 _ ?_ | refine andk (hK1 _ ?_)); clear hK1 K1) | ((first | refine lst_nil ?_ | refine aw_skip ?_); refine hK _ ?_; clear hK K)))
      (refine aw_cnd ?_; intro X Y hX hY; simp only [go_sem])
      refine hY ?_
      clear hX hY X Y
      (refine aw_exit ?_; simp only [ThenA, InBl, reduceIte, Nat.reduceEqDiff]; (first | refine hK _ ?_ | (clear hK K; refine hK _ ?_) | (clear hK K; clear hK K; refine hK _ ?_) | (clear hK K; clear hK K; clear hK K; refine hK _ ?_) | (clear hK K; clear hK K; clear hK K; clear hK K; refine hK _ ?_) | (clear hK K; clear hK K; clear hK K; clear hK K; clear hK K; refine hK _ ?_)); clear hK K)
      (repeat (first | (refine aw_seq ?_; intro K hK) | refine aw_block ?_ | refine aw_region ?_ | (refine lst_x rfl rfl ?_; intro K1 hK1; simp only [go_sem]; (first | refine hK1 _ ?_ | refine andk (hK1 _ ?_)); clear hK1 K1) | ((first | refine lst_nil ?_ | refine aw_skip ?_); refine hK _ ?_; clear hK K)))
      ((try refine aw_ret ?_); (try simp only [ThenA, InBl]); refine ret_le (le_pick [] rfl rfl) ?_; (try simp only [List.set_nil, List.take_nil, List.take_zero, List.map_append, go_sem]); ((try refine aw_ret ?_); (try refine lst_nil ?_); (try simp only [ThenA, InBl]); refine ret_mk (by first | exact .inl rfl | exact .inr rfl) rfl ?_; simp only [rtn, resA, resL, resV, Tryz.results18, go_sem, true_and, and_true]))
      have : XS.all stepB = true := by
        rw [List.all_eq_true]
        intro x hx
        obtain ⟨j, hj⟩ := List.mem_iff_getElem?.1 hx
        exact hno j x (by have := (List.getElem?_eq_some_iff.1 hj).1; omega) hj
      rw [ctxB, this, e1]
      rfl
end Go.Proofs.YthlckclbjknldaaGreat
