/- Renamings: pairsOK. -/
import Derived.Test.YthlckclbjknldaaGreatG21
namespace Go.Proofs.YthlckclbjknldaaGreat
set_option linter.unusedVariables false
set_option linter.unusedSimpArgs false
open Go.RowKit
set_option maxRecDepth 100000
attribute [local go_sem] List.set_cons_zero List.set_cons_succ List.map_cons List.map_nil List.take_succ_cons List.take_zero List.drop_zero List.drop_succ_cons C.pl C.one List.all_cons List.all_nil Bool.and_true

set_option maxHeartbeats 1000000 in
theorem pairsOK_fc (xs : List Ar) (hn : xs.length ≤ 100000000) : FC Tryz.prog 70 [aArcs xs] [] (fun r o => o = [] ∧ r = .b (pairsB xs)) := by
  refine fc_intro Tryz.func70 rfl (by rw [Tryz.ntmps70]; simp) ?_
  rw [Tryz.ntmps70]
  simp only [enum, aArcs]
  (repeat (first | (refine aw_seq ?_; intro K hK) | refine aw_block ?_ | refine aw_region ?_ | (refine lst_x rfl rfl ?_; intro K1 hK1; simp only [go_sem, tArcs_len, half2]; (first | refine hK1 _ ?_ | refine andk (hK1 _ ?_)); clear hK1 K1) | ((first | refine lst_nil ?_ | refine aw_skip ?_); refine hK _ ?_; clear hK K)))
  refine aw_loop (fun k : Nat => { tm := [(0, .a (.c (.t 2 (tArcs xs)))), (3, .i k)], hp := [], n := 57, pin := 0 }) (fun k => k ≤ xs.length ∧ (∀ i a, i < k → xs[i]? = some a → chanP a.1 ∧ chanP a.2) ∧ ∀ i a b, i + 1 < k → xs[i]? = some a → xs[i + 1]? = some b → ltA a b = true) (fun k => xs.length - k) 0 ?_ ?_ ?_
  · exact ⟨by omega, fun i _ hi => by omega, fun i _ _ hi => by omega⟩
  · (refine le_tm ?_; simp only [LeTm, go_sem]; try simp)
  · rintro k ⟨hk, hc, hs⟩ K hK
    by_cases hlt : k < xs.length
    · have hl1 : decide ((k : Int) < (xs.length : Int)) = true := by simpa using hlt
      have hg := List.getElem?_eq_getElem hlt
      have ha0 := tArcs_c0 hlt
      have ha1 := tArcs_c1 hlt
      (repeat (first | (refine aw_seq ?_; intro K hK) | refine aw_block ?_ | refine aw_region ?_ | (refine lst_x rfl rfl ?_; intro K1 hK1; simp only [go_sem, hl1, tArcs_len, half2]; (first | refine hK1 _ ?_ | refine andk (hK1 _ ?_)); clear hK1 K1) | ((first | refine lst_nil ?_ | refine aw_skip ?_); refine hK _ ?_; clear hK K)))
      (refine aw_cnd ?_; intro X Y hX hY; simp only [go_sem])
      refine hX ?_
      clear hX hY X Y
      (repeat (first | (refine aw_seq ?_; intro K hK) | refine aw_block ?_ | refine aw_region ?_ | (refine lst_x rfl rfl ?_; intro K1 hK1; simp only [go_sem]; (first | refine hK1 _ ?_ | refine andk (hK1 _ ?_)); clear hK1 K1) | ((first | refine lst_nil ?_ | refine aw_skip ?_); refine hK _ ?_; clear hK K)))
      (refine aw_regionU 43 [(0, 0), (1, 0), (2, 0), (3, 0), (4, 1), (5, 0), (6, 0), (7, 0), (8, 0), (9, 0), (10, 0), (11, 1), (12, 0), (13, 0), (14, 0), (15, 0), (16, 0), (17, 0), (18, 0), (19, 1), (20, 0), (21, 0), (22, 0), (23, 0), (24, 0), (25, 0), (26, 0), (27, 1), (28, 0), (29, 0), (30, 0), (31, 0), (32, 0), (33, 0), (34, 0), (35, 0), (36, 0), (37, 0), (38, 1), (39, 0), (40, 0), (41, 0), (42, 1), (43, 2), (44, 0), (45, 0), (46, 0)] (by kernel_rfl) (by kernel_rfl) (by intro c st h; simp [ThenA, InBl, Ret] at h) ?_)
      have bad : ¬ (chanP xs[k].1 ∧ chanP xs[k].2) → pairsB xs = false := fun h => pairsB_bad hg h
      by_cases c1 : xs[k].1 < 2
      · have d1 : decide (xs[k].1 < 2) = true := by simpa using c1
        (repeat (first | ((first | refine u_0x rfl rfl rfl ?_ | refine u_1x rfl rfl rfl ?_); intro K1 hK1; simp only [go_sem, d1, tArcs_len, half2, ha0, ha1]; (first | refine hK1 _ ?_ | refine andk (hK1 _ ?_)); clear hK1 K1) | (refine u_2x rfl rfl rfl rfl ?_; intro K1 hK1; simp only [go_sem, d1, tArcs_len, half2, ha0, ha1]; (first | refine hK1 _ ?_ | refine andk (hK1 _ ?_)); clear hK1 K1) | (refine u_2f rfl rfl rfl rfl ?_; intro K1 hK1; simp only [go_sem, d1, tArcs_len, half2, ha0, ha1]; (first | refine hK1 _ ?_ | refine andk (hK1 _ ?_)); clear hK1 K1) | (refine u_nil ?_; refine hK _ ?_; clear hK K)))
        (refine aw_cnd ?_; intro X Y hX hY; simp only [go_sem])
        refine hX ?_
        clear hX hY X Y
        (repeat (first | (refine aw_seq ?_; intro K hK) | refine aw_block ?_ | refine aw_region ?_ | (refine lst_x rfl rfl ?_; intro K1 hK1; simp only [go_sem]; (first | refine hK1 _ ?_ | refine andk (hK1 _ ?_)); clear hK1 K1) | ((first | refine lst_nil ?_ | refine aw_skip ?_); refine hK _ ?_; clear hK K)))
        ((try refine aw_ret ?_); (try simp only [ThenA, InBl]); refine ret_le (le_pick [] rfl rfl) ?_; (try simp only [List.set_nil, List.take_nil, List.take_zero, List.map_append, go_sem]); ((try refine aw_ret ?_); (try refine lst_nil ?_); (try simp only [ThenA, InBl]); refine ret_mk (by first | exact .inl rfl | exact .inr rfl) rfl ?_; simp only [rtn, resA, resL, resV, Tryz.results70, go_sem, true_and, and_true]))
        rw [bad (fun h => by have := h.1.1; omega)]
      have d1 : decide (xs[k].1 < 2) = false := by simpa using c1
      by_cases c2 : xs[k].1 > 1025
      · have d2 : decide (xs[k].1 > 1025) = true := by simpa using c2
        (repeat (first | ((first | refine u_0x rfl rfl rfl ?_ | refine u_1x rfl rfl rfl ?_); intro K1 hK1; simp only [go_sem, d1, d2, tArcs_len, half2, ha0, ha1]; (first | refine hK1 _ ?_ | refine andk (hK1 _ ?_)); clear hK1 K1) | (refine u_2x rfl rfl rfl rfl ?_; intro K1 hK1; simp only [go_sem, d1, d2, tArcs_len, half2, ha0, ha1]; (first | refine hK1 _ ?_ | refine andk (hK1 _ ?_)); clear hK1 K1) | (refine u_2f rfl rfl rfl rfl ?_; intro K1 hK1; simp only [go_sem, d1, d2, tArcs_len, half2, ha0, ha1]; (first | refine hK1 _ ?_ | refine andk (hK1 _ ?_)); clear hK1 K1) | (refine u_nil ?_; refine hK _ ?_; clear hK K)))
        (refine aw_cnd ?_; intro X Y hX hY; simp only [go_sem])
        refine hX ?_
        clear hX hY X Y
        (repeat (first | (refine aw_seq ?_; intro K hK) | refine aw_block ?_ | refine aw_region ?_ | (refine lst_x rfl rfl ?_; intro K1 hK1; simp only [go_sem]; (first | refine hK1 _ ?_ | refine andk (hK1 _ ?_)); clear hK1 K1) | ((first | refine lst_nil ?_ | refine aw_skip ?_); refine hK _ ?_; clear hK K)))
        ((try refine aw_ret ?_); (try simp only [ThenA, InBl]); refine ret_le (le_pick [] rfl rfl) ?_; (try simp only [List.set_nil, List.take_nil, List.take_zero, List.map_append, go_sem]); ((try refine aw_ret ?_); (try refine lst_nil ?_); (try simp only [ThenA, InBl]); refine ret_mk (by first | exact .inl rfl | exact .inr rfl) rfl ?_; simp only [rtn, resA, resL, resV, Tryz.results70, go_sem, true_and, and_true]))
        rw [bad (fun h => by have := h.1.2; omega)]
      have d2 : decide (xs[k].1 > 1025) = false := by simpa using c2
      by_cases c3 : xs[k].2 < 2
      · have d3 : decide (xs[k].2 < 2) = true := by simpa using c3
        (repeat (first | ((first | refine u_0x rfl rfl rfl ?_ | refine u_1x rfl rfl rfl ?_); intro K1 hK1; simp only [go_sem, d1, d2, d3, tArcs_len, half2, ha0, ha1]; (first | refine hK1 _ ?_ | refine andk (hK1 _ ?_)); clear hK1 K1) | (refine u_2x rfl rfl rfl rfl ?_; intro K1 hK1; simp only [go_sem, d1, d2, d3, tArcs_len, half2, ha0, ha1]; (first | refine hK1 _ ?_ | refine andk (hK1 _ ?_)); clear hK1 K1) | (refine u_2f rfl rfl rfl rfl ?_; intro K1 hK1; simp only [go_sem, d1, d2, d3, tArcs_len, half2, ha0, ha1]; (first | refine hK1 _ ?_ | refine andk (hK1 _ ?_)); clear hK1 K1) | (refine u_nil ?_; refine hK _ ?_; clear hK K)))
        (refine aw_cnd ?_; intro X Y hX hY; simp only [go_sem])
        refine hX ?_
        clear hX hY X Y
        (repeat (first | (refine aw_seq ?_; intro K hK) | refine aw_block ?_ | refine aw_region ?_ | (refine lst_x rfl rfl ?_; intro K1 hK1; simp only [go_sem]; (first | refine hK1 _ ?_ | refine andk (hK1 _ ?_)); clear hK1 K1) | ((first | refine lst_nil ?_ | refine aw_skip ?_); refine hK _ ?_; clear hK K)))
        ((try refine aw_ret ?_); (try simp only [ThenA, InBl]); refine ret_le (le_pick [] rfl rfl) ?_; (try simp only [List.set_nil, List.take_nil, List.take_zero, List.map_append, go_sem]); ((try refine aw_ret ?_); (try refine lst_nil ?_); (try simp only [ThenA, InBl]); refine ret_mk (by first | exact .inl rfl | exact .inr rfl) rfl ?_; simp only [rtn, resA, resL, resV, Tryz.results70, go_sem, true_and, and_true]))
        rw [bad (fun h => by have := h.2.1; omega)]
      have d3 : decide (xs[k].2 < 2) = false := by simpa using c3
      by_cases c4 : xs[k].2 > 1025
      · have d4 : decide (xs[k].2 > 1025) = true := by simpa using c4
        (repeat (first | ((first | refine u_0x rfl rfl rfl ?_ | refine u_1x rfl rfl rfl ?_); intro K1 hK1; simp only [go_sem, d1, d2, d3, d4, tArcs_len, half2, ha0, ha1]; (first | refine hK1 _ ?_ | refine andk (hK1 _ ?_)); clear hK1 K1) | (refine u_2x rfl rfl rfl rfl ?_; intro K1 hK1; simp only [go_sem, d1, d2, d3, d4, tArcs_len, half2, ha0, ha1]; (first | refine hK1 _ ?_ | refine andk (hK1 _ ?_)); clear hK1 K1) | (refine u_2f rfl rfl rfl rfl ?_; intro K1 hK1; simp only [go_sem, d1, d2, d3, d4, tArcs_len, half2, ha0, ha1]; (first | refine hK1 _ ?_ | refine andk (hK1 _ ?_)); clear hK1 K1) | (refine u_nil ?_; refine hK _ ?_; clear hK K)))
        (refine aw_cnd ?_; intro X Y hX hY; simp only [go_sem])
        refine hX ?_
        clear hX hY X Y
        (repeat (first | (refine aw_seq ?_; intro K hK) | refine aw_block ?_ | refine aw_region ?_ | (refine lst_x rfl rfl ?_; intro K1 hK1; simp only [go_sem]; (first | refine hK1 _ ?_ | refine andk (hK1 _ ?_)); clear hK1 K1) | ((first | refine lst_nil ?_ | refine aw_skip ?_); refine hK _ ?_; clear hK K)))
        ((try refine aw_ret ?_); (try simp only [ThenA, InBl]); refine ret_le (le_pick [] rfl rfl) ?_; (try simp only [List.set_nil, List.take_nil, List.take_zero, List.map_append, go_sem]); ((try refine aw_ret ?_); (try refine lst_nil ?_); (try simp only [ThenA, InBl]); refine ret_mk (by first | exact .inl rfl | exact .inr rfl) rfl ?_; simp only [rtn, resA, resL, resV, Tryz.results70, go_sem, true_and, and_true]))
        rw [bad (fun h => by have := h.2.2; omega)]
      have d4 : decide (xs[k].2 > 1025) = false := by simpa using c4
      have hck : chanP xs[k].1 ∧ chanP xs[k].2 := ⟨⟨by omega, by omega⟩, by omega, by omega⟩
      by_cases h0 : k = 0
      · have e0 : decide ((k : Int) > 0) = false := by simp; omega
        (repeat (first | ((first | refine u_0x rfl rfl rfl ?_ | refine u_1x rfl rfl rfl ?_); intro K1 hK1; simp only [go_sem, d1, d2, d3, d4, e0, tArcs_len, half2, ha0, ha1]; (first | refine hK1 _ ?_ | refine andk (hK1 _ ?_)); clear hK1 K1) | (refine u_2x rfl rfl rfl rfl ?_; intro K1 hK1; simp only [go_sem, d1, d2, d3, d4, e0, tArcs_len, half2, ha0, ha1]; (first | refine hK1 _ ?_ | refine andk (hK1 _ ?_)); clear hK1 K1) | (refine u_2f rfl rfl rfl rfl ?_; intro K1 hK1; simp only [go_sem, d1, d2, d3, d4, e0, tArcs_len, half2, ha0, ha1]; (first | refine hK1 _ ?_ | refine andk (hK1 _ ?_)); clear hK1 K1) | (refine u_nil ?_; refine hK _ ?_; clear hK K)))
        (refine aw_cnd ?_; intro X Y hX hY; simp only [go_sem])
        refine hY ?_
        clear hX hY X Y
        (repeat (first | (refine aw_seq ?_; intro K hK) | refine aw_block ?_ | refine aw_region ?_ | (refine lst_x rfl rfl ?_; intro K1 hK1; simp only [go_sem]; (first | refine hK1 _ ?_ | refine andk (hK1 _ ?_)); clear hK1 K1) | ((first | refine lst_nil ?_ | refine aw_skip ?_); refine hK _ ?_; clear hK K)))
        ((try refine lst_nil ?_); (try refine aw_skip ?_); try simp only [ThenA])
        refine hK _ (k + 1) ⟨by omega, fun i a hi ha => ?_, fun i x y hi => by omega⟩ (by omega) ?_
        · have e2 : i = k := by omega
          subst e2; rw [hg] at ha; cases ha; exact hck
        · (refine le_tm ?_; simp only [LeTm, go_sem]; try simp)
      · have e0 : decide ((k : Int) > 0) = true := by simp; omega
        have e3 : ((k : Int) - 1) = ((k - 1 : Nat) : Int) := by omega
        have hlt1 : k - 1 < xs.length := by omega
        have hg1 := List.getElem?_eq_getElem hlt1
        have hk2 := tArcs_at hlt
        have hk3 := tArcs_at hlt1
        (repeat (first | ((first | refine u_0x rfl rfl rfl ?_ | refine u_1x rfl rfl rfl ?_); intro K1 hK1; simp only [go_sem, d1, d2, d3, d4, e0, e3, tArcs_len, half2, ha0, ha1, hk2, hk3]; (first | refine hK1 _ ?_ | refine andk (hK1 _ ?_)); clear hK1 K1) | (refine u_2x rfl rfl rfl rfl ?_; intro K1 hK1; simp only [go_sem, d1, d2, d3, d4, e0, e3, tArcs_len, half2, ha0, ha1, hk2, hk3]; (first | refine hK1 _ ?_ | refine andk (hK1 _ ?_)); clear hK1 K1) | (refine u_2f rfl rfl rfl rfl ?_; intro K1 hK1; simp only [go_sem, d1, d2, d3, d4, e0, e3, tArcs_len, half2, ha0, ha1, hk2, hk3]; (first | refine hK1 _ ?_ | refine andk (hK1 _ ?_)); clear hK1 K1) | (refine u_nil ?_; refine hK _ ?_; clear hK K)))
        (refine u_wG rfl rfl rfl (by simp only [go_sem] <;> rfl) rfl ?_; intro K1 hK1; refine (stp_call0 (ids := []) (lessA_fc xs[k - 1] xs[k]) rfl rfl (by simp only [go_sem]) (by kernel_rfl) (by (simp only [List.append_nil, go_sem]) <;> rfl) ?_).stp)
        rintro _ _ ⟨rfl, rfl⟩
        (simp only [aInts, aSets, List.append_nil, List.nil_append, List.length_map, go_sem]; refine hK1 _ ?_; clear hK1 K1)
        cases hl : ltA xs[k - 1] xs[k] with
        | false =>
          (repeat (first | ((first | refine u_0x rfl rfl rfl ?_ | refine u_1x rfl rfl rfl ?_); intro K1 hK1; simp only [go_sem, hl, Bool.not_false]; (first | refine hK1 _ ?_ | refine andk (hK1 _ ?_)); clear hK1 K1) | (refine u_2x rfl rfl rfl rfl ?_; intro K1 hK1; simp only [go_sem, hl, Bool.not_false]; (first | refine hK1 _ ?_ | refine andk (hK1 _ ?_)); clear hK1 K1) | (refine u_2f rfl rfl rfl rfl ?_; intro K1 hK1; simp only [go_sem, hl, Bool.not_false]; (first | refine hK1 _ ?_ | refine andk (hK1 _ ?_)); clear hK1 K1) | (refine u_nil ?_; refine hK _ ?_; clear hK K)))
          (refine aw_cnd ?_; intro X Y hX hY; simp only [go_sem])
          refine hX ?_
          clear hX hY X Y
          (repeat (first | (refine aw_seq ?_; intro K hK) | refine aw_block ?_ | refine aw_region ?_ | (refine lst_x rfl rfl ?_; intro K1 hK1; simp only [go_sem]; (first | refine hK1 _ ?_ | refine andk (hK1 _ ?_)); clear hK1 K1) | ((first | refine lst_nil ?_ | refine aw_skip ?_); refine hK _ ?_; clear hK K)))
          ((try refine aw_ret ?_); (try simp only [ThenA, InBl]); refine ret_le (le_pick [] rfl rfl) ?_; (try simp only [List.set_nil, List.take_nil, List.take_zero, List.map_append, go_sem]); ((try refine aw_ret ?_); (try refine lst_nil ?_); (try simp only [ThenA, InBl]); refine ret_mk (by first | exact .inl rfl | exact .inr rfl) rfl ?_; simp only [rtn, resA, resL, resV, Tryz.results70, go_sem, true_and, and_true]))
          rw [pairsB_uns hg1 (by rw [Nat.sub_add_cancel (by omega)]; exact hg) hl]
        | true =>
          (repeat (first | ((first | refine u_0x rfl rfl rfl ?_ | refine u_1x rfl rfl rfl ?_); intro K1 hK1; simp only [go_sem, hl, Bool.not_true]; (first | refine hK1 _ ?_ | refine andk (hK1 _ ?_)); clear hK1 K1) | (refine u_2x rfl rfl rfl rfl ?_; intro K1 hK1; simp only [go_sem, hl, Bool.not_true]; (first | refine hK1 _ ?_ | refine andk (hK1 _ ?_)); clear hK1 K1) | (refine u_2f rfl rfl rfl rfl ?_; intro K1 hK1; simp only [go_sem, hl, Bool.not_true]; (first | refine hK1 _ ?_ | refine andk (hK1 _ ?_)); clear hK1 K1) | (refine u_nil ?_; refine hK _ ?_; clear hK K)))
          (refine aw_cnd ?_; intro X Y hX hY; simp only [go_sem])
          refine hY ?_
          clear hX hY X Y
          (repeat (first | (refine aw_seq ?_; intro K hK) | refine aw_block ?_ | refine aw_region ?_ | (refine lst_x rfl rfl ?_; intro K1 hK1; simp only [go_sem]; (first | refine hK1 _ ?_ | refine andk (hK1 _ ?_)); clear hK1 K1) | ((first | refine lst_nil ?_ | refine aw_skip ?_); refine hK _ ?_; clear hK K)))
          ((try refine lst_nil ?_); (try refine aw_skip ?_); try simp only [ThenA])
          refine hK _ (k + 1) ⟨by omega, fun i a hi ha => ?_, fun i x y hi hx hy => ?_⟩ (by omega) ?_
          · by_cases e2 : i = k
            · subst e2; rw [hg] at ha; cases ha; exact hck
            · exact hc i a (by omega) ha
          · by_cases e2 : i + 1 = k
            · have e4 : i = k - 1 := by omega
              subst e4
              rw [hg1] at hx; rw [e2, hg] at hy
              cases hx; cases hy; exact hl
            · exact hs i x y (by omega) hx hy
          · (refine le_tm ?_; simp only [LeTm, go_sem]; try simp)
    · have hl1 : decide ((k : Int) < (xs.length : Int)) = false := by simpa using hlt
      have hke : k = xs.length := by omega
      subst hke
      (repeat (first | (refine aw_seq ?_; intro K hK) | refine aw_block ?_ | refine aw_region ?_ | (refine lst_x rfl rfl ?_; intro K1 hK1; simp only [go_sem, hl1, tArcs_len, half2]; (first | refine hK1 _ ?_ | refine andk (hK1 _ ?_)); clear hK1 K1) | ((first | refine lst_nil ?_ | refine aw_skip ?_); refine hK _ ?_; clear hK K)))
      (refine aw_cnd ?_; intro X Y hX hY; simp only [go_sem])
      refine hY ?_
      clear hX hY X Y
      (refine aw_exit ?_; simp only [ThenA, InBl, reduceIte, Nat.reduceEqDiff]; (first | refine hK _ ?_ | (clear hK K; refine hK _ ?_) | (clear hK K; clear hK K; refine hK _ ?_) | (clear hK K; clear hK K; clear hK K; refine hK _ ?_) | (clear hK K; clear hK K; clear hK K; clear hK K; refine hK _ ?_) | (clear hK K; clear hK K; clear hK K; clear hK K; clear hK K; refine hK _ ?_)); clear hK K)
      (repeat (first | (refine aw_seq ?_; intro K hK) | refine aw_block ?_ | refine aw_region ?_ | (refine lst_x rfl rfl ?_; intro K1 hK1; simp only [go_sem]; (first | refine hK1 _ ?_ | refine andk (hK1 _ ?_)); clear hK1 K1) | ((first | refine lst_nil ?_ | refine aw_skip ?_); refine hK _ ?_; clear hK K)))
      ((try refine aw_ret ?_); (try simp only [ThenA, InBl]); refine ret_le (le_pick [] rfl rfl) ?_; (try simp only [List.set_nil, List.take_nil, List.take_zero, List.map_append, go_sem]); ((try refine aw_ret ?_); (try refine lst_nil ?_); (try simp only [ThenA, InBl]); refine ret_mk (by first | exact .inl rfl | exact .inr rfl) rfl ?_; simp only [rtn, resA, resL, resV, Tryz.results70, go_sem, true_and, and_true]))
      rw [pairsB_ok (fun i a b h1 h2 => hs i a b (by have := (List.getElem?_eq_some_iff.1 h2).1; omega) h1 h2) (fun i a h => hc i a (by have := (List.getElem?_eq_some_iff.1 h).1; omega) h)]
end Go.Proofs.YthlckclbjknldaaGreat
