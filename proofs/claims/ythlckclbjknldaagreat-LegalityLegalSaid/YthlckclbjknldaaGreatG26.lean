/- Priority orders: the program's ValidOrder. -/
import Derived.Test.YthlckclbjknldaaGreatG24
import Derived.Test.YthlckclbjknldaaGreatG25
namespace Go.Proofs.YthlckclbjknldaaGreat
set_option linter.unusedVariables false
set_option linter.unusedSimpArgs false
open Go.RowKit
set_option maxRecDepth 100000
attribute [local go_sem] List.set_cons_zero List.set_cons_succ List.map_cons List.map_nil List.take_succ_cons List.take_zero List.drop_zero List.drop_succ_cons C.pl C.one List.all_cons List.all_nil Bool.and_true

set_option maxHeartbeats 2000000 in
theorem pord_fc (o : List Ar) (hn : o.length ≤ 100000000) : FC Tryz.prog 68 [aArcs o] [] (fun r q => q = [] ∧ r = .b (ordB o)) := by
  refine fc_intro Tryz.func68 rfl (by rw [Tryz.ntmps68]; simp) ?_
  rw [Tryz.ntmps68]
  simp only [enum, aArcs]
  (repeat (first | (refine aw_seq ?_; intro K hK) | refine aw_block ?_ | refine aw_region ?_ | (refine lst_x rfl rfl ?_; intro K1 hK1; simp only [go_sem, tArcs_len, half2]; (first | refine hK1 _ ?_ | refine andk (hK1 _ ?_)); clear hK1 K1) | ((first | refine lst_nil ?_ | refine aw_skip ?_); refine hK _ ?_; clear hK K)))
  refine aw_loop (fun k : Nat => { tm := [(0, .a (.c (.t 2 (tArcs o)))), (9, .a (.c (.t 2 (tArcs o)))), (10, .i o.length), (11, .i k)], hp := [], n := 73, pin := 0 }) (fun k => k ≤ o.length ∧ (∀ i a, i < k → o[i]? = some a → chanP a.1 ∧ chanP a.2 ∧ a.1 ≠ a.2) ∧ ∀ i a b, i + 1 < k → o[i]? = some a → o[i + 1]? = some b → ltA a b = true) (fun k => o.length - k) 0 ?_ ?_ ?_
  · exact ⟨by omega, fun i _ hi => by omega, fun i _ _ hi => by omega⟩
  · (refine le_tm ?_; simp only [LeTm, go_sem]; try simp)
  · rintro k ⟨hk, hc, hs⟩ K hK
    by_cases hlt : k < o.length
    · have hl1 : decide ((k : Int) < (o.length : Int)) = true := by simpa using hlt
      have hg := List.getElem?_eq_getElem hlt
      have hk2 := tArcs_at hlt
      have bad : ¬ (chanP o[k].1 ∧ chanP o[k].2 ∧ o[k].1 ≠ o[k].2) → ordB o = false := fun h => ordB_bad hg h
      (repeat (first | (refine aw_seq ?_; intro K hK) | refine aw_block ?_ | refine aw_region ?_ | (refine lst_x rfl rfl ?_; intro K1 hK1; simp only [go_sem, hl1]; (first | refine hK1 _ ?_ | refine andk (hK1 _ ?_)); clear hK1 K1) | ((first | refine lst_nil ?_ | refine aw_skip ?_); refine hK _ ?_; clear hK K)))
      (refine aw_cnd ?_; intro X Y hX hY; simp only [go_sem])
      refine hX ?_
      clear hX hY X Y
      (repeat (first | (refine aw_seq ?_; intro K hK) | refine aw_block ?_ | refine aw_region ?_ | (refine lst_x rfl rfl ?_; intro K1 hK1; simp only [go_sem, tArcs_len, half2, hk2]; (first | refine hK1 _ ?_ | refine andk (hK1 _ ?_)); clear hK1 K1) | ((first | refine lst_nil ?_ | refine aw_skip ?_); refine hK _ ?_; clear hK K)))
      (refine aw_regionV [] [(0, 0, 0), (1, 1, 2), (2, 2, 0), (3, 0, 0), (4, 0, 0), (5, 0, 0), (6, 1, 7), (7, 2, 0), (8, 0, 0), (9, 0, 0), (10, 0, 0), (11, 0, 0), (13, 0, 0), (12, 1, 27), (14, 1, 27), (15, 0, 0), (16, 0, 0), (17, 0, 0), (18, 0, 0), (19, 0, 0), (20, 0, 0), (21, 0, 0), (22, 0, 0), (23, 0, 0), (24, 0, 0), (25, 1, 27), (26, 1, 27), (27, 2, 0), (28, 0, 0), (29, 0, 0), (30, 2, 0)] (by kernel_rfl) (by kernel_rfl) (by intro c st h; simp [ThenA, InBl, Ret] at h) ?_)
      (repeat (first | ((first | refine v_0 rfl rfl rfl ?_ | refine v_1 rfl rfl rfl rfl rfl rfl rfl rfl rfl ?_ | refine v_1q rfl rfl rfl rfl rfl rfl rfl ?_ | refine v_1f rfl rfl rfl ?_ | refine v_2f rfl rfl rfl rfl ?_); intro K1 hK1; simp only [go_sem]; (first | refine hK1 _ ?_ | refine andk (hK1 _ ?_)); clear hK1 K1) | (refine v_nil ⟨by simp, by simp, ?_⟩; refine hK _ ?_; clear hK K)))
      (refine v_2 rfl rfl ?_; intro K1 hK1; refine stpX_mono ?_; refine stpX_call (ids := []) [] (pvis_fc o[k].1) rfl rfl (by simp only [go_sem]) (by kernel_rfl) rfl rfl rfl (by (simp only [List.map_append, List.append_nil, go_sem]) <;> rfl) (by (simp only [pkh, go_sem]) <;> rfl) ?_ ?_)
      · rintro _ _ ⟨rfl, rfl⟩ i o hi hl; simp at hl
      rintro _ _ ⟨rfl, rfl⟩
      (simp only [aInts, aSets, List.append_nil, List.nil_append, List.length_map, go_sem]; refine hK1 _ ?_; clear hK1 K1)
      by_cases c1 : chanB o[k].1 = true
      · (repeat (first | ((first | refine v_0 rfl rfl rfl ?_ | refine v_1 rfl rfl rfl rfl rfl rfl rfl rfl rfl ?_ | refine v_1q rfl rfl rfl rfl rfl rfl rfl ?_ | refine v_1f rfl rfl rfl ?_ | refine v_2f rfl rfl rfl rfl ?_); intro K1 hK1; simp only [go_sem, c1, Bool.not_true]; (first | refine hK1 _ ?_ | refine andk (hK1 _ ?_)); clear hK1 K1) | (refine v_nil ⟨by simp, by simp, ?_⟩; refine hK _ ?_; clear hK K)))
        (refine v_2g rfl rfl rfl (by simp only [go_sem] <;> rfl) ?_; intro K1 hK1; refine stpX_mono ?_; refine stpX_call (ids := []) [] (pvis_fc o[k].2) rfl rfl (by simp only [go_sem]) (by kernel_rfl) rfl rfl rfl (by (simp only [List.map_append, List.append_nil, go_sem]) <;> rfl) (by (simp only [pkh, go_sem]) <;> rfl) ?_ ?_)
        · rintro _ _ ⟨rfl, rfl⟩ i o hi hl; simp at hl
        rintro _ _ ⟨rfl, rfl⟩
        (simp only [aInts, aSets, List.append_nil, List.nil_append, List.length_map, go_sem]; refine hK1 _ ?_; clear hK1 K1)
        by_cases c2 : chanB o[k].2 = true
        · by_cases c5 : o[k].1 = o[k].2
          · have d5 : (o[k].1 == o[k].2) = true := by simpa using c5
            (repeat (first | ((first | refine v_0 rfl rfl rfl ?_ | refine v_1 rfl rfl rfl rfl rfl rfl rfl rfl rfl ?_ | refine v_1q rfl rfl rfl rfl rfl rfl rfl ?_ | refine v_1f rfl rfl rfl ?_ | refine v_2f rfl rfl rfl rfl ?_); intro K1 hK1; simp only [go_sem, c1, c2, d5, Bool.not_true]; (first | refine hK1 _ ?_ | refine andk (hK1 _ ?_)); clear hK1 K1) | (refine v_nil ⟨by simp, by simp, ?_⟩; refine hK _ ?_; clear hK K)))
            (refine v_3 rfl rfl rfl ?_; intro K1 hK1; refine stp_ev rfl ?_; simp only [go_sem]; (first | refine hK1 _ ?_ | refine andk (hK1 _ ?_)); clear hK1 K1)
            (repeat (first | ((first | refine v_0 rfl rfl rfl ?_ | refine v_1 rfl rfl rfl rfl rfl rfl rfl rfl rfl ?_ | refine v_1q rfl rfl rfl rfl rfl rfl rfl ?_ | refine v_1f rfl rfl rfl ?_ | refine v_2f rfl rfl rfl rfl ?_); intro K1 hK1; simp only [go_sem]; (first | refine hK1 _ ?_ | refine andk (hK1 _ ?_)); clear hK1 K1) | (refine v_nil ⟨by simp, by simp, ?_⟩; refine hK _ ?_; clear hK K)))
            (repeat (first | (refine aw_seq ?_; intro K hK) | refine aw_block ?_ | refine aw_region ?_ | (refine lst_x rfl rfl ?_; intro K1 hK1; simp only [go_sem]; (first | refine hK1 _ ?_ | refine andk (hK1 _ ?_)); clear hK1 K1) | ((first | refine lst_nil ?_ | refine aw_skip ?_); refine hK _ ?_; clear hK K)))
            (refine aw_cnd ?_; intro X Y hX hY; simp only [go_sem])
            refine hX ?_
            clear hX hY X Y
            (repeat (first | (refine aw_seq ?_; intro K hK) | refine aw_block ?_ | refine aw_region ?_ | (refine lst_x rfl rfl ?_; intro K1 hK1; simp only [go_sem]; (first | refine hK1 _ ?_ | refine andk (hK1 _ ?_)); clear hK1 K1) | ((first | refine lst_nil ?_ | refine aw_skip ?_); refine hK _ ?_; clear hK K)))
            ((try refine aw_ret ?_); (try simp only [ThenA, InBl]); refine ret_le (le_pick [] rfl rfl) ?_; (try simp only [List.set_nil, List.take_nil, List.take_zero, List.map_append, go_sem]); ((try refine aw_ret ?_); (try refine lst_nil ?_); (try simp only [ThenA, InBl]); refine ret_mk (by first | exact .inl rfl | exact .inr rfl) rfl ?_; simp only [rtn, resA, resL, resV, Tryz.results68, go_sem, true_and, and_true]))
            rw [bad (fun h => h.2.2 c5)]
          have d5 : (o[k].1 == o[k].2) = false := by simpa using c5
          have hck : chanP o[k].1 ∧ chanP o[k].2 ∧ o[k].1 ≠ o[k].2 := ⟨chanB_iff.1 c1, chanB_iff.1 c2, c5⟩
          by_cases h0 : k = 0
          · have e0 : decide ((k : Int) > 0) = false := by simp; omega
            (repeat (first | ((first | refine v_0 rfl rfl rfl ?_ | refine v_1 rfl rfl rfl rfl rfl rfl rfl rfl rfl ?_ | refine v_1q rfl rfl rfl rfl rfl rfl rfl ?_ | refine v_1f rfl rfl rfl ?_ | refine v_2f rfl rfl rfl rfl ?_); intro K1 hK1; simp only [go_sem, c1, c2, d5, e0, Bool.not_true]; (first | refine hK1 _ ?_ | refine andk (hK1 _ ?_)); clear hK1 K1) | (refine v_nil ⟨by simp, by simp, ?_⟩; refine hK _ ?_; clear hK K)))
            (refine v_3 rfl rfl rfl ?_; intro K1 hK1; refine stp_ev rfl ?_; simp only [go_sem, c1, c2, e0, Bool.not_true]; (first | refine hK1 _ ?_ | refine andk (hK1 _ ?_)); clear hK1 K1)
            (repeat (first | ((first | refine v_0 rfl rfl rfl ?_ | refine v_1 rfl rfl rfl rfl rfl rfl rfl rfl rfl ?_ | refine v_1q rfl rfl rfl rfl rfl rfl rfl ?_ | refine v_1f rfl rfl rfl ?_ | refine v_2f rfl rfl rfl rfl ?_); intro K1 hK1; simp only [go_sem]; (first | refine hK1 _ ?_ | refine andk (hK1 _ ?_)); clear hK1 K1) | (refine v_nil ⟨by simp, by simp, ?_⟩; refine hK _ ?_; clear hK K)))
            (repeat (first | (refine aw_seq ?_; intro K hK) | refine aw_block ?_ | refine aw_region ?_ | (refine lst_x rfl rfl ?_; intro K1 hK1; simp only [go_sem]; (first | refine hK1 _ ?_ | refine andk (hK1 _ ?_)); clear hK1 K1) | ((first | refine lst_nil ?_ | refine aw_skip ?_); refine hK _ ?_; clear hK K)))
            (refine aw_cnd ?_; intro X Y hX hY; simp only [go_sem])
            refine hY ?_
            clear hX hY X Y
            (repeat (first | (refine aw_seq ?_; intro K hK) | refine aw_block ?_ | refine aw_region ?_ | (refine lst_x rfl rfl ?_; intro K1 hK1; simp only [go_sem]; (first | refine hK1 _ ?_ | refine andk (hK1 _ ?_)); clear hK1 K1) | ((first | refine lst_nil ?_ | refine aw_skip ?_); refine hK _ ?_; clear hK K)))
            ((try refine lst_nil ?_); (try refine aw_skip ?_); try simp only [ThenA])
            refine hK _ (k + 1) ⟨by omega, fun i a hi ha => ?_, fun i x y hi => by omega⟩ (by omega) ?_
            · have e2 : i = k := by omega
              subst e2; rw [hg] at ha; cases ha; exact hck
            · refine Le.trans (le_pick [] rfl rfl) ?_
              (try simp only [List.set_nil, List.take_nil, List.take_zero, List.map_append, go_sem])
              (refine le_tm ?_; simp only [LeTm, go_sem]; try simp)
          · have e0 : decide ((k : Int) > 0) = true := by simp; omega
            have e3 : ((k : Int) - 1) = ((k - 1 : Nat) : Int) := by omega
            have hlt1 : k - 1 < o.length := by omega
            have hg1 := List.getElem?_eq_getElem hlt1
            have hk3 := tArcs_at hlt1
            (repeat (first | ((first | refine v_0 rfl rfl rfl ?_ | refine v_1 rfl rfl rfl rfl rfl rfl rfl rfl rfl ?_ | refine v_1q rfl rfl rfl rfl rfl rfl rfl ?_ | refine v_1f rfl rfl rfl ?_ | refine v_2f rfl rfl rfl rfl ?_); intro K1 hK1; simp only [go_sem, c1, c2, d5, e0, e3, Bool.not_true, tArcs_len, half2, hk3]; (first | refine hK1 _ ?_ | refine andk (hK1 _ ?_)); clear hK1 K1) | (refine v_nil ⟨by simp, by simp, ?_⟩; refine hK _ ?_; clear hK K)))
            (refine v_2g rfl rfl rfl (by simp only [go_sem] <;> rfl) ?_; intro K1 hK1; refine stpX_mono ?_; refine stpX_call (ids := []) [] (pcmp_fc o[k - 1] o[k]) rfl rfl (by simp only [go_sem]) (by kernel_rfl) rfl rfl rfl (by (simp only [List.map_append, List.append_nil, go_sem]) <;> rfl) (by (simp only [pkh, go_sem]) <;> rfl) ?_ ?_)
            · rintro _ _ ⟨rfl, rfl⟩ i o hi hl; simp at hl
            rintro _ _ ⟨rfl, rfl⟩
            (simp only [aInts, aSets, List.append_nil, List.nil_append, List.length_map, go_sem]; refine hK1 _ ?_; clear hK1 K1)
            cases hl : ltA o[k - 1] o[k] with
            | false =>
              (repeat (first | ((first | refine v_0 rfl rfl rfl ?_ | refine v_1 rfl rfl rfl rfl rfl rfl rfl rfl rfl ?_ | refine v_1q rfl rfl rfl rfl rfl rfl rfl ?_ | refine v_1f rfl rfl rfl ?_ | refine v_2f rfl rfl rfl rfl ?_); intro K1 hK1; simp only [go_sem, cmpR_ge, hl, Bool.not_false]; (first | refine hK1 _ ?_ | refine andk (hK1 _ ?_)); clear hK1 K1) | (refine v_nil ⟨by simp, by simp, ?_⟩; refine hK _ ?_; clear hK K)))
              (refine v_3 rfl rfl rfl ?_; intro K1 hK1; refine stp_ev rfl ?_; simp only [go_sem]; (first | refine hK1 _ ?_ | refine andk (hK1 _ ?_)); clear hK1 K1)
              (repeat (first | ((first | refine v_0 rfl rfl rfl ?_ | refine v_1 rfl rfl rfl rfl rfl rfl rfl rfl rfl ?_ | refine v_1q rfl rfl rfl rfl rfl rfl rfl ?_ | refine v_1f rfl rfl rfl ?_ | refine v_2f rfl rfl rfl rfl ?_); intro K1 hK1; simp only [go_sem]; (first | refine hK1 _ ?_ | refine andk (hK1 _ ?_)); clear hK1 K1) | (refine v_nil ⟨by simp, by simp, ?_⟩; refine hK _ ?_; clear hK K)))
              (repeat (first | (refine aw_seq ?_; intro K hK) | refine aw_block ?_ | refine aw_region ?_ | (refine lst_x rfl rfl ?_; intro K1 hK1; simp only [go_sem]; (first | refine hK1 _ ?_ | refine andk (hK1 _ ?_)); clear hK1 K1) | ((first | refine lst_nil ?_ | refine aw_skip ?_); refine hK _ ?_; clear hK K)))
              (refine aw_cnd ?_; intro X Y hX hY; simp only [go_sem])
              refine hX ?_
              clear hX hY X Y
              (repeat (first | (refine aw_seq ?_; intro K hK) | refine aw_block ?_ | refine aw_region ?_ | (refine lst_x rfl rfl ?_; intro K1 hK1; simp only [go_sem]; (first | refine hK1 _ ?_ | refine andk (hK1 _ ?_)); clear hK1 K1) | ((first | refine lst_nil ?_ | refine aw_skip ?_); refine hK _ ?_; clear hK K)))
              ((try refine aw_ret ?_); (try simp only [ThenA, InBl]); refine ret_le (le_pick [] rfl rfl) ?_; (try simp only [List.set_nil, List.take_nil, List.take_zero, List.map_append, go_sem]); ((try refine aw_ret ?_); (try refine lst_nil ?_); (try simp only [ThenA, InBl]); refine ret_mk (by first | exact .inl rfl | exact .inr rfl) rfl ?_; simp only [rtn, resA, resL, resV, Tryz.results68, go_sem, true_and, and_true]))
              rw [ordB_uns hg1 (by rw [Nat.sub_add_cancel (by omega)]; exact hg) hl]
            | true =>
              (repeat (first | ((first | refine v_0 rfl rfl rfl ?_ | refine v_1 rfl rfl rfl rfl rfl rfl rfl rfl rfl ?_ | refine v_1q rfl rfl rfl rfl rfl rfl rfl ?_ | refine v_1f rfl rfl rfl ?_ | refine v_2f rfl rfl rfl rfl ?_); intro K1 hK1; simp only [go_sem, cmpR_ge, hl, Bool.not_true]; (first | refine hK1 _ ?_ | refine andk (hK1 _ ?_)); clear hK1 K1) | (refine v_nil ⟨by simp, by simp, ?_⟩; refine hK _ ?_; clear hK K)))
              (refine v_3 rfl rfl rfl ?_; intro K1 hK1; refine stp_ev rfl ?_; simp only [go_sem]; (first | refine hK1 _ ?_ | refine andk (hK1 _ ?_)); clear hK1 K1)
              (repeat (first | ((first | refine v_0 rfl rfl rfl ?_ | refine v_1 rfl rfl rfl rfl rfl rfl rfl rfl rfl ?_ | refine v_1q rfl rfl rfl rfl rfl rfl rfl ?_ | refine v_1f rfl rfl rfl ?_ | refine v_2f rfl rfl rfl rfl ?_); intro K1 hK1; simp only [go_sem]; (first | refine hK1 _ ?_ | refine andk (hK1 _ ?_)); clear hK1 K1) | (refine v_nil ⟨by simp, by simp, ?_⟩; refine hK _ ?_; clear hK K)))
              (repeat (first | (refine aw_seq ?_; intro K hK) | refine aw_block ?_ | refine aw_region ?_ | (refine lst_x rfl rfl ?_; intro K1 hK1; simp only [go_sem]; (first | refine hK1 _ ?_ | refine andk (hK1 _ ?_)); clear hK1 K1) | ((first | refine lst_nil ?_ | refine aw_skip ?_); refine hK _ ?_; clear hK K)))
              (refine aw_cnd ?_; intro X Y hX hY; simp only [go_sem])
              refine hY ?_
              clear hX hY X Y
              (repeat (first | (refine aw_seq ?_; intro K hK) | refine aw_block ?_ | refine aw_region ?_ | (refine lst_x rfl rfl ?_; intro K1 hK1; simp only [go_sem]; (first | refine hK1 _ ?_ | refine andk (hK1 _ ?_)); clear hK1 K1) | ((first | refine lst_nil ?_ | refine aw_skip ?_); refine hK _ ?_; clear hK K)))
              ((try refine lst_nil ?_); (try refine aw_skip ?_); try simp only [ThenA])
              refine hK _ (k + 1) ⟨by omega, fun i a hi ha => ?_, fun i x y hi hx hy => ?_⟩ (by omega) ?_
              · by_cases e2 : i = k
                · subst e2; rw [hg] at ha; cases ha; exact hck
                · exact hc i a (by omega) ha
              · by_cases e2 : i + 1 = k
                · have e4 : i = k - 1 := by omega
                  subst e4
                  rw [hg1] at hx; rw [e2, hg] at hy
                  cases hx; cases hy; exact hl
                · exact hs i x y (by omega) hx hy
              · refine Le.trans (le_pick [] rfl rfl) ?_
                (try simp only [List.set_nil, List.take_nil, List.take_zero, List.map_append, go_sem])
                (refine le_tm ?_; simp only [LeTm, go_sem]; try simp)
        · have c2' : chanB o[k].2 = false := by simpa using c2
          (repeat (first | ((first | refine v_0 rfl rfl rfl ?_ | refine v_1 rfl rfl rfl rfl rfl rfl rfl rfl rfl ?_ | refine v_1q rfl rfl rfl rfl rfl rfl rfl ?_ | refine v_1f rfl rfl rfl ?_ | refine v_2f rfl rfl rfl rfl ?_); intro K1 hK1; simp only [go_sem, c1, c2', Bool.not_true, Bool.not_false]; (first | refine hK1 _ ?_ | refine andk (hK1 _ ?_)); clear hK1 K1) | (refine v_nil ⟨by simp, by simp, ?_⟩; refine hK _ ?_; clear hK K)))
          (refine v_3 rfl rfl rfl ?_; intro K1 hK1; refine stp_ev rfl ?_; simp only [go_sem]; (first | refine hK1 _ ?_ | refine andk (hK1 _ ?_)); clear hK1 K1)
          (repeat (first | ((first | refine v_0 rfl rfl rfl ?_ | refine v_1 rfl rfl rfl rfl rfl rfl rfl rfl rfl ?_ | refine v_1q rfl rfl rfl rfl rfl rfl rfl ?_ | refine v_1f rfl rfl rfl ?_ | refine v_2f rfl rfl rfl rfl ?_); intro K1 hK1; simp only [go_sem]; (first | refine hK1 _ ?_ | refine andk (hK1 _ ?_)); clear hK1 K1) | (refine v_nil ⟨by simp, by simp, ?_⟩; refine hK _ ?_; clear hK K)))
          (repeat (first | (refine aw_seq ?_; intro K hK) | refine aw_block ?_ | refine aw_region ?_ | (refine lst_x rfl rfl ?_; intro K1 hK1; simp only [go_sem]; (first | refine hK1 _ ?_ | refine andk (hK1 _ ?_)); clear hK1 K1) | ((first | refine lst_nil ?_ | refine aw_skip ?_); refine hK _ ?_; clear hK K)))
          (refine aw_cnd ?_; intro X Y hX hY; simp only [go_sem])
          refine hX ?_
          clear hX hY X Y
          (repeat (first | (refine aw_seq ?_; intro K hK) | refine aw_block ?_ | refine aw_region ?_ | (refine lst_x rfl rfl ?_; intro K1 hK1; simp only [go_sem]; (first | refine hK1 _ ?_ | refine andk (hK1 _ ?_)); clear hK1 K1) | ((first | refine lst_nil ?_ | refine aw_skip ?_); refine hK _ ?_; clear hK K)))
          ((try refine aw_ret ?_); (try simp only [ThenA, InBl]); refine ret_le (le_pick [] rfl rfl) ?_; (try simp only [List.set_nil, List.take_nil, List.take_zero, List.map_append, go_sem]); ((try refine aw_ret ?_); (try refine lst_nil ?_); (try simp only [ThenA, InBl]); refine ret_mk (by first | exact .inl rfl | exact .inr rfl) rfl ?_; simp only [rtn, resA, resL, resV, Tryz.results68, go_sem, true_and, and_true]))
          rw [bad (fun h => chanB_no.1 c2' h.2.1)]
      · have c1' : chanB o[k].1 = false := by simpa using c1
        (repeat (first | ((first | refine v_0 rfl rfl rfl ?_ | refine v_1 rfl rfl rfl rfl rfl rfl rfl rfl rfl ?_ | refine v_1q rfl rfl rfl rfl rfl rfl rfl ?_ | refine v_1f rfl rfl rfl ?_ | refine v_2f rfl rfl rfl rfl ?_); intro K1 hK1; simp only [go_sem, c1', Bool.not_true, Bool.not_false]; (first | refine hK1 _ ?_ | refine andk (hK1 _ ?_)); clear hK1 K1) | (refine v_nil ⟨by simp, by simp, ?_⟩; refine hK _ ?_; clear hK K)))
        (refine v_3 rfl rfl rfl ?_; intro K1 hK1; refine stp_ev rfl ?_; simp only [go_sem]; (first | refine hK1 _ ?_ | refine andk (hK1 _ ?_)); clear hK1 K1)
        (repeat (first | ((first | refine v_0 rfl rfl rfl ?_ | refine v_1 rfl rfl rfl rfl rfl rfl rfl rfl rfl ?_ | refine v_1q rfl rfl rfl rfl rfl rfl rfl ?_ | refine v_1f rfl rfl rfl ?_ | refine v_2f rfl rfl rfl rfl ?_); intro K1 hK1; simp only [go_sem]; (first | refine hK1 _ ?_ | refine andk (hK1 _ ?_)); clear hK1 K1) | (refine v_nil ⟨by simp, by simp, ?_⟩; refine hK _ ?_; clear hK K)))
        (repeat (first | (refine aw_seq ?_; intro K hK) | refine aw_block ?_ | refine aw_region ?_ | (refine lst_x rfl rfl ?_; intro K1 hK1; simp only [go_sem]; (first | refine hK1 _ ?_ | refine andk (hK1 _ ?_)); clear hK1 K1) | ((first | refine lst_nil ?_ | refine aw_skip ?_); refine hK _ ?_; clear hK K)))
        (refine aw_cnd ?_; intro X Y hX hY; simp only [go_sem])
        refine hX ?_
        clear hX hY X Y
        (repeat (first | (refine aw_seq ?_; intro K hK) | refine aw_block ?_ | refine aw_region ?_ | (refine lst_x rfl rfl ?_; intro K1 hK1; simp only [go_sem]; (first | refine hK1 _ ?_ | refine andk (hK1 _ ?_)); clear hK1 K1) | ((first | refine lst_nil ?_ | refine aw_skip ?_); refine hK _ ?_; clear hK K)))
        ((try refine aw_ret ?_); (try simp only [ThenA, InBl]); refine ret_le (le_pick [] rfl rfl) ?_; (try simp only [List.set_nil, List.take_nil, List.take_zero, List.map_append, go_sem]); ((try refine aw_ret ?_); (try refine lst_nil ?_); (try simp only [ThenA, InBl]); refine ret_mk (by first | exact .inl rfl | exact .inr rfl) rfl ?_; simp only [rtn, resA, resL, resV, Tryz.results68, go_sem, true_and, and_true]))
        rw [bad (fun h => chanB_no.1 c1' h.1)]
    · have hl1 : decide ((k : Int) < (o.length : Int)) = false := by simpa using hlt
      (repeat (first | (refine aw_seq ?_; intro K hK) | refine aw_block ?_ | refine aw_region ?_ | (refine lst_x rfl rfl ?_; intro K1 hK1; simp only [go_sem, hl1]; (first | refine hK1 _ ?_ | refine andk (hK1 _ ?_)); clear hK1 K1) | ((first | refine lst_nil ?_ | refine aw_skip ?_); refine hK _ ?_; clear hK K)))
      (refine aw_cnd ?_; intro X Y hX hY; simp only [go_sem])
      refine hY ?_
      clear hX hY X Y
      have lt : ∀ {i : Nat} {a : Ar}, o[i]? = some a → i < k := fun h => by have := (List.getElem?_eq_some_iff.1 h).1; omega
      have hS : SortA o := sortA_get fun i a b h1 h2 => hs i a b (lt h2) h1 h2
      have hC : ∀ a ∈ o, chanP a.1 ∧ chanP a.2 ∧ a.1 ≠ a.2 := fun a ha => by obtain ⟨i, hi⟩ := List.mem_iff_getElem?.1 ha; exact hc i a (lt hi) hi
      have hH : ∀ a ∈ o, 0 ≤ a.2 := fun a ha => by obtain ⟨_, ⟨h1, h2⟩, _⟩ := hC a ha; omega
      clear hs hc lt
      (refine aw_exit ?_; simp only [ThenA, InBl, reduceIte, Nat.reduceEqDiff]; (first | refine hK _ ?_ | (clear hK K; refine hK _ ?_) | (clear hK K; clear hK K; refine hK _ ?_) | (clear hK K; clear hK K; clear hK K; refine hK _ ?_) | (clear hK K; clear hK K; clear hK K; clear hK K; refine hK _ ?_) | (clear hK K; clear hK K; clear hK K; clear hK K; clear hK K; refine hK _ ?_)); clear hK K)
      (repeat (first | (refine aw_seq ?_; intro K hK) | refine aw_block ?_ | refine aw_region ?_ | (refine lst_x rfl rfl ?_; intro K1 hK1; simp only [go_sem, tArcs_len, half2]; (first | refine hK1 _ ?_ | refine andk (hK1 _ ?_)); clear hK1 K1) | ((first | refine lst_nil ?_ | refine aw_skip ?_); refine hK _ ?_; clear hK K)))
      refine aw_loop (fun k : Nat => { tm := [(0, .a (.c (.t 2 (tArcs o)))), (48, .a (.c (.t 2 (tArcs o)))), (49, .i o.length), (50, .i k)], hp := [], n := 73, pin := 0 }) (fun k => k ≤ o.length ∧ ∀ i x, i < k → o[i]? = some x → ∀ y ∈ o, y.1 = x.2 → (x.1, y.2) ∈ o) (fun k => o.length - k) 0 ?_ ?_ ?_
      · exact ⟨by omega, fun i _ hi => by omega⟩
      · (refine le_tm ?_; simp only [LeTm, go_sem]; try simp)
      · rintro k ⟨hk, ht⟩ K hK
        by_cases hlt : k < o.length
        · have hl1 : decide ((k : Int) < (o.length : Int)) = true := by simpa using hlt
          have hg := List.getElem?_eq_getElem hlt
          have hk2 := tArcs_at hlt
          have mk := List.getElem_mem hlt
          have hv := chanB_iff.2 (hC _ mk).2.1
          (repeat (first | (refine aw_seq ?_; intro K hK) | refine aw_block ?_ | refine aw_region ?_ | (refine lst_x rfl rfl ?_; intro K1 hK1; simp only [go_sem, hl1]; (first | refine hK1 _ ?_ | refine andk (hK1 _ ?_)); clear hK1 K1) | ((first | refine lst_nil ?_ | refine aw_skip ?_); refine hK _ ?_; clear hK K)))
          (refine aw_cnd ?_; intro X Y hX hY; simp only [go_sem])
          refine hX ?_
          clear hX hY X Y
          (repeat (first | (refine aw_seq ?_; intro K hK) | refine aw_block ?_ | refine aw_region ?_ | (refine lst_x rfl rfl ?_; intro K1 hK1; simp only [go_sem, tArcs_len, half2, hk2]; (first | refine hK1 _ ?_ | refine andk (hK1 _ ?_)); clear hK1 K1) | ((first | refine lst_nil ?_ | refine aw_skip ?_); refine hK _ ?_; clear hK K)))
          (refine lst_cons rfl ?_; intro K1 hK1; refine (stp_call0 (ids := []) (pabove_fc o o[k].2 hn hS hv hH) rfl rfl (by simp only [go_sem]) (by kernel_rfl) (by (simp only [List.append_nil, go_sem]) <;> rfl) ?_).stp)
          rintro _ _ ⟨rfl, W, rfl, hWl, hW⟩
          (simp only [aInts, aSets, aArcs, List.append_nil, List.nil_append, List.length_map, go_sem]; refine hK1 _ ?_; clear hK1 K1)
          (repeat (first | (refine aw_seq ?_; intro K hK) | refine aw_block ?_ | refine aw_region ?_ | (refine lst_x rfl rfl ?_; intro K1 hK1; simp only [go_sem, tArcs_len, half2]; (first | refine hK1 _ ?_ | refine andk (hK1 _ ?_)); clear hK1 K1) | ((first | refine lst_nil ?_ | refine aw_skip ?_); refine hK _ ?_; clear hK K)))
          refine aw_loop (fun j : Nat => { tm := [(0, .a (.c (.t 2 (tArcs o)))), (6, .a (.c (.p 0 0))), (48, .a (.c (.t 2 (tArcs o)))), (49, .i o.length), (50, .i k), (57, .a (.c (.t 2 (tArcs W)))), (58, .i W.length), (59, .i j)], hp := [.r ⟨67, 2, false, [.v (.int .i64 o[k].1), .v (.int .i64 o[k].2)]⟩], n := 73, pin := 0 }) (fun j => j ≤ W.length ∧ ∀ i y, i < j → W[i]? = some y → (o[k].1, y.2) ∈ o) (fun j => W.length - j) 0 ?_ ?_ ?_
          · exact ⟨by omega, fun i _ hi => by omega⟩
          · (refine le_tm ?_; simp only [LeTm, go_sem]; try simp)
          · rintro j ⟨hj, hj2⟩ K hK
            by_cases hltj : j < W.length
            · have hl2 : decide ((j : Int) < (W.length : Int)) = true := by simpa using hltj
              have hgj := List.getElem?_eq_getElem hltj
              have hj3 := tArcs_at hltj
              have mj := (hW _).1 (List.getElem_mem hltj)
              (repeat (first | (refine aw_seq ?_; intro K hK) | refine aw_block ?_ | refine aw_region ?_ | (refine lst_x rfl rfl ?_; intro K1 hK1; simp only [go_sem, hl2]; (first | refine hK1 _ ?_ | refine andk (hK1 _ ?_)); clear hK1 K1) | ((first | refine lst_nil ?_ | refine aw_skip ?_); refine hK _ ?_; clear hK K)))
              (refine aw_cnd ?_; intro X Y hX hY; simp only [go_sem])
              refine hX ?_
              clear hX hY X Y
              (repeat (first | (refine aw_seq ?_; intro K hK) | refine aw_block ?_ | refine aw_region ?_ | (refine lst_x rfl rfl ?_; intro K1 hK1; simp only [go_sem, tArcs_len, half2, hj3]; (first | refine hK1 _ ?_ | refine andk (hK1 _ ?_)); clear hK1 K1) | ((first | refine lst_nil ?_ | refine aw_skip ?_); refine hK _ ?_; clear hK K)))
              (refine lst_cons rfl ?_; intro K1 hK1; refine (stp_call0 (ids := []) (pcontains_fc o (o[k].1, W[j].2) hn hS) rfl rfl (by simp only [go_sem]) (by kernel_rfl) (by (simp only [List.append_nil, go_sem]) <;> rfl) ?_).stp)
              rintro _ _ ⟨rfl, rfl⟩
              (simp only [aInts, aSets, List.append_nil, List.nil_append, List.length_map, go_sem]; refine hK1 _ ?_; clear hK1 K1)
              by_cases q3 : (o[k].1, W[j].2) ∈ o
              · have q4 : decide ((o[k].1, W[j].2) ∈ o) = true := by simpa using q3
                (repeat (first | (refine aw_seq ?_; intro K hK) | refine aw_block ?_ | refine aw_region ?_ | (refine lst_x rfl rfl ?_; intro K1 hK1; simp only [go_sem, q4, Bool.not_true]; (first | refine hK1 _ ?_ | refine andk (hK1 _ ?_)); clear hK1 K1) | ((first | refine lst_nil ?_ | refine aw_skip ?_); refine hK _ ?_; clear hK K)))
                (refine aw_cnd ?_; intro X Y hX hY; simp only [go_sem])
                refine hY ?_
                clear hX hY X Y
                (repeat (first | (refine aw_seq ?_; intro K hK) | refine aw_block ?_ | refine aw_region ?_ | (refine lst_x rfl rfl ?_; intro K1 hK1; simp only [go_sem]; (first | refine hK1 _ ?_ | refine andk (hK1 _ ?_)); clear hK1 K1) | ((first | refine lst_nil ?_ | refine aw_skip ?_); refine hK _ ?_; clear hK K)))
                ((try refine lst_nil ?_); (try refine aw_skip ?_); try simp only [ThenA])
                refine hK _ (j + 1) ⟨by omega, fun i y hi hy => ?_⟩ (by omega) ?_
                · by_cases e : i = j
                  · subst e; rw [hgj] at hy; cases hy; exact q3
                  · exact hj2 i y (by omega) hy
                · refine Le.trans (le_pick [0] rfl rfl) ?_
                  (try simp only [List.set_nil, List.take_nil, List.take_zero, List.map_append, go_sem])
                  (refine le_tm ?_; simp only [LeTm, go_sem]; try simp)
              · have q4 : decide ((o[k].1, W[j].2) ∈ o) = false := by simpa using q3
                (repeat (first | (refine aw_seq ?_; intro K hK) | refine aw_block ?_ | refine aw_region ?_ | (refine lst_x rfl rfl ?_; intro K1 hK1; simp only [go_sem, q4, Bool.not_false]; (first | refine hK1 _ ?_ | refine andk (hK1 _ ?_)); clear hK1 K1) | ((first | refine lst_nil ?_ | refine aw_skip ?_); refine hK _ ?_; clear hK K)))
                (refine aw_cnd ?_; intro X Y hX hY; simp only [go_sem])
                refine hX ?_
                clear hX hY X Y
                (repeat (first | (refine aw_seq ?_; intro K hK) | refine aw_block ?_ | refine aw_region ?_ | (refine lst_x rfl rfl ?_; intro K1 hK1; simp only [go_sem]; (first | refine hK1 _ ?_ | refine andk (hK1 _ ?_)); clear hK1 K1) | ((first | refine lst_nil ?_ | refine aw_skip ?_); refine hK _ ?_; clear hK K)))
                ((try refine aw_ret ?_); (try simp only [ThenA, InBl]); refine ret_le (le_pick [] rfl rfl) ?_; (try simp only [List.set_nil, List.take_nil, List.take_zero, List.map_append, go_sem]); ((try refine aw_ret ?_); (try refine lst_nil ?_); (try simp only [ThenA, InBl]); refine ret_mk (by first | exact .inl rfl | exact .inr rfl) rfl ?_; simp only [rtn, resA, resL, resV, Tryz.results68, go_sem, true_and, and_true]))
                rw [ordB_tr mk mj.1 mj.2 q3]
            · have hl2 : decide ((j : Int) < (W.length : Int)) = false := by simpa using hltj
              (repeat (first | (refine aw_seq ?_; intro K hK) | refine aw_block ?_ | refine aw_region ?_ | (refine lst_x rfl rfl ?_; intro K1 hK1; simp only [go_sem, hl2]; (first | refine hK1 _ ?_ | refine andk (hK1 _ ?_)); clear hK1 K1) | ((first | refine lst_nil ?_ | refine aw_skip ?_); refine hK _ ?_; clear hK K)))
              (refine aw_cnd ?_; intro X Y hX hY; simp only [go_sem])
              refine hY ?_
              clear hX hY X Y
              (refine aw_exit ?_; simp only [ThenA, InBl, reduceIte, Nat.reduceEqDiff]; (first | refine hK _ ?_ | (clear hK K; refine hK _ ?_) | (clear hK K; clear hK K; refine hK _ ?_) | (clear hK K; clear hK K; clear hK K; refine hK _ ?_) | (clear hK K; clear hK K; clear hK K; clear hK K; refine hK _ ?_) | (clear hK K; clear hK K; clear hK K; clear hK K; clear hK K; refine hK _ ?_)); clear hK K)
              (repeat (first | (refine aw_seq ?_; intro K hK) | refine aw_block ?_ | refine aw_region ?_ | (refine lst_x rfl rfl ?_; intro K1 hK1; simp only [go_sem]; (first | refine hK1 _ ?_ | refine andk (hK1 _ ?_)); clear hK1 K1) | ((first | refine lst_nil ?_ | refine aw_skip ?_); refine hK _ ?_; clear hK K)))
              ((try refine lst_nil ?_); (try refine aw_skip ?_); try simp only [ThenA])
              refine hK _ (k + 1) ⟨by omega, fun i x hi hx y hy he => ?_⟩ (by omega) ?_
              · by_cases e : i = k
                · subst e; rw [hg] at hx; cases hx
                  obtain ⟨q, hq⟩ := List.mem_iff_getElem?.1 ((hW y).2 ⟨hy, he⟩)
                  exact hj2 q y (by have := (List.getElem?_eq_some_iff.1 hq).1; omega) hq
                · exact ht i x (by omega) hx y hy he
              · refine Le.trans (le_pick [] rfl rfl) ?_
                (try simp only [List.set_nil, List.take_nil, List.take_zero, List.map_append, go_sem])
                (refine le_tm ?_; simp only [LeTm, go_sem]; try simp)
        · have hl1 : decide ((k : Int) < (o.length : Int)) = false := by simpa using hlt
          (repeat (first | (refine aw_seq ?_; intro K hK) | refine aw_block ?_ | refine aw_region ?_ | (refine lst_x rfl rfl ?_; intro K1 hK1; simp only [go_sem, hl1]; (first | refine hK1 _ ?_ | refine andk (hK1 _ ?_)); clear hK1 K1) | ((first | refine lst_nil ?_ | refine aw_skip ?_); refine hK _ ?_; clear hK K)))
          (refine aw_cnd ?_; intro X Y hX hY; simp only [go_sem])
          refine hY ?_
          clear hX hY X Y
          (refine aw_exit ?_; simp only [ThenA, InBl, reduceIte, Nat.reduceEqDiff]; (first | refine hK _ ?_ | (clear hK K; refine hK _ ?_) | (clear hK K; clear hK K; refine hK _ ?_) | (clear hK K; clear hK K; clear hK K; refine hK _ ?_) | (clear hK K; clear hK K; clear hK K; clear hK K; refine hK _ ?_) | (clear hK K; clear hK K; clear hK K; clear hK K; clear hK K; refine hK _ ?_)); clear hK K)
          (repeat (first | (refine aw_seq ?_; intro K hK) | refine aw_block ?_ | refine aw_region ?_ | (refine lst_x rfl rfl ?_; intro K1 hK1; simp only [go_sem]; (first | refine hK1 _ ?_ | refine andk (hK1 _ ?_)); clear hK1 K1) | ((first | refine lst_nil ?_ | refine aw_skip ?_); refine hK _ ?_; clear hK K)))
          ((try refine aw_ret ?_); (try simp only [ThenA, InBl]); refine ret_le (le_pick [] rfl rfl) ?_; (try simp only [List.set_nil, List.take_nil, List.take_zero, List.map_append, go_sem]); ((try refine aw_ret ?_); (try refine lst_nil ?_); (try simp only [ThenA, InBl]); refine ret_mk (by first | exact .inl rfl | exact .inr rfl) rfl ?_; simp only [rtn, resA, resL, resV, Tryz.results68, go_sem, true_and, and_true]))
          have : ordB o = true := by
            rw [ordB, decide_eq_true_iff]
            refine ⟨hS, hC, fun x hx => ?_⟩
            obtain ⟨i, hi⟩ := List.mem_iff_getElem?.1 hx
            exact ht i x (by have := (List.getElem?_eq_some_iff.1 hi).1; omega) hi
          rw [this]
end Go.Proofs.YthlckclbjknldaaGreat
