/- Priority orders: the reference's above and ValidOrder. -/
import Derived.Test.YthlckclbjknldaaGreatG21
namespace Go.Proofs.YthlckclbjknldaaGreat
set_option linter.unusedVariables false
set_option linter.unusedSimpArgs false
open Go.RowKit
set_option maxRecDepth 100000
attribute [local go_sem] List.set_cons_zero List.set_cons_succ List.map_cons List.map_nil List.take_succ_cons List.take_zero List.drop_zero List.drop_succ_cons C.pl C.one List.all_cons List.all_nil Bool.and_true

theorem ordB_yes {o : List Ar} (h1 : ∀ i a b, o[i]? = some a → o[i + 1]? = some b → ltA a b = true) (h2 : ∀ (i : Nat) (a : Ar), o[i]? = some a → chanP a.1 ∧ chanP a.2 ∧ a.1 ≠ a.2)
    (h3 : ∀ (i : Nat) (x : Ar), o[i]? = some x → ∀ y ∈ o, y.1 = x.2 → (x.1, y.2) ∈ o) : ordB o = true := by
  rw [ordB, decide_eq_true_iff]
  refine ⟨sortA_get h1, fun a ha => ?_, fun x hx => ?_⟩
  · obtain ⟨i, hi⟩ := List.mem_iff_getElem?.1 ha; exact h2 i a hi
  · obtain ⟨i, hi⟩ := List.mem_iff_getElem?.1 hx; exact h3 i x hi
theorem rabv_fc (o : List Ar) (lo hi : Int) (hn : o.length ≤ 100000000) : FC Tryz.prog 120 [aArcs o, .i lo, .i hi] [] (fun r q => q = [] ∧ r = .b (decide ((lo, hi) ∈ o))) := by
  refine fc_intro Tryz.func120 rfl (by rw [Tryz.ntmps120]; simp) ?_
  rw [Tryz.ntmps120]
  simp only [enum, aArcs]
  (repeat (first | (refine aw_seq ?_; intro K hK) | refine aw_block ?_ | refine aw_region ?_ | (refine lst_x rfl rfl ?_; intro K1 hK1; simp only [go_sem]; (first | refine hK1 _ ?_ | refine andk (hK1 _ ?_)); clear hK1 K1) | ((first | refine lst_nil ?_ | refine aw_skip ?_); refine hK _ ?_; clear hK K)))
  refine aw_loop (fun k : Nat => { tm := [(0, .a (.c (.t 2 (tArcs o)))), (1, .i lo), (2, .i hi), (7, .i k)], hp := [], n := 30, pin := 0 }) (fun k => k ≤ o.length ∧ ∀ i, i < k → o[i]? ≠ some (lo, hi)) (fun k => o.length - k) 0 ?_ ?_ ?_
  · exact ⟨by omega, fun i hi => by omega⟩
  · (refine le_tm ?_; simp only [LeTm, go_sem]; try simp)
  · rintro k ⟨hk, hc⟩ K hK
    by_cases hlt : k < o.length
    · have hl1 : decide ((k : Int) < (o.length : Int)) = true := by simpa using hlt
      have hg := List.getElem?_eq_getElem hlt
      have ha0 := tArcs_c0 hlt
      have ha1 := tArcs_c1 hlt
      (repeat (first | (refine aw_seq ?_; intro K hK) | refine aw_block ?_ | refine aw_region ?_ | (refine lst_x rfl rfl ?_; intro K1 hK1; simp only [go_sem, hl1, tArcs_len, half2]; (first | refine hK1 _ ?_ | refine andk (hK1 _ ?_)); clear hK1 K1) | ((first | refine lst_nil ?_ | refine aw_skip ?_); refine hK _ ?_; clear hK K)))
      (refine aw_cnd ?_; intro X Y hX hY; simp only [go_sem])
      refine hX ?_
      clear hX hY X Y
      have nx : o[k] ≠ (lo, hi) → ∀ i, i < k + 1 → o[i]? ≠ some (lo, hi) := fun hne i hi => by
        by_cases e : i = k
        · subst e; rw [hg]; simpa using hne
        · exact hc i (by omega)
      by_cases c1 : o[k].1 = lo
      · have d1 : (o[k].1 == lo) = true := by simpa using c1
        by_cases c2 : o[k].2 = hi
        · have d2 : (o[k].2 == hi) = true := by simpa using c2
          (repeat (first | (refine aw_seq ?_; intro K hK) | refine aw_block ?_ | refine aw_region ?_ | (refine lst_x rfl rfl ?_; intro K1 hK1; simp only [go_sem, d1, d2, tArcs_len, half2, ha0, ha1]; (first | refine hK1 _ ?_ | refine andk (hK1 _ ?_)); clear hK1 K1) | ((first | refine lst_nil ?_ | refine aw_skip ?_); refine hK _ ?_; clear hK K)))
          (refine aw_cnd ?_; intro X Y hX hY; simp only [go_sem])
          refine hX ?_
          clear hX hY X Y
          (repeat (first | (refine aw_seq ?_; intro K hK) | refine aw_block ?_ | refine aw_region ?_ | (refine lst_x rfl rfl ?_; intro K1 hK1; simp only [go_sem]; (first | refine hK1 _ ?_ | refine andk (hK1 _ ?_)); clear hK1 K1) | ((first | refine lst_nil ?_ | refine aw_skip ?_); refine hK _ ?_; clear hK K)))
          ((try refine aw_ret ?_); (try simp only [ThenA, InBl]); refine ret_le (le_pick [] rfl rfl) ?_; (try simp only [List.set_nil, List.take_nil, List.take_zero, List.map_append, go_sem]); ((try refine aw_ret ?_); (try refine lst_nil ?_); (try simp only [ThenA, InBl]); refine ret_mk (by first | exact .inl rfl | exact .inr rfl) rfl ?_; simp only [rtn, resA, resL, resV, Tryz.results120, go_sem, true_and, and_true]))
          have : (lo, hi) ∈ o := List.mem_iff_getElem?.2 ⟨k, by rw [hg, ← c1, ← c2]⟩
          simp [this]
        · have d2 : (o[k].2 == hi) = false := by simpa using c2
          (repeat (first | (refine aw_seq ?_; intro K hK) | refine aw_block ?_ | refine aw_region ?_ | (refine lst_x rfl rfl ?_; intro K1 hK1; simp only [go_sem, d1, d2, tArcs_len, half2, ha0, ha1]; (first | refine hK1 _ ?_ | refine andk (hK1 _ ?_)); clear hK1 K1) | ((first | refine lst_nil ?_ | refine aw_skip ?_); refine hK _ ?_; clear hK K)))
          (refine aw_cnd ?_; intro X Y hX hY; simp only [go_sem])
          refine hY ?_
          clear hX hY X Y
          (repeat (first | (refine aw_seq ?_; intro K hK) | refine aw_block ?_ | refine aw_region ?_ | (refine lst_x rfl rfl ?_; intro K1 hK1; simp only [go_sem]; (first | refine hK1 _ ?_ | refine andk (hK1 _ ?_)); clear hK1 K1) | ((first | refine lst_nil ?_ | refine aw_skip ?_); refine hK _ ?_; clear hK K)))
          ((try refine lst_nil ?_); (try refine aw_skip ?_); try simp only [ThenA])
          refine hK _ (k + 1) ⟨by omega, nx fun e => c2 (by rw [e])⟩ (by omega) ?_
          (refine le_tm ?_; simp only [LeTm, go_sem]; try simp)
      · have d1 : (o[k].1 == lo) = false := by simpa using c1
        (repeat (first | (refine aw_seq ?_; intro K hK) | refine aw_block ?_ | refine aw_region ?_ | (refine lst_x rfl rfl ?_; intro K1 hK1; simp only [go_sem, d1, tArcs_len, half2, ha0, ha1]; (first | refine hK1 _ ?_ | refine andk (hK1 _ ?_)); clear hK1 K1) | ((first | refine lst_nil ?_ | refine aw_skip ?_); refine hK _ ?_; clear hK K)))
        (refine aw_cnd ?_; intro X Y hX hY; simp only [go_sem])
        refine hY ?_
        clear hX hY X Y
        (repeat (first | (refine aw_seq ?_; intro K hK) | refine aw_block ?_ | refine aw_region ?_ | (refine lst_x rfl rfl ?_; intro K1 hK1; simp only [go_sem]; (first | refine hK1 _ ?_ | refine andk (hK1 _ ?_)); clear hK1 K1) | ((first | refine lst_nil ?_ | refine aw_skip ?_); refine hK _ ?_; clear hK K)))
        ((try refine lst_nil ?_); (try refine aw_skip ?_); try simp only [ThenA])
        refine hK _ (k + 1) ⟨by omega, nx fun e => c1 (by rw [e])⟩ (by omega) ?_
        (refine le_tm ?_; simp only [LeTm, go_sem]; try simp)
    · have hl1 : decide ((k : Int) < (o.length : Int)) = false := by simpa using hlt
      (repeat (first | (refine aw_seq ?_; intro K hK) | refine aw_block ?_ | refine aw_region ?_ | (refine lst_x rfl rfl ?_; intro K1 hK1; simp only [go_sem, hl1, tArcs_len, half2]; (first | refine hK1 _ ?_ | refine andk (hK1 _ ?_)); clear hK1 K1) | ((first | refine lst_nil ?_ | refine aw_skip ?_); refine hK _ ?_; clear hK K)))
      (refine aw_cnd ?_; intro X Y hX hY; simp only [go_sem])
      refine hY ?_
      clear hX hY X Y
      (refine aw_exit ?_; simp only [ThenA, InBl, reduceIte, Nat.reduceEqDiff]; (first | refine hK _ ?_ | (clear hK K; refine hK _ ?_) | (clear hK K; clear hK K; refine hK _ ?_) | (clear hK K; clear hK K; clear hK K; refine hK _ ?_) | (clear hK K; clear hK K; clear hK K; clear hK K; refine hK _ ?_) | (clear hK K; clear hK K; clear hK K; clear hK K; clear hK K; refine hK _ ?_)); clear hK K)
      (repeat (first | (refine aw_seq ?_; intro K hK) | refine aw_block ?_ | refine aw_region ?_ | (refine lst_x rfl rfl ?_; intro K1 hK1; simp only [go_sem]; (first | refine hK1 _ ?_ | refine andk (hK1 _ ?_)); clear hK1 K1) | ((first | refine lst_nil ?_ | refine aw_skip ?_); refine hK _ ?_; clear hK K)))
      ((try refine aw_ret ?_); (try simp only [ThenA, InBl]); refine ret_le (le_pick [] rfl rfl) ?_; (try simp only [List.set_nil, List.take_nil, List.take_zero, List.map_append, go_sem]); ((try refine aw_ret ?_); (try refine lst_nil ?_); (try simp only [ThenA, InBl]); refine ret_mk (by first | exact .inl rfl | exact .inr rfl) rfl ?_; simp only [rtn, resA, resL, resV, Tryz.results120, go_sem, true_and, and_true]))
      have : (lo, hi) ∉ o := fun hm => by
        obtain ⟨i, hi⟩ := List.mem_iff_getElem?.1 hm
        exact hc i (by have := (List.getElem?_eq_some_iff.1 hi).1; omega) hi
      simp [this]

set_option maxHeartbeats 2000000 in
theorem rord_fc (o : List Ar) (hn : o.length ≤ 100000000) : FC Tryz.prog 71 [aArcs o] [] (fun r q => q = [] ∧ r = .b (ordB o)) := by
  refine fc_intro Tryz.func71 rfl (by rw [Tryz.ntmps71]; simp) ?_
  rw [Tryz.ntmps71]
  simp only [enum, aArcs]
  (repeat (first | (refine aw_seq ?_; intro K hK) | refine aw_block ?_ | refine aw_region ?_ | (refine lst_x rfl rfl ?_; intro K1 hK1; simp only [go_sem]; (first | refine hK1 _ ?_ | refine andk (hK1 _ ?_)); clear hK1 K1) | ((first | refine lst_nil ?_ | refine aw_skip ?_); refine hK _ ?_; clear hK K)))
  refine aw_loop (fun k : Nat => { tm := [(0, .a (.c (.t 2 (tArcs o)))), (3, .i k)], hp := [], n := 113, pin := 0 }) (fun k => k ≤ o.length ∧ (∀ i a, i < k → o[i]? = some a → chanP a.1 ∧ chanP a.2 ∧ a.1 ≠ a.2) ∧ (∀ i a b, i + 1 < k → o[i]? = some a → o[i + 1]? = some b → ltA a b = true) ∧ ∀ i x, i < k → o[i]? = some x → ∀ y ∈ o, y.1 = x.2 → (x.1, y.2) ∈ o) (fun k => o.length - k) 0 ?_ ?_ ?_
  · exact ⟨by omega, fun i _ hi => by omega, fun i _ _ hi => by omega, fun i _ hi => by omega⟩
  · (refine le_tm ?_; simp only [LeTm, go_sem]; try simp)
  · rintro k ⟨hk, hc, hs, ht⟩ K hK
    by_cases hlt : k < o.length
    · have hl1 : decide ((k : Int) < (o.length : Int)) = true := by simpa using hlt
      have hg := List.getElem?_eq_getElem hlt
      have hk2 := tArcs_at hlt
      (repeat (first | (refine aw_seq ?_; intro K hK) | refine aw_block ?_ | refine aw_region ?_ | (refine lst_x rfl rfl ?_; intro K1 hK1; simp only [go_sem, hl1, tArcs_len, half2]; (first | refine hK1 _ ?_ | refine andk (hK1 _ ?_)); clear hK1 K1) | ((first | refine lst_nil ?_ | refine aw_skip ?_); refine hK _ ?_; clear hK K)))
      (refine aw_cnd ?_; intro X Y hX hY; simp only [go_sem])
      refine hX ?_
      clear hX hY X Y
      have bad : ¬ (chanP o[k].1 ∧ chanP o[k].2 ∧ o[k].1 ≠ o[k].2) → ordB o = false := fun h => ordB_bad hg h
      by_cases c1 : o[k].1 < 2
      · have d1 : decide (o[k].1 < 2) = true := by simpa using c1
        (repeat (first | (refine aw_seq ?_; intro K hK) | refine aw_block ?_ | refine aw_region ?_ | (refine lst_x rfl rfl ?_; intro K1 hK1; simp only [go_sem, d1, hk2, tArcs_len, half2]; (first | refine hK1 _ ?_ | refine andk (hK1 _ ?_)); clear hK1 K1) | ((first | refine lst_nil ?_ | refine aw_skip ?_); refine hK _ ?_; clear hK K)))
        (refine aw_cnd ?_; intro X Y hX hY; simp only [go_sem])
        refine hX ?_
        clear hX hY X Y
        (repeat (first | (refine aw_seq ?_; intro K hK) | refine aw_block ?_ | refine aw_region ?_ | (refine lst_x rfl rfl ?_; intro K1 hK1; simp only [go_sem]; (first | refine hK1 _ ?_ | refine andk (hK1 _ ?_)); clear hK1 K1) | ((first | refine lst_nil ?_ | refine aw_skip ?_); refine hK _ ?_; clear hK K)))
        ((try refine aw_ret ?_); (try simp only [ThenA, InBl]); refine ret_le (le_pick [] rfl rfl) ?_; (try simp only [List.set_nil, List.take_nil, List.take_zero, List.map_append, go_sem]); ((try refine aw_ret ?_); (try refine lst_nil ?_); (try simp only [ThenA, InBl]); refine ret_mk (by first | exact .inl rfl | exact .inr rfl) rfl ?_; simp only [rtn, resA, resL, resV, Tryz.results71, go_sem, true_and, and_true]))
        rw [bad (fun h => by have := h.1.1; omega)]
      have d1 : decide (o[k].1 < 2) = false := by simpa using c1
      by_cases c2 : o[k].1 > 1025
      · have d2 : decide (o[k].1 > 1025) = true := by simpa using c2
        (repeat (first | (refine aw_seq ?_; intro K hK) | refine aw_block ?_ | refine aw_region ?_ | (refine lst_x rfl rfl ?_; intro K1 hK1; simp only [go_sem, d1, d2, hk2, tArcs_len, half2]; (first | refine hK1 _ ?_ | refine andk (hK1 _ ?_)); clear hK1 K1) | ((first | refine lst_nil ?_ | refine aw_skip ?_); refine hK _ ?_; clear hK K)))
        (refine aw_cnd ?_; intro X Y hX hY; simp only [go_sem])
        refine hX ?_
        clear hX hY X Y
        (repeat (first | (refine aw_seq ?_; intro K hK) | refine aw_block ?_ | refine aw_region ?_ | (refine lst_x rfl rfl ?_; intro K1 hK1; simp only [go_sem]; (first | refine hK1 _ ?_ | refine andk (hK1 _ ?_)); clear hK1 K1) | ((first | refine lst_nil ?_ | refine aw_skip ?_); refine hK _ ?_; clear hK K)))
        ((try refine aw_ret ?_); (try simp only [ThenA, InBl]); refine ret_le (le_pick [] rfl rfl) ?_; (try simp only [List.set_nil, List.take_nil, List.take_zero, List.map_append, go_sem]); ((try refine aw_ret ?_); (try refine lst_nil ?_); (try simp only [ThenA, InBl]); refine ret_mk (by first | exact .inl rfl | exact .inr rfl) rfl ?_; simp only [rtn, resA, resL, resV, Tryz.results71, go_sem, true_and, and_true]))
        rw [bad (fun h => by have := h.1.2; omega)]
      have d2 : decide (o[k].1 > 1025) = false := by simpa using c2
      by_cases c3 : o[k].2 < 2
      · have d3 : decide (o[k].2 < 2) = true := by simpa using c3
        (repeat (first | (refine aw_seq ?_; intro K hK) | refine aw_block ?_ | refine aw_region ?_ | (refine lst_x rfl rfl ?_; intro K1 hK1; simp only [go_sem, d1, d2, d3, hk2, tArcs_len, half2]; (first | refine hK1 _ ?_ | refine andk (hK1 _ ?_)); clear hK1 K1) | ((first | refine lst_nil ?_ | refine aw_skip ?_); refine hK _ ?_; clear hK K)))
        (refine aw_cnd ?_; intro X Y hX hY; simp only [go_sem])
        refine hX ?_
        clear hX hY X Y
        (repeat (first | (refine aw_seq ?_; intro K hK) | refine aw_block ?_ | refine aw_region ?_ | (refine lst_x rfl rfl ?_; intro K1 hK1; simp only [go_sem]; (first | refine hK1 _ ?_ | refine andk (hK1 _ ?_)); clear hK1 K1) | ((first | refine lst_nil ?_ | refine aw_skip ?_); refine hK _ ?_; clear hK K)))
        ((try refine aw_ret ?_); (try simp only [ThenA, InBl]); refine ret_le (le_pick [] rfl rfl) ?_; (try simp only [List.set_nil, List.take_nil, List.take_zero, List.map_append, go_sem]); ((try refine aw_ret ?_); (try refine lst_nil ?_); (try simp only [ThenA, InBl]); refine ret_mk (by first | exact .inl rfl | exact .inr rfl) rfl ?_; simp only [rtn, resA, resL, resV, Tryz.results71, go_sem, true_and, and_true]))
        rw [bad (fun h => by have := h.2.1.1; omega)]
      have d3 : decide (o[k].2 < 2) = false := by simpa using c3
      by_cases c4 : o[k].2 > 1025
      · have d4 : decide (o[k].2 > 1025) = true := by simpa using c4
        (repeat (first | (refine aw_seq ?_; intro K hK) | refine aw_block ?_ | refine aw_region ?_ | (refine lst_x rfl rfl ?_; intro K1 hK1; simp only [go_sem, d1, d2, d3, d4, hk2, tArcs_len, half2]; (first | refine hK1 _ ?_ | refine andk (hK1 _ ?_)); clear hK1 K1) | ((first | refine lst_nil ?_ | refine aw_skip ?_); refine hK _ ?_; clear hK K)))
        (refine aw_cnd ?_; intro X Y hX hY; simp only [go_sem])
        refine hX ?_
        clear hX hY X Y
        (repeat (first | (refine aw_seq ?_; intro K hK) | refine aw_block ?_ | refine aw_region ?_ | (refine lst_x rfl rfl ?_; intro K1 hK1; simp only [go_sem]; (first | refine hK1 _ ?_ | refine andk (hK1 _ ?_)); clear hK1 K1) | ((first | refine lst_nil ?_ | refine aw_skip ?_); refine hK _ ?_; clear hK K)))
        ((try refine aw_ret ?_); (try simp only [ThenA, InBl]); refine ret_le (le_pick [] rfl rfl) ?_; (try simp only [List.set_nil, List.take_nil, List.take_zero, List.map_append, go_sem]); ((try refine aw_ret ?_); (try refine lst_nil ?_); (try simp only [ThenA, InBl]); refine ret_mk (by first | exact .inl rfl | exact .inr rfl) rfl ?_; simp only [rtn, resA, resL, resV, Tryz.results71, go_sem, true_and, and_true]))
        rw [bad (fun h => by have := h.2.1.2; omega)]
      have d4 : decide (o[k].2 > 1025) = false := by simpa using c4
      by_cases c5 : o[k].1 = o[k].2
      · have d5 : (o[k].1 == o[k].2) = true := by simpa using c5
        (repeat (first | (refine aw_seq ?_; intro K hK) | refine aw_block ?_ | refine aw_region ?_ | (refine lst_x rfl rfl ?_; intro K1 hK1; simp only [go_sem, d1, d2, d3, d4, d5, hk2, tArcs_len, half2]; (first | refine hK1 _ ?_ | refine andk (hK1 _ ?_)); clear hK1 K1) | ((first | refine lst_nil ?_ | refine aw_skip ?_); refine hK _ ?_; clear hK K)))
        (refine aw_cnd ?_; intro X Y hX hY; simp only [go_sem])
        refine hX ?_
        clear hX hY X Y
        (repeat (first | (refine aw_seq ?_; intro K hK) | refine aw_block ?_ | refine aw_region ?_ | (refine lst_x rfl rfl ?_; intro K1 hK1; simp only [go_sem]; (first | refine hK1 _ ?_ | refine andk (hK1 _ ?_)); clear hK1 K1) | ((first | refine lst_nil ?_ | refine aw_skip ?_); refine hK _ ?_; clear hK K)))
        ((try refine aw_ret ?_); (try simp only [ThenA, InBl]); refine ret_le (le_pick [] rfl rfl) ?_; (try simp only [List.set_nil, List.take_nil, List.take_zero, List.map_append, go_sem]); ((try refine aw_ret ?_); (try refine lst_nil ?_); (try simp only [ThenA, InBl]); refine ret_mk (by first | exact .inl rfl | exact .inr rfl) rfl ?_; simp only [rtn, resA, resL, resV, Tryz.results71, go_sem, true_and, and_true]))
        rw [bad (fun h => h.2.2 c5)]
      have d5 : (o[k].1 == o[k].2) = false := by simpa using c5
      have hck : chanP o[k].1 ∧ chanP o[k].2 ∧ o[k].1 ≠ o[k].2 := ⟨⟨by omega, by omega⟩, ⟨by omega, by omega⟩, c5⟩
      (repeat (first | (refine aw_seq ?_; intro K hK) | refine aw_block ?_ | refine aw_region ?_ | (refine lst_x rfl rfl ?_; intro K1 hK1; simp only [go_sem, d1, d2, d3, d4, d5, hk2, tArcs_len, half2]; (first | refine hK1 _ ?_ | refine andk (hK1 _ ?_)); clear hK1 K1) | ((first | refine lst_nil ?_ | refine aw_skip ?_); refine hK _ ?_; clear hK K)))
      (refine aw_cnd ?_; intro X Y hX hY; simp only [go_sem])
      refine hY ?_
      clear hX hY X Y
      clear bad d1 d2 d3 d4 d5 c1 c2 c3 c4 c5
      (repeat (first | (refine aw_seq ?_; intro K hK) | refine aw_block ?_ | refine aw_region ?_ | (refine lst_x rfl rfl ?_; intro K1 hK1; simp only [go_sem]; (first | refine hK1 _ ?_ | refine andk (hK1 _ ?_)); clear hK1 K1) | ((first | refine lst_nil ?_ | refine aw_skip ?_); refine hK _ ?_; clear hK K)))
      (refine aw_regionU 35 [(0, 0), (1, 0), (2, 0), (3, 0), (4, 0), (5, 0), (6, 0), (7, 0), (8, 1), (9, 0), (10, 1), (11, 0), (12, 0), (13, 0), (14, 0), (15, 0), (16, 0), (17, 0), (18, 1), (19, 0), (20, 1), (21, 0), (22, 0), (23, 0), (24, 0), (25, 0), (26, 0), (27, 0), (28, 1), (29, 0), (30, 1), (31, 0), (32, 0), (33, 0), (34, 0), (35, 2)] (by kernel_rfl) (by kernel_rfl) (by intro c st h; simp [ThenA, InBl, Ret] at h) ?_)
      by_cases h0 : k = 0
      · have e0 : decide ((k : Int) > 0) = false := by simp; omega
        have hprev : ∀ i a b, i + 1 < k + 1 → o[i]? = some a → o[i + 1]? = some b → ltA a b = true := fun i _ _ hi => by omega
        (repeat (first | ((first | refine u_0x rfl rfl rfl ?_ | refine u_1x rfl rfl rfl ?_); intro K1 hK1; simp only [go_sem, e0]; (first | refine hK1 _ ?_ | refine andk (hK1 _ ?_)); clear hK1 K1) | (refine u_2x rfl rfl rfl rfl ?_; intro K1 hK1; simp only [go_sem, e0]; (first | refine hK1 _ ?_ | refine andk (hK1 _ ?_)); clear hK1 K1) | (refine u_nil ?_; refine hK _ ?_; clear hK K)))
        (refine aw_cnd ?_; intro X Y hX hY; simp only [go_sem])
        refine hY ?_
        clear hX hY X Y
        (repeat (first | (refine aw_seq ?_; intro K hK) | refine aw_block ?_ | refine aw_region ?_ | (refine lst_x rfl rfl ?_; intro K1 hK1; simp only [go_sem]; (first | refine hK1 _ ?_ | refine andk (hK1 _ ?_)); clear hK1 K1) | ((first | refine lst_nil ?_ | refine aw_skip ?_); refine hK _ ?_; clear hK K)))
        refine aw_loop (fun j : Nat => { tm := [(0, .a (.c (.t 2 (tArcs o)))), (3, .i k), (4, .a (.c (.p 0 0))), (5, .i j)], hp := [.r ⟨67, 2, false, [.v (.int .i64 o[k].1), .v (.int .i64 o[k].2)]⟩], n := 113, pin := 0 }) (fun j => j ≤ o.length ∧ ∀ i y, i < j → o[i]? = some y → y.1 = o[k].2 → (o[k].1, y.2) ∈ o) (fun j => o.length - j) 0 ?_ ?_ ?_
        · exact ⟨by omega, fun i _ hi => by omega⟩
        · (refine le_tm ?_; simp only [LeTm, go_sem]; try simp)
        · rintro j ⟨hj, hj2⟩ K hK
          by_cases hltj : j < o.length
          · have hl2 : decide ((j : Int) < (o.length : Int)) = true := by simpa using hltj
            have hgj := List.getElem?_eq_getElem hltj
            have hj0 := tArcs_c0 hltj
            have hj1 := tArcs_c1 hltj
            have mk := List.getElem_mem hlt
            have mj := List.getElem_mem hltj
            have nx : (o[j].1 = o[k].2 → (o[k].1, o[j].2) ∈ o) → ∀ i y, i < j + 1 → o[i]? = some y → y.1 = o[k].2 → (o[k].1, y.2) ∈ o := fun hq i y hi hy => by
              by_cases e : i = j
              · subst e; rw [hgj] at hy; cases hy; exact hq
              · exact hj2 i y (by omega) hy
            (repeat (first | (refine aw_seq ?_; intro K hK) | refine aw_block ?_ | refine aw_region ?_ | (refine lst_x rfl rfl ?_; intro K1 hK1; simp only [go_sem, hl2, tArcs_len, half2]; (first | refine hK1 _ ?_ | refine andk (hK1 _ ?_)); clear hK1 K1) | ((first | refine lst_nil ?_ | refine aw_skip ?_); refine hK _ ?_; clear hK K)))
            (refine aw_cnd ?_; intro X Y hX hY; simp only [go_sem])
            refine hX ?_
            clear hX hY X Y
            (repeat (first | (refine aw_seq ?_; intro K hK) | refine aw_block ?_ | refine aw_region ?_ | (refine lst_x rfl rfl ?_; intro K1 hK1; simp only [go_sem]; (first | refine hK1 _ ?_ | refine andk (hK1 _ ?_)); clear hK1 K1) | ((first | refine lst_nil ?_ | refine aw_skip ?_); refine hK _ ?_; clear hK K)))
            (refine aw_regionU 26 [(0, 0), (1, 0), (2, 0), (3, 0), (4, 1), (5, 0), (6, 1), (7, 0), (8, 0), (9, 0), (10, 0), (11, 0), (12, 0), (13, 1), (14, 0), (15, 1), (16, 0), (17, 0), (18, 0), (19, 0), (20, 1), (21, 0), (22, 0), (23, 0), (24, 0), (25, 1), (26, 2), (27, 0), (28, 0), (29, 0)] (by kernel_rfl) (by kernel_rfl) (by intro c st h; simp [ThenA, InBl, Ret] at h) ?_)
            cases q1 : (o[j].1 == o[k].2) with
            | false =>
              (repeat (first | ((first | refine u_0x rfl rfl rfl ?_ | refine u_1x rfl rfl rfl ?_); intro K1 hK1; simp only [go_sem, q1, hj0, hj1, tArcs_len, half2]; (first | refine hK1 _ ?_ | refine andk (hK1 _ ?_)); clear hK1 K1) | (refine u_2x rfl rfl rfl rfl ?_; intro K1 hK1; simp only [go_sem, q1, hj0, hj1, tArcs_len, half2]; (first | refine hK1 _ ?_ | refine andk (hK1 _ ?_)); clear hK1 K1) | (refine u_2f rfl rfl rfl rfl ?_; intro K1 hK1; simp only [go_sem, q1, hj0, hj1, tArcs_len, half2]; (first | refine hK1 _ ?_ | refine andk (hK1 _ ?_)); clear hK1 K1) | (refine u_nil ?_; refine hK _ ?_; clear hK K)))
              (refine aw_cnd ?_; intro X Y hX hY; simp only [go_sem])
              refine hY ?_
              clear hX hY X Y
              (repeat (first | (refine aw_seq ?_; intro K hK) | refine aw_block ?_ | refine aw_region ?_ | (refine lst_x rfl rfl ?_; intro K1 hK1; simp only [go_sem]; (first | refine hK1 _ ?_ | refine andk (hK1 _ ?_)); clear hK1 K1) | ((first | refine lst_nil ?_ | refine aw_skip ?_); refine hK _ ?_; clear hK K)))
              ((try refine lst_nil ?_); (try refine aw_skip ?_); try simp only [ThenA])
              refine hK _ (j + 1) ⟨by omega, nx fun e => by simp [e] at q1⟩ (by omega) ?_
              (refine le_tm ?_; simp only [LeTm, go_sem]; try simp)
            | true =>
              have q1' : o[j].1 = o[k].2 := by simpa using q1
              cases q2 : (o[j].2 == o[k].1) with
              | true =>
                have q2' : o[j].2 = o[k].1 := by simpa using q2
                (repeat (first | ((first | refine u_0x rfl rfl rfl ?_ | refine u_1x rfl rfl rfl ?_); intro K1 hK1; simp only [go_sem, q1, q2, hj0, hj1, tArcs_len, half2]; (first | refine hK1 _ ?_ | refine andk (hK1 _ ?_)); clear hK1 K1) | (refine u_2x rfl rfl rfl rfl ?_; intro K1 hK1; simp only [go_sem, q1, q2, hj0, hj1, tArcs_len, half2]; (first | refine hK1 _ ?_ | refine andk (hK1 _ ?_)); clear hK1 K1) | (refine u_2f rfl rfl rfl rfl ?_; intro K1 hK1; simp only [go_sem, q1, q2, hj0, hj1, tArcs_len, half2]; (first | refine hK1 _ ?_ | refine andk (hK1 _ ?_)); clear hK1 K1) | (refine u_nil ?_; refine hK _ ?_; clear hK K)))
                (refine aw_cnd ?_; intro X Y hX hY; simp only [go_sem])
                refine hX ?_
                clear hX hY X Y
                (repeat (first | (refine aw_seq ?_; intro K hK) | refine aw_block ?_ | refine aw_region ?_ | (refine lst_x rfl rfl ?_; intro K1 hK1; simp only [go_sem]; (first | refine hK1 _ ?_ | refine andk (hK1 _ ?_)); clear hK1 K1) | ((first | refine lst_nil ?_ | refine aw_skip ?_); refine hK _ ?_; clear hK K)))
                ((try refine aw_ret ?_); (try simp only [ThenA, InBl]); refine ret_le (le_pick [] rfl rfl) ?_; (try simp only [List.set_nil, List.take_nil, List.take_zero, List.map_append, go_sem]); ((try refine aw_ret ?_); (try refine lst_nil ?_); (try simp only [ThenA, InBl]); refine ret_mk (by first | exact .inl rfl | exact .inr rfl) rfl ?_; simp only [rtn, resA, resL, resV, Tryz.results71, go_sem, true_and, and_true]))
                rw [ordB_cy mk mj q1' q2']
              | false =>
                (repeat (first | ((first | refine u_0x rfl rfl rfl ?_ | refine u_1x rfl rfl rfl ?_); intro K1 hK1; simp only [go_sem, q1, q2, hj0, hj1, tArcs_len, half2]; (first | refine hK1 _ ?_ | refine andk (hK1 _ ?_)); clear hK1 K1) | (refine u_2x rfl rfl rfl rfl ?_; intro K1 hK1; simp only [go_sem, q1, q2, hj0, hj1, tArcs_len, half2]; (first | refine hK1 _ ?_ | refine andk (hK1 _ ?_)); clear hK1 K1) | (refine u_2f rfl rfl rfl rfl ?_; intro K1 hK1; simp only [go_sem, q1, q2, hj0, hj1, tArcs_len, half2]; (first | refine hK1 _ ?_ | refine andk (hK1 _ ?_)); clear hK1 K1) | (refine u_nil ?_; refine hK _ ?_; clear hK K)))
                (refine u_wG rfl rfl rfl (by simp only [go_sem] <;> rfl) rfl ?_; intro K1 hK1; refine (stp_call0 (ids := []) (rabv_fc o o[k].1 o[j].2 hn) rfl rfl (by simp only [go_sem]) (by kernel_rfl) (by (simp only [List.append_nil, go_sem]) <;> rfl) ?_).stp)
                rintro _ _ ⟨rfl, rfl⟩
                (simp only [aInts, aSets, List.append_nil, List.nil_append, List.length_map, go_sem]; refine hK1 _ ?_; clear hK1 K1)
                by_cases q3 : (o[k].1, o[j].2) ∈ o
                · have q4 : decide ((o[k].1, o[j].2) ∈ o) = true := by simpa using q3
                  (repeat (first | ((first | refine u_0x rfl rfl rfl ?_ | refine u_1x rfl rfl rfl ?_); intro K1 hK1; simp only [go_sem, q4, Bool.not_true]; (first | refine hK1 _ ?_ | refine andk (hK1 _ ?_)); clear hK1 K1) | (refine u_2x rfl rfl rfl rfl ?_; intro K1 hK1; simp only [go_sem, q4, Bool.not_true]; (first | refine hK1 _ ?_ | refine andk (hK1 _ ?_)); clear hK1 K1) | (refine u_2f rfl rfl rfl rfl ?_; intro K1 hK1; simp only [go_sem, q4, Bool.not_true]; (first | refine hK1 _ ?_ | refine andk (hK1 _ ?_)); clear hK1 K1) | (refine u_nil ?_; refine hK _ ?_; clear hK K)))
                  (refine aw_cnd ?_; intro X Y hX hY; simp only [go_sem])
                  refine hY ?_
                  clear hX hY X Y
                  (repeat (first | (refine aw_seq ?_; intro K hK) | refine aw_block ?_ | refine aw_region ?_ | (refine lst_x rfl rfl ?_; intro K1 hK1; simp only [go_sem]; (first | refine hK1 _ ?_ | refine andk (hK1 _ ?_)); clear hK1 K1) | ((first | refine lst_nil ?_ | refine aw_skip ?_); refine hK _ ?_; clear hK K)))
                  ((try refine lst_nil ?_); (try refine aw_skip ?_); try simp only [ThenA])
                  refine hK _ (j + 1) ⟨by omega, nx fun _ => q3⟩ (by omega) ?_
                  (refine le_tm ?_; simp only [LeTm, go_sem]; try simp)
                · have q4 : decide ((o[k].1, o[j].2) ∈ o) = false := by simpa using q3
                  (repeat (first | ((first | refine u_0x rfl rfl rfl ?_ | refine u_1x rfl rfl rfl ?_); intro K1 hK1; simp only [go_sem, q4, Bool.not_false]; (first | refine hK1 _ ?_ | refine andk (hK1 _ ?_)); clear hK1 K1) | (refine u_2x rfl rfl rfl rfl ?_; intro K1 hK1; simp only [go_sem, q4, Bool.not_false]; (first | refine hK1 _ ?_ | refine andk (hK1 _ ?_)); clear hK1 K1) | (refine u_2f rfl rfl rfl rfl ?_; intro K1 hK1; simp only [go_sem, q4, Bool.not_false]; (first | refine hK1 _ ?_ | refine andk (hK1 _ ?_)); clear hK1 K1) | (refine u_nil ?_; refine hK _ ?_; clear hK K)))
                  (refine aw_cnd ?_; intro X Y hX hY; simp only [go_sem])
                  refine hX ?_
                  clear hX hY X Y
                  (repeat (first | (refine aw_seq ?_; intro K hK) | refine aw_block ?_ | refine aw_region ?_ | (refine lst_x rfl rfl ?_; intro K1 hK1; simp only [go_sem]; (first | refine hK1 _ ?_ | refine andk (hK1 _ ?_)); clear hK1 K1) | ((first | refine lst_nil ?_ | refine aw_skip ?_); refine hK _ ?_; clear hK K)))
                  ((try refine aw_ret ?_); (try simp only [ThenA, InBl]); refine ret_le (le_pick [] rfl rfl) ?_; (try simp only [List.set_nil, List.take_nil, List.take_zero, List.map_append, go_sem]); ((try refine aw_ret ?_); (try refine lst_nil ?_); (try simp only [ThenA, InBl]); refine ret_mk (by first | exact .inl rfl | exact .inr rfl) rfl ?_; simp only [rtn, resA, resL, resV, Tryz.results71, go_sem, true_and, and_true]))
                  rw [ordB_tr mk mj q1' q3]
          · have hl2 : decide ((j : Int) < (o.length : Int)) = false := by simpa using hltj
            (repeat (first | (refine aw_seq ?_; intro K hK) | refine aw_block ?_ | refine aw_region ?_ | (refine lst_x rfl rfl ?_; intro K1 hK1; simp only [go_sem, hl2, tArcs_len, half2]; (first | refine hK1 _ ?_ | refine andk (hK1 _ ?_)); clear hK1 K1) | ((first | refine lst_nil ?_ | refine aw_skip ?_); refine hK _ ?_; clear hK K)))
            (refine aw_cnd ?_; intro X Y hX hY; simp only [go_sem])
            refine hY ?_
            clear hX hY X Y
            (refine aw_exit ?_; simp only [ThenA, InBl, reduceIte, Nat.reduceEqDiff]; (first | refine hK _ ?_ | (clear hK K; refine hK _ ?_) | (clear hK K; clear hK K; refine hK _ ?_) | (clear hK K; clear hK K; clear hK K; refine hK _ ?_) | (clear hK K; clear hK K; clear hK K; clear hK K; refine hK _ ?_) | (clear hK K; clear hK K; clear hK K; clear hK K; clear hK K; refine hK _ ?_)); clear hK K)
            (repeat (first | (refine aw_seq ?_; intro K hK) | refine aw_block ?_ | refine aw_region ?_ | (refine lst_x rfl rfl ?_; intro K1 hK1; simp only [go_sem]; (first | refine hK1 _ ?_ | refine andk (hK1 _ ?_)); clear hK1 K1) | ((first | refine lst_nil ?_ | refine aw_skip ?_); refine hK _ ?_; clear hK K)))
            ((try refine lst_nil ?_); (try refine aw_skip ?_); try simp only [ThenA])
            refine hK _ (k + 1) ⟨by omega, fun i a hi ha => ?_, hprev, fun i x hi hx y hy he => ?_⟩ (by omega) ?_
            · by_cases e : i = k
              · subst e; rw [hg] at ha; cases ha; exact hck
              · exact hc i a (by omega) ha
            · by_cases e : i = k
              · subst e; rw [hg] at hx; cases hx
                obtain ⟨q, hq⟩ := List.mem_iff_getElem?.1 hy
                exact hj2 q y (by have := (List.getElem?_eq_some_iff.1 hq).1; omega) hq he
              · exact ht i x (by omega) hx y hy he
            · refine Le.trans (le_pick [] rfl rfl) ?_
              (try simp only [List.set_nil, List.take_nil, List.take_zero, List.map_append, go_sem])
              (refine le_tm ?_; simp only [LeTm, go_sem]; try simp)
      · have e0 : decide ((k : Int) > 0) = true := by simp; omega
        have e3 : ((k : Int) - 1) = ((k - 1 : Nat) : Int) := by omega
        have hlt1 : k - 1 < o.length := by omega
        have hg1 := List.getElem?_eq_getElem hlt1
        have hp0 := tArcs_c0 hlt1
        have hp1 := tArcs_c1 hlt1
        have ltd : ltA o[k - 1] o[k] = (decide (o[k - 1].1 < o[k].1) || (o[k - 1].1 == o[k].1 && decide (o[k - 1].2 < o[k].2))) := rfl
        have prv : ltA o[k - 1] o[k] = true → ∀ i a b, i + 1 < k + 1 → o[i]? = some a → o[i + 1]? = some b → ltA a b = true := fun hl i a b hi ha hb => by
          by_cases e2 : i + 1 = k
          · have e4 : i = k - 1 := by omega
            subst e4
            rw [hg1] at ha; rw [e2, hg] at hb
            cases ha; cases hb; exact hl
          · exact hs i a b (by omega) ha hb
        have uns : ltA o[k - 1] o[k] = false → ordB o = false := fun h => ordB_uns hg1 (by rw [Nat.sub_add_cancel (by omega)]; exact hg) h
        cases q1 : decide (o[k - 1].1 < o[k].1) with
        | true =>
          have hprev := prv (by rw [ltd, q1]; rfl)
          (repeat (first | ((first | refine u_0x rfl rfl rfl ?_ | refine u_1x rfl rfl rfl ?_); intro K1 hK1; simp only [go_sem, e0, e3, q1, hp0, hp1, tArcs_len, half2, Bool.not_true]; (first | refine hK1 _ ?_ | refine andk (hK1 _ ?_)); clear hK1 K1) | (refine u_2x rfl rfl rfl rfl ?_; intro K1 hK1; simp only [go_sem, e0, e3, q1, hp0, hp1, tArcs_len, half2, Bool.not_true]; (first | refine hK1 _ ?_ | refine andk (hK1 _ ?_)); clear hK1 K1) | (refine u_2f rfl rfl rfl rfl ?_; intro K1 hK1; simp only [go_sem, e0, e3, q1, hp0, hp1, tArcs_len, half2, Bool.not_true]; (first | refine hK1 _ ?_ | refine andk (hK1 _ ?_)); clear hK1 K1) | (refine u_nil ?_; refine hK _ ?_; clear hK K)))
          (refine aw_cnd ?_; intro X Y hX hY; simp only [go_sem])
          refine hY ?_
          clear hX hY X Y
          (repeat (first | (refine aw_seq ?_; intro K hK) | refine aw_block ?_ | refine aw_region ?_ | (refine lst_x rfl rfl ?_; intro K1 hK1; simp only [go_sem]; (first | refine hK1 _ ?_ | refine andk (hK1 _ ?_)); clear hK1 K1) | ((first | refine lst_nil ?_ | refine aw_skip ?_); refine hK _ ?_; clear hK K)))
          refine aw_loop (fun j : Nat => { tm := [(0, .a (.c (.t 2 (tArcs o)))), (3, .i k), (4, .a (.c (.p 0 0))), (5, .i j)], hp := [.r ⟨67, 2, false, [.v (.int .i64 o[k].1), .v (.int .i64 o[k].2)]⟩], n := 113, pin := 0 }) (fun j => j ≤ o.length ∧ ∀ i y, i < j → o[i]? = some y → y.1 = o[k].2 → (o[k].1, y.2) ∈ o) (fun j => o.length - j) 0 ?_ ?_ ?_
          · exact ⟨by omega, fun i _ hi => by omega⟩
          · (refine le_tm ?_; simp only [LeTm, go_sem]; try simp)
          · rintro j ⟨hj, hj2⟩ K hK
            by_cases hltj : j < o.length
            · have hl2 : decide ((j : Int) < (o.length : Int)) = true := by simpa using hltj
              have hgj := List.getElem?_eq_getElem hltj
              have hj0 := tArcs_c0 hltj
              have hj1 := tArcs_c1 hltj
              have mk := List.getElem_mem hlt
              have mj := List.getElem_mem hltj
              have nx : (o[j].1 = o[k].2 → (o[k].1, o[j].2) ∈ o) → ∀ i y, i < j + 1 → o[i]? = some y → y.1 = o[k].2 → (o[k].1, y.2) ∈ o := fun hq i y hi hy => by
                by_cases e : i = j
                · subst e; rw [hgj] at hy; cases hy; exact hq
                · exact hj2 i y (by omega) hy
              (repeat (first | (refine aw_seq ?_; intro K hK) | refine aw_block ?_ | refine aw_region ?_ | (refine lst_x rfl rfl ?_; intro K1 hK1; simp only [go_sem, hl2, tArcs_len, half2]; (first | refine hK1 _ ?_ | refine andk (hK1 _ ?_)); clear hK1 K1) | ((first | refine lst_nil ?_ | refine aw_skip ?_); refine hK _ ?_; clear hK K)))
              (refine aw_cnd ?_; intro X Y hX hY; simp only [go_sem])
              refine hX ?_
              clear hX hY X Y
              (repeat (first | (refine aw_seq ?_; intro K hK) | refine aw_block ?_ | refine aw_region ?_ | (refine lst_x rfl rfl ?_; intro K1 hK1; simp only [go_sem]; (first | refine hK1 _ ?_ | refine andk (hK1 _ ?_)); clear hK1 K1) | ((first | refine lst_nil ?_ | refine aw_skip ?_); refine hK _ ?_; clear hK K)))
              (refine aw_regionU 26 [(0, 0), (1, 0), (2, 0), (3, 0), (4, 1), (5, 0), (6, 1), (7, 0), (8, 0), (9, 0), (10, 0), (11, 0), (12, 0), (13, 1), (14, 0), (15, 1), (16, 0), (17, 0), (18, 0), (19, 0), (20, 1), (21, 0), (22, 0), (23, 0), (24, 0), (25, 1), (26, 2), (27, 0), (28, 0), (29, 0)] (by kernel_rfl) (by kernel_rfl) (by intro c st h; simp [ThenA, InBl, Ret] at h) ?_)
              cases q1 : (o[j].1 == o[k].2) with
              | false =>
                (repeat (first | ((first | refine u_0x rfl rfl rfl ?_ | refine u_1x rfl rfl rfl ?_); intro K1 hK1; simp only [go_sem, q1, hj0, hj1, tArcs_len, half2]; (first | refine hK1 _ ?_ | refine andk (hK1 _ ?_)); clear hK1 K1) | (refine u_2x rfl rfl rfl rfl ?_; intro K1 hK1; simp only [go_sem, q1, hj0, hj1, tArcs_len, half2]; (first | refine hK1 _ ?_ | refine andk (hK1 _ ?_)); clear hK1 K1) | (refine u_2f rfl rfl rfl rfl ?_; intro K1 hK1; simp only [go_sem, q1, hj0, hj1, tArcs_len, half2]; (first | refine hK1 _ ?_ | refine andk (hK1 _ ?_)); clear hK1 K1) | (refine u_nil ?_; refine hK _ ?_; clear hK K)))
                (refine aw_cnd ?_; intro X Y hX hY; simp only [go_sem])
                refine hY ?_
                clear hX hY X Y
                (repeat (first | (refine aw_seq ?_; intro K hK) | refine aw_block ?_ | refine aw_region ?_ | (refine lst_x rfl rfl ?_; intro K1 hK1; simp only [go_sem]; (first | refine hK1 _ ?_ | refine andk (hK1 _ ?_)); clear hK1 K1) | ((first | refine lst_nil ?_ | refine aw_skip ?_); refine hK _ ?_; clear hK K)))
                ((try refine lst_nil ?_); (try refine aw_skip ?_); try simp only [ThenA])
                refine hK _ (j + 1) ⟨by omega, nx fun e => by simp [e] at q1⟩ (by omega) ?_
                (refine le_tm ?_; simp only [LeTm, go_sem]; try simp)
              | true =>
                have q1' : o[j].1 = o[k].2 := by simpa using q1
                cases q2 : (o[j].2 == o[k].1) with
                | true =>
                  have q2' : o[j].2 = o[k].1 := by simpa using q2
                  (repeat (first | ((first | refine u_0x rfl rfl rfl ?_ | refine u_1x rfl rfl rfl ?_); intro K1 hK1; simp only [go_sem, q1, q2, hj0, hj1, tArcs_len, half2]; (first | refine hK1 _ ?_ | refine andk (hK1 _ ?_)); clear hK1 K1) | (refine u_2x rfl rfl rfl rfl ?_; intro K1 hK1; simp only [go_sem, q1, q2, hj0, hj1, tArcs_len, half2]; (first | refine hK1 _ ?_ | refine andk (hK1 _ ?_)); clear hK1 K1) | (refine u_2f rfl rfl rfl rfl ?_; intro K1 hK1; simp only [go_sem, q1, q2, hj0, hj1, tArcs_len, half2]; (first | refine hK1 _ ?_ | refine andk (hK1 _ ?_)); clear hK1 K1) | (refine u_nil ?_; refine hK _ ?_; clear hK K)))
                  (refine aw_cnd ?_; intro X Y hX hY; simp only [go_sem])
                  refine hX ?_
                  clear hX hY X Y
                  (repeat (first | (refine aw_seq ?_; intro K hK) | refine aw_block ?_ | refine aw_region ?_ | (refine lst_x rfl rfl ?_; intro K1 hK1; simp only [go_sem]; (first | refine hK1 _ ?_ | refine andk (hK1 _ ?_)); clear hK1 K1) | ((first | refine lst_nil ?_ | refine aw_skip ?_); refine hK _ ?_; clear hK K)))
                  ((try refine aw_ret ?_); (try simp only [ThenA, InBl]); refine ret_le (le_pick [] rfl rfl) ?_; (try simp only [List.set_nil, List.take_nil, List.take_zero, List.map_append, go_sem]); ((try refine aw_ret ?_); (try refine lst_nil ?_); (try simp only [ThenA, InBl]); refine ret_mk (by first | exact .inl rfl | exact .inr rfl) rfl ?_; simp only [rtn, resA, resL, resV, Tryz.results71, go_sem, true_and, and_true]))
                  rw [ordB_cy mk mj q1' q2']
                | false =>
                  (repeat (first | ((first | refine u_0x rfl rfl rfl ?_ | refine u_1x rfl rfl rfl ?_); intro K1 hK1; simp only [go_sem, q1, q2, hj0, hj1, tArcs_len, half2]; (first | refine hK1 _ ?_ | refine andk (hK1 _ ?_)); clear hK1 K1) | (refine u_2x rfl rfl rfl rfl ?_; intro K1 hK1; simp only [go_sem, q1, q2, hj0, hj1, tArcs_len, half2]; (first | refine hK1 _ ?_ | refine andk (hK1 _ ?_)); clear hK1 K1) | (refine u_2f rfl rfl rfl rfl ?_; intro K1 hK1; simp only [go_sem, q1, q2, hj0, hj1, tArcs_len, half2]; (first | refine hK1 _ ?_ | refine andk (hK1 _ ?_)); clear hK1 K1) | (refine u_nil ?_; refine hK _ ?_; clear hK K)))
                  (refine u_wG rfl rfl rfl (by simp only [go_sem] <;> rfl) rfl ?_; intro K1 hK1; refine (stp_call0 (ids := []) (rabv_fc o o[k].1 o[j].2 hn) rfl rfl (by simp only [go_sem]) (by kernel_rfl) (by (simp only [List.append_nil, go_sem]) <;> rfl) ?_).stp)
                  rintro _ _ ⟨rfl, rfl⟩
                  (simp only [aInts, aSets, List.append_nil, List.nil_append, List.length_map, go_sem]; refine hK1 _ ?_; clear hK1 K1)
                  by_cases q3 : (o[k].1, o[j].2) ∈ o
                  · have q4 : decide ((o[k].1, o[j].2) ∈ o) = true := by simpa using q3
                    (repeat (first | ((first | refine u_0x rfl rfl rfl ?_ | refine u_1x rfl rfl rfl ?_); intro K1 hK1; simp only [go_sem, q4, Bool.not_true]; (first | refine hK1 _ ?_ | refine andk (hK1 _ ?_)); clear hK1 K1) | (refine u_2x rfl rfl rfl rfl ?_; intro K1 hK1; simp only [go_sem, q4, Bool.not_true]; (first | refine hK1 _ ?_ | refine andk (hK1 _ ?_)); clear hK1 K1) | (refine u_2f rfl rfl rfl rfl ?_; intro K1 hK1; simp only [go_sem, q4, Bool.not_true]; (first | refine hK1 _ ?_ | refine andk (hK1 _ ?_)); clear hK1 K1) | (refine u_nil ?_; refine hK _ ?_; clear hK K)))
                    (refine aw_cnd ?_; intro X Y hX hY; simp only [go_sem])
                    refine hY ?_
                    clear hX hY X Y
                    (repeat (first | (refine aw_seq ?_; intro K hK) | refine aw_block ?_ | refine aw_region ?_ | (refine lst_x rfl rfl ?_; intro K1 hK1; simp only [go_sem]; (first | refine hK1 _ ?_ | refine andk (hK1 _ ?_)); clear hK1 K1) | ((first | refine lst_nil ?_ | refine aw_skip ?_); refine hK _ ?_; clear hK K)))
                    ((try refine lst_nil ?_); (try refine aw_skip ?_); try simp only [ThenA])
                    refine hK _ (j + 1) ⟨by omega, nx fun _ => q3⟩ (by omega) ?_
                    (refine le_tm ?_; simp only [LeTm, go_sem]; try simp)
                  · have q4 : decide ((o[k].1, o[j].2) ∈ o) = false := by simpa using q3
                    (repeat (first | ((first | refine u_0x rfl rfl rfl ?_ | refine u_1x rfl rfl rfl ?_); intro K1 hK1; simp only [go_sem, q4, Bool.not_false]; (first | refine hK1 _ ?_ | refine andk (hK1 _ ?_)); clear hK1 K1) | (refine u_2x rfl rfl rfl rfl ?_; intro K1 hK1; simp only [go_sem, q4, Bool.not_false]; (first | refine hK1 _ ?_ | refine andk (hK1 _ ?_)); clear hK1 K1) | (refine u_2f rfl rfl rfl rfl ?_; intro K1 hK1; simp only [go_sem, q4, Bool.not_false]; (first | refine hK1 _ ?_ | refine andk (hK1 _ ?_)); clear hK1 K1) | (refine u_nil ?_; refine hK _ ?_; clear hK K)))
                    (refine aw_cnd ?_; intro X Y hX hY; simp only [go_sem])
                    refine hX ?_
                    clear hX hY X Y
                    (repeat (first | (refine aw_seq ?_; intro K hK) | refine aw_block ?_ | refine aw_region ?_ | (refine lst_x rfl rfl ?_; intro K1 hK1; simp only [go_sem]; (first | refine hK1 _ ?_ | refine andk (hK1 _ ?_)); clear hK1 K1) | ((first | refine lst_nil ?_ | refine aw_skip ?_); refine hK _ ?_; clear hK K)))
                    ((try refine aw_ret ?_); (try simp only [ThenA, InBl]); refine ret_le (le_pick [] rfl rfl) ?_; (try simp only [List.set_nil, List.take_nil, List.take_zero, List.map_append, go_sem]); ((try refine aw_ret ?_); (try refine lst_nil ?_); (try simp only [ThenA, InBl]); refine ret_mk (by first | exact .inl rfl | exact .inr rfl) rfl ?_; simp only [rtn, resA, resL, resV, Tryz.results71, go_sem, true_and, and_true]))
                    rw [ordB_tr mk mj q1' q3]
            · have hl2 : decide ((j : Int) < (o.length : Int)) = false := by simpa using hltj
              (repeat (first | (refine aw_seq ?_; intro K hK) | refine aw_block ?_ | refine aw_region ?_ | (refine lst_x rfl rfl ?_; intro K1 hK1; simp only [go_sem, hl2, tArcs_len, half2]; (first | refine hK1 _ ?_ | refine andk (hK1 _ ?_)); clear hK1 K1) | ((first | refine lst_nil ?_ | refine aw_skip ?_); refine hK _ ?_; clear hK K)))
              (refine aw_cnd ?_; intro X Y hX hY; simp only [go_sem])
              refine hY ?_
              clear hX hY X Y
              (refine aw_exit ?_; simp only [ThenA, InBl, reduceIte, Nat.reduceEqDiff]; (first | refine hK _ ?_ | (clear hK K; refine hK _ ?_) | (clear hK K; clear hK K; refine hK _ ?_) | (clear hK K; clear hK K; clear hK K; refine hK _ ?_) | (clear hK K; clear hK K; clear hK K; clear hK K; refine hK _ ?_) | (clear hK K; clear hK K; clear hK K; clear hK K; clear hK K; refine hK _ ?_)); clear hK K)
              (repeat (first | (refine aw_seq ?_; intro K hK) | refine aw_block ?_ | refine aw_region ?_ | (refine lst_x rfl rfl ?_; intro K1 hK1; simp only [go_sem]; (first | refine hK1 _ ?_ | refine andk (hK1 _ ?_)); clear hK1 K1) | ((first | refine lst_nil ?_ | refine aw_skip ?_); refine hK _ ?_; clear hK K)))
              ((try refine lst_nil ?_); (try refine aw_skip ?_); try simp only [ThenA])
              refine hK _ (k + 1) ⟨by omega, fun i a hi ha => ?_, hprev, fun i x hi hx y hy he => ?_⟩ (by omega) ?_
              · by_cases e : i = k
                · subst e; rw [hg] at ha; cases ha; exact hck
                · exact hc i a (by omega) ha
              · by_cases e : i = k
                · subst e; rw [hg] at hx; cases hx
                  obtain ⟨q, hq⟩ := List.mem_iff_getElem?.1 hy
                  exact hj2 q y (by have := (List.getElem?_eq_some_iff.1 hq).1; omega) hq he
                · exact ht i x (by omega) hx y hy he
              · refine Le.trans (le_pick [] rfl rfl) ?_
                (try simp only [List.set_nil, List.take_nil, List.take_zero, List.map_append, go_sem])
                (refine le_tm ?_; simp only [LeTm, go_sem]; try simp)
        | false =>
          cases q2 : (o[k - 1].1 == o[k].1) with
          | false =>
            (repeat (first | ((first | refine u_0x rfl rfl rfl ?_ | refine u_1x rfl rfl rfl ?_); intro K1 hK1; simp only [go_sem, e0, e3, q1, q2, hp0, hp1, tArcs_len, half2, Bool.not_false]; (first | refine hK1 _ ?_ | refine andk (hK1 _ ?_)); clear hK1 K1) | (refine u_2x rfl rfl rfl rfl ?_; intro K1 hK1; simp only [go_sem, e0, e3, q1, q2, hp0, hp1, tArcs_len, half2, Bool.not_false]; (first | refine hK1 _ ?_ | refine andk (hK1 _ ?_)); clear hK1 K1) | (refine u_2f rfl rfl rfl rfl ?_; intro K1 hK1; simp only [go_sem, e0, e3, q1, q2, hp0, hp1, tArcs_len, half2, Bool.not_false]; (first | refine hK1 _ ?_ | refine andk (hK1 _ ?_)); clear hK1 K1) | (refine u_nil ?_; refine hK _ ?_; clear hK K)))
            (refine aw_cnd ?_; intro X Y hX hY; simp only [go_sem])
            refine hX ?_
            clear hX hY X Y
            (repeat (first | (refine aw_seq ?_; intro K hK) | refine aw_block ?_ | refine aw_region ?_ | (refine lst_x rfl rfl ?_; intro K1 hK1; simp only [go_sem]; (first | refine hK1 _ ?_ | refine andk (hK1 _ ?_)); clear hK1 K1) | ((first | refine lst_nil ?_ | refine aw_skip ?_); refine hK _ ?_; clear hK K)))
            ((try refine aw_ret ?_); (try simp only [ThenA, InBl]); refine ret_le (le_pick [] rfl rfl) ?_; (try simp only [List.set_nil, List.take_nil, List.take_zero, List.map_append, go_sem]); ((try refine aw_ret ?_); (try refine lst_nil ?_); (try simp only [ThenA, InBl]); refine ret_mk (by first | exact .inl rfl | exact .inr rfl) rfl ?_; simp only [rtn, resA, resL, resV, Tryz.results71, go_sem, true_and, and_true]))
            rw [uns (by rw [ltd, q1, q2]; rfl)]
          | true =>
            cases q3 : decide (o[k - 1].2 < o[k].2) with
            | true =>
              have hprev := prv (by rw [ltd, q1, q2, q3]; rfl)
              (repeat (first | ((first | refine u_0x rfl rfl rfl ?_ | refine u_1x rfl rfl rfl ?_); intro K1 hK1; simp only [go_sem, e0, e3, q1, q2, q3, hp0, hp1, tArcs_len, half2, Bool.not_true]; (first | refine hK1 _ ?_ | refine andk (hK1 _ ?_)); clear hK1 K1) | (refine u_2x rfl rfl rfl rfl ?_; intro K1 hK1; simp only [go_sem, e0, e3, q1, q2, q3, hp0, hp1, tArcs_len, half2, Bool.not_true]; (first | refine hK1 _ ?_ | refine andk (hK1 _ ?_)); clear hK1 K1) | (refine u_2f rfl rfl rfl rfl ?_; intro K1 hK1; simp only [go_sem, e0, e3, q1, q2, q3, hp0, hp1, tArcs_len, half2, Bool.not_true]; (first | refine hK1 _ ?_ | refine andk (hK1 _ ?_)); clear hK1 K1) | (refine u_nil ?_; refine hK _ ?_; clear hK K)))
              (refine aw_cnd ?_; intro X Y hX hY; simp only [go_sem])
              refine hY ?_
              clear hX hY X Y
              (repeat (first | (refine aw_seq ?_; intro K hK) | refine aw_block ?_ | refine aw_region ?_ | (refine lst_x rfl rfl ?_; intro K1 hK1; simp only [go_sem]; (first | refine hK1 _ ?_ | refine andk (hK1 _ ?_)); clear hK1 K1) | ((first | refine lst_nil ?_ | refine aw_skip ?_); refine hK _ ?_; clear hK K)))
              refine aw_loop (fun j : Nat => { tm := [(0, .a (.c (.t 2 (tArcs o)))), (3, .i k), (4, .a (.c (.p 0 0))), (5, .i j)], hp := [.r ⟨67, 2, false, [.v (.int .i64 o[k].1), .v (.int .i64 o[k].2)]⟩], n := 113, pin := 0 }) (fun j => j ≤ o.length ∧ ∀ i y, i < j → o[i]? = some y → y.1 = o[k].2 → (o[k].1, y.2) ∈ o) (fun j => o.length - j) 0 ?_ ?_ ?_
              · exact ⟨by omega, fun i _ hi => by omega⟩
              · (refine le_tm ?_; simp only [LeTm, go_sem]; try simp)
              · rintro j ⟨hj, hj2⟩ K hK
                by_cases hltj : j < o.length
                · have hl2 : decide ((j : Int) < (o.length : Int)) = true := by simpa using hltj
                  have hgj := List.getElem?_eq_getElem hltj
                  have hj0 := tArcs_c0 hltj
                  have hj1 := tArcs_c1 hltj
                  have mk := List.getElem_mem hlt
                  have mj := List.getElem_mem hltj
                  have nx : (o[j].1 = o[k].2 → (o[k].1, o[j].2) ∈ o) → ∀ i y, i < j + 1 → o[i]? = some y → y.1 = o[k].2 → (o[k].1, y.2) ∈ o := fun hq i y hi hy => by
                    by_cases e : i = j
                    · subst e; rw [hgj] at hy; cases hy; exact hq
                    · exact hj2 i y (by omega) hy
                  (repeat (first | (refine aw_seq ?_; intro K hK) | refine aw_block ?_ | refine aw_region ?_ | (refine lst_x rfl rfl ?_; intro K1 hK1; simp only [go_sem, hl2, tArcs_len, half2]; (first | refine hK1 _ ?_ | refine andk (hK1 _ ?_)); clear hK1 K1) | ((first | refine lst_nil ?_ | refine aw_skip ?_); refine hK _ ?_; clear hK K)))
                  (refine aw_cnd ?_; intro X Y hX hY; simp only [go_sem])
                  refine hX ?_
                  clear hX hY X Y
                  (repeat (first | (refine aw_seq ?_; intro K hK) | refine aw_block ?_ | refine aw_region ?_ | (refine lst_x rfl rfl ?_; intro K1 hK1; simp only [go_sem]; (first | refine hK1 _ ?_ | refine andk (hK1 _ ?_)); clear hK1 K1) | ((first | refine lst_nil ?_ | refine aw_skip ?_); refine hK _ ?_; clear hK K)))
                  (refine aw_regionU 26 [(0, 0), (1, 0), (2, 0), (3, 0), (4, 1), (5, 0), (6, 1), (7, 0), (8, 0), (9, 0), (10, 0), (11, 0), (12, 0), (13, 1), (14, 0), (15, 1), (16, 0), (17, 0), (18, 0), (19, 0), (20, 1), (21, 0), (22, 0), (23, 0), (24, 0), (25, 1), (26, 2), (27, 0), (28, 0), (29, 0)] (by kernel_rfl) (by kernel_rfl) (by intro c st h; simp [ThenA, InBl, Ret] at h) ?_)
                  cases q1 : (o[j].1 == o[k].2) with
                  | false =>
                    (repeat (first | ((first | refine u_0x rfl rfl rfl ?_ | refine u_1x rfl rfl rfl ?_); intro K1 hK1; simp only [go_sem, q1, hj0, hj1, tArcs_len, half2]; (first | refine hK1 _ ?_ | refine andk (hK1 _ ?_)); clear hK1 K1) | (refine u_2x rfl rfl rfl rfl ?_; intro K1 hK1; simp only [go_sem, q1, hj0, hj1, tArcs_len, half2]; (first | refine hK1 _ ?_ | refine andk (hK1 _ ?_)); clear hK1 K1) | (refine u_2f rfl rfl rfl rfl ?_; intro K1 hK1; simp only [go_sem, q1, hj0, hj1, tArcs_len, half2]; (first | refine hK1 _ ?_ | refine andk (hK1 _ ?_)); clear hK1 K1) | (refine u_nil ?_; refine hK _ ?_; clear hK K)))
                    (refine aw_cnd ?_; intro X Y hX hY; simp only [go_sem])
                    refine hY ?_
                    clear hX hY X Y
                    (repeat (first | (refine aw_seq ?_; intro K hK) | refine aw_block ?_ | refine aw_region ?_ | (refine lst_x rfl rfl ?_; intro K1 hK1; simp only [go_sem]; (first | refine hK1 _ ?_ | refine andk (hK1 _ ?_)); clear hK1 K1) | ((first | refine lst_nil ?_ | refine aw_skip ?_); refine hK _ ?_; clear hK K)))
                    ((try refine lst_nil ?_); (try refine aw_skip ?_); try simp only [ThenA])
                    refine hK _ (j + 1) ⟨by omega, nx fun e => by simp [e] at q1⟩ (by omega) ?_
                    (refine le_tm ?_; simp only [LeTm, go_sem]; try simp)
                  | true =>
                    have q1' : o[j].1 = o[k].2 := by simpa using q1
                    cases q2 : (o[j].2 == o[k].1) with
                    | true =>
                      have q2' : o[j].2 = o[k].1 := by simpa using q2
                      (repeat (first | ((first | refine u_0x rfl rfl rfl ?_ | refine u_1x rfl rfl rfl ?_); intro K1 hK1; simp only [go_sem, q1, q2, hj0, hj1, tArcs_len, half2]; (first | refine hK1 _ ?_ | refine andk (hK1 _ ?_)); clear hK1 K1) | (refine u_2x rfl rfl rfl rfl ?_; intro K1 hK1; simp only [go_sem, q1, q2, hj0, hj1, tArcs_len, half2]; (first | refine hK1 _ ?_ | refine andk (hK1 _ ?_)); clear hK1 K1) | (refine u_2f rfl rfl rfl rfl ?_; intro K1 hK1; simp only [go_sem, q1, q2, hj0, hj1, tArcs_len, half2]; (first | refine hK1 _ ?_ | refine andk (hK1 _ ?_)); clear hK1 K1) | (refine u_nil ?_; refine hK _ ?_; clear hK K)))
                      (refine aw_cnd ?_; intro X Y hX hY; simp only [go_sem])
                      refine hX ?_
                      clear hX hY X Y
                      (repeat (first | (refine aw_seq ?_; intro K hK) | refine aw_block ?_ | refine aw_region ?_ | (refine lst_x rfl rfl ?_; intro K1 hK1; simp only [go_sem]; (first | refine hK1 _ ?_ | refine andk (hK1 _ ?_)); clear hK1 K1) | ((first | refine lst_nil ?_ | refine aw_skip ?_); refine hK _ ?_; clear hK K)))
                      ((try refine aw_ret ?_); (try simp only [ThenA, InBl]); refine ret_le (le_pick [] rfl rfl) ?_; (try simp only [List.set_nil, List.take_nil, List.take_zero, List.map_append, go_sem]); ((try refine aw_ret ?_); (try refine lst_nil ?_); (try simp only [ThenA, InBl]); refine ret_mk (by first | exact .inl rfl | exact .inr rfl) rfl ?_; simp only [rtn, resA, resL, resV, Tryz.results71, go_sem, true_and, and_true]))
                      rw [ordB_cy mk mj q1' q2']
                    | false =>
                      (repeat (first | ((first | refine u_0x rfl rfl rfl ?_ | refine u_1x rfl rfl rfl ?_); intro K1 hK1; simp only [go_sem, q1, q2, hj0, hj1, tArcs_len, half2]; (first | refine hK1 _ ?_ | refine andk (hK1 _ ?_)); clear hK1 K1) | (refine u_2x rfl rfl rfl rfl ?_; intro K1 hK1; simp only [go_sem, q1, q2, hj0, hj1, tArcs_len, half2]; (first | refine hK1 _ ?_ | refine andk (hK1 _ ?_)); clear hK1 K1) | (refine u_2f rfl rfl rfl rfl ?_; intro K1 hK1; simp only [go_sem, q1, q2, hj0, hj1, tArcs_len, half2]; (first | refine hK1 _ ?_ | refine andk (hK1 _ ?_)); clear hK1 K1) | (refine u_nil ?_; refine hK _ ?_; clear hK K)))
                      (refine u_wG rfl rfl rfl (by simp only [go_sem] <;> rfl) rfl ?_; intro K1 hK1; refine (stp_call0 (ids := []) (rabv_fc o o[k].1 o[j].2 hn) rfl rfl (by simp only [go_sem]) (by kernel_rfl) (by (simp only [List.append_nil, go_sem]) <;> rfl) ?_).stp)
                      rintro _ _ ⟨rfl, rfl⟩
                      (simp only [aInts, aSets, List.append_nil, List.nil_append, List.length_map, go_sem]; refine hK1 _ ?_; clear hK1 K1)
                      by_cases q3 : (o[k].1, o[j].2) ∈ o
                      · have q4 : decide ((o[k].1, o[j].2) ∈ o) = true := by simpa using q3
                        (repeat (first | ((first | refine u_0x rfl rfl rfl ?_ | refine u_1x rfl rfl rfl ?_); intro K1 hK1; simp only [go_sem, q4, Bool.not_true]; (first | refine hK1 _ ?_ | refine andk (hK1 _ ?_)); clear hK1 K1) | (refine u_2x rfl rfl rfl rfl ?_; intro K1 hK1; simp only [go_sem, q4, Bool.not_true]; (first | refine hK1 _ ?_ | refine andk (hK1 _ ?_)); clear hK1 K1) | (refine u_2f rfl rfl rfl rfl ?_; intro K1 hK1; simp only [go_sem, q4, Bool.not_true]; (first | refine hK1 _ ?_ | refine andk (hK1 _ ?_)); clear hK1 K1) | (refine u_nil ?_; refine hK _ ?_; clear hK K)))
                        (refine aw_cnd ?_; intro X Y hX hY; simp only [go_sem])
                        refine hY ?_
                        clear hX hY X Y
                        (repeat (first | (refine aw_seq ?_; intro K hK) | refine aw_block ?_ | refine aw_region ?_ | (refine lst_x rfl rfl ?_; intro K1 hK1; simp only [go_sem]; (first | refine hK1 _ ?_ | refine andk (hK1 _ ?_)); clear hK1 K1) | ((first | refine lst_nil ?_ | refine aw_skip ?_); refine hK _ ?_; clear hK K)))
                        ((try refine lst_nil ?_); (try refine aw_skip ?_); try simp only [ThenA])
                        refine hK _ (j + 1) ⟨by omega, nx fun _ => q3⟩ (by omega) ?_
                        (refine le_tm ?_; simp only [LeTm, go_sem]; try simp)
                      · have q4 : decide ((o[k].1, o[j].2) ∈ o) = false := by simpa using q3
                        (repeat (first | ((first | refine u_0x rfl rfl rfl ?_ | refine u_1x rfl rfl rfl ?_); intro K1 hK1; simp only [go_sem, q4, Bool.not_false]; (first | refine hK1 _ ?_ | refine andk (hK1 _ ?_)); clear hK1 K1) | (refine u_2x rfl rfl rfl rfl ?_; intro K1 hK1; simp only [go_sem, q4, Bool.not_false]; (first | refine hK1 _ ?_ | refine andk (hK1 _ ?_)); clear hK1 K1) | (refine u_2f rfl rfl rfl rfl ?_; intro K1 hK1; simp only [go_sem, q4, Bool.not_false]; (first | refine hK1 _ ?_ | refine andk (hK1 _ ?_)); clear hK1 K1) | (refine u_nil ?_; refine hK _ ?_; clear hK K)))
                        (refine aw_cnd ?_; intro X Y hX hY; simp only [go_sem])
                        refine hX ?_
                        clear hX hY X Y
                        (repeat (first | (refine aw_seq ?_; intro K hK) | refine aw_block ?_ | refine aw_region ?_ | (refine lst_x rfl rfl ?_; intro K1 hK1; simp only [go_sem]; (first | refine hK1 _ ?_ | refine andk (hK1 _ ?_)); clear hK1 K1) | ((first | refine lst_nil ?_ | refine aw_skip ?_); refine hK _ ?_; clear hK K)))
                        ((try refine aw_ret ?_); (try simp only [ThenA, InBl]); refine ret_le (le_pick [] rfl rfl) ?_; (try simp only [List.set_nil, List.take_nil, List.take_zero, List.map_append, go_sem]); ((try refine aw_ret ?_); (try refine lst_nil ?_); (try simp only [ThenA, InBl]); refine ret_mk (by first | exact .inl rfl | exact .inr rfl) rfl ?_; simp only [rtn, resA, resL, resV, Tryz.results71, go_sem, true_and, and_true]))
                        rw [ordB_tr mk mj q1' q3]
                · have hl2 : decide ((j : Int) < (o.length : Int)) = false := by simpa using hltj
                  (repeat (first | (refine aw_seq ?_; intro K hK) | refine aw_block ?_ | refine aw_region ?_ | (refine lst_x rfl rfl ?_; intro K1 hK1; simp only [go_sem, hl2, tArcs_len, half2]; (first | refine hK1 _ ?_ | refine andk (hK1 _ ?_)); clear hK1 K1) | ((first | refine lst_nil ?_ | refine aw_skip ?_); refine hK _ ?_; clear hK K)))
                  (refine aw_cnd ?_; intro X Y hX hY; simp only [go_sem])
                  refine hY ?_
                  clear hX hY X Y
                  (refine aw_exit ?_; simp only [ThenA, InBl, reduceIte, Nat.reduceEqDiff]; (first | refine hK _ ?_ | (clear hK K; refine hK _ ?_) | (clear hK K; clear hK K; refine hK _ ?_) | (clear hK K; clear hK K; clear hK K; refine hK _ ?_) | (clear hK K; clear hK K; clear hK K; clear hK K; refine hK _ ?_) | (clear hK K; clear hK K; clear hK K; clear hK K; clear hK K; refine hK _ ?_)); clear hK K)
                  (repeat (first | (refine aw_seq ?_; intro K hK) | refine aw_block ?_ | refine aw_region ?_ | (refine lst_x rfl rfl ?_; intro K1 hK1; simp only [go_sem]; (first | refine hK1 _ ?_ | refine andk (hK1 _ ?_)); clear hK1 K1) | ((first | refine lst_nil ?_ | refine aw_skip ?_); refine hK _ ?_; clear hK K)))
                  ((try refine lst_nil ?_); (try refine aw_skip ?_); try simp only [ThenA])
                  refine hK _ (k + 1) ⟨by omega, fun i a hi ha => ?_, hprev, fun i x hi hx y hy he => ?_⟩ (by omega) ?_
                  · by_cases e : i = k
                    · subst e; rw [hg] at ha; cases ha; exact hck
                    · exact hc i a (by omega) ha
                  · by_cases e : i = k
                    · subst e; rw [hg] at hx; cases hx
                      obtain ⟨q, hq⟩ := List.mem_iff_getElem?.1 hy
                      exact hj2 q y (by have := (List.getElem?_eq_some_iff.1 hq).1; omega) hq he
                    · exact ht i x (by omega) hx y hy he
                  · refine Le.trans (le_pick [] rfl rfl) ?_
                    (try simp only [List.set_nil, List.take_nil, List.take_zero, List.map_append, go_sem])
                    (refine le_tm ?_; simp only [LeTm, go_sem]; try simp)
            | false =>
              (repeat (first | ((first | refine u_0x rfl rfl rfl ?_ | refine u_1x rfl rfl rfl ?_); intro K1 hK1; simp only [go_sem, e0, e3, q1, q2, q3, hp0, hp1, tArcs_len, half2, Bool.not_false]; (first | refine hK1 _ ?_ | refine andk (hK1 _ ?_)); clear hK1 K1) | (refine u_2x rfl rfl rfl rfl ?_; intro K1 hK1; simp only [go_sem, e0, e3, q1, q2, q3, hp0, hp1, tArcs_len, half2, Bool.not_false]; (first | refine hK1 _ ?_ | refine andk (hK1 _ ?_)); clear hK1 K1) | (refine u_2f rfl rfl rfl rfl ?_; intro K1 hK1; simp only [go_sem, e0, e3, q1, q2, q3, hp0, hp1, tArcs_len, half2, Bool.not_false]; (first | refine hK1 _ ?_ | refine andk (hK1 _ ?_)); clear hK1 K1) | (refine u_nil ?_; refine hK _ ?_; clear hK K)))
              (refine aw_cnd ?_; intro X Y hX hY; simp only [go_sem])
              refine hX ?_
              clear hX hY X Y
              (repeat (first | (refine aw_seq ?_; intro K hK) | refine aw_block ?_ | refine aw_region ?_ | (refine lst_x rfl rfl ?_; intro K1 hK1; simp only [go_sem]; (first | refine hK1 _ ?_ | refine andk (hK1 _ ?_)); clear hK1 K1) | ((first | refine lst_nil ?_ | refine aw_skip ?_); refine hK _ ?_; clear hK K)))
              ((try refine aw_ret ?_); (try simp only [ThenA, InBl]); refine ret_le (le_pick [] rfl rfl) ?_; (try simp only [List.set_nil, List.take_nil, List.take_zero, List.map_append, go_sem]); ((try refine aw_ret ?_); (try refine lst_nil ?_); (try simp only [ThenA, InBl]); refine ret_mk (by first | exact .inl rfl | exact .inr rfl) rfl ?_; simp only [rtn, resA, resL, resV, Tryz.results71, go_sem, true_and, and_true]))
              rw [uns (by rw [ltd, q1, q2, q3]; rfl)]
    · have hl1 : decide ((k : Int) < (o.length : Int)) = false := by simpa using hlt
      (repeat (first | (refine aw_seq ?_; intro K hK) | refine aw_block ?_ | refine aw_region ?_ | (refine lst_x rfl rfl ?_; intro K1 hK1; simp only [go_sem, hl1, tArcs_len, half2]; (first | refine hK1 _ ?_ | refine andk (hK1 _ ?_)); clear hK1 K1) | ((first | refine lst_nil ?_ | refine aw_skip ?_); refine hK _ ?_; clear hK K)))
      (refine aw_cnd ?_; intro X Y hX hY; simp only [go_sem])
      refine hY ?_
      clear hX hY X Y
      (refine aw_exit ?_; simp only [ThenA, InBl, reduceIte, Nat.reduceEqDiff]; (first | refine hK _ ?_ | (clear hK K; refine hK _ ?_) | (clear hK K; clear hK K; refine hK _ ?_) | (clear hK K; clear hK K; clear hK K; refine hK _ ?_) | (clear hK K; clear hK K; clear hK K; clear hK K; refine hK _ ?_) | (clear hK K; clear hK K; clear hK K; clear hK K; clear hK K; refine hK _ ?_)); clear hK K)
      (repeat (first | (refine aw_seq ?_; intro K hK) | refine aw_block ?_ | refine aw_region ?_ | (refine lst_x rfl rfl ?_; intro K1 hK1; simp only [go_sem]; (first | refine hK1 _ ?_ | refine andk (hK1 _ ?_)); clear hK1 K1) | ((first | refine lst_nil ?_ | refine aw_skip ?_); refine hK _ ?_; clear hK K)))
      ((try refine aw_ret ?_); (try simp only [ThenA, InBl]); refine ret_le (le_pick [] rfl rfl) ?_; (try simp only [List.set_nil, List.take_nil, List.take_zero, List.map_append, go_sem]); ((try refine aw_ret ?_); (try refine lst_nil ?_); (try simp only [ThenA, InBl]); refine ret_mk (by first | exact .inl rfl | exact .inr rfl) rfl ?_; simp only [rtn, resA, resL, resV, Tryz.results71, go_sem, true_and, and_true]))
      have lt : ∀ {i : Nat} {a : Ar}, o[i]? = some a → i < k := fun h => by have := (List.getElem?_eq_some_iff.1 h).1; omega
      rw [ordB_yes (fun i a b h1 h2 => hs i a b (lt h2) h1 h2) (fun i a h => hc i a (lt h) h) (fun i x h => ht i x (lt h) h)]
end Go.Proofs.YthlckclbjknldaaGreat
