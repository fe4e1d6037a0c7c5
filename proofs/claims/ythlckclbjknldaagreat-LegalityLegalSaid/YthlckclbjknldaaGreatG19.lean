/- The reference's visibles. -/
import Derived.Test.YthlckclbjknldaaGreatG18
namespace Go.Proofs.YthlckclbjknldaaGreat
set_option linter.unusedVariables false
set_option linter.unusedSimpArgs false
open Go.RowKit
set_option maxRecDepth 100000

theorem visB_ends {xs : List Int} (h : ascB xs = true) (h0 : 0 < xs.length) : xs.all chanB = (decide (xs[0] ≥ 2) && decide (xs[xs.length - 1] ≤ 1025)) := by
  have hp := List.pairwise_iff_getElem.1 ((ascB_iff _).1 h)
  have lo : ∀ i (hi : i < xs.length), xs[0] ≤ xs[i] := fun i hi => by
    by_cases e : i = 0
    · subst e; omega
    · exact Int.le_of_lt (hp 0 i h0 hi (by omega))
  have hi' : ∀ i (hi : i < xs.length), xs[i] ≤ xs[xs.length - 1] := fun i hi => by
    by_cases e : i = xs.length - 1
    · subst e; omega
    · exact Int.le_of_lt (hp i (xs.length - 1) hi (by omega) (by omega))
  rw [Bool.eq_iff_iff, List.all_eq_true, Bool.and_eq_true, decide_eq_true_eq, decide_eq_true_eq]
  constructor
  · intro hA
    have h1 := hA _ (List.getElem_mem h0)
    have h2 := hA _ (List.getElem_mem (show xs.length - 1 < xs.length by omega))
    simp only [chanB, Bool.and_eq_true, decide_eq_true_eq] at h1 h2
    exact ⟨h1.1, h2.2⟩
  · rintro ⟨h1, h2⟩ x hx
    obtain ⟨i, hi, rfl⟩ := List.getElem_of_mem hx
    have h3 := lo i hi
    have h4 := hi' i hi
    simp only [chanB, Bool.and_eq_true, decide_eq_true_eq]
    exact ⟨by omega, by omega⟩

theorem visibles_fc (xs : List Int) (hn : xs.length ≤ 140737488355328) : FC Tryz.prog 69 [aInts xs] [] (fun r o => o = [] ∧ r = .b (visB xs)) := by
  refine fc_intro Tryz.func69 rfl (by rw [Tryz.ntmps69]; simp) ?_
  rw [Tryz.ntmps69]
  simp only [enum, aInts]
  (repeat (first | (refine aw_seq ?_; intro K hK) | refine aw_block ?_ | refine aw_region ?_ | (refine lst_x rfl rfl ?_; intro K1 hK1; simp only [go_sem]; (first | refine hK1 _ ?_ | refine andk (hK1 _ ?_)); clear hK1 K1) | ((first | refine lst_nil ?_ | refine aw_skip ?_); refine hK _ ?_; clear hK K)))
  (refine lst_cons rfl ?_; intro K1 hK1; refine (stp_call0 (ids := []) (rising_fc xs hn) rfl rfl (by simp only [go_sem]) (by kernel_rfl) (by (simp only [List.append_nil, go_sem]) <;> rfl) ?_).stp)
  rintro _ _ ⟨rfl, rfl⟩
  (simp only [aInts, aSets, List.append_nil, List.nil_append, List.length_map, go_sem]; refine hK1 _ ?_; clear hK1 K1)
  by_cases h : ascB xs = true
  · by_cases h0 : xs.length = 0
    · have e0 : ((xs.length : Int) == 0) = true := by simp [h0]
      (repeat (first | (refine aw_seq ?_; intro K hK) | refine aw_block ?_ | refine aw_region ?_ | (refine lst_x rfl rfl ?_; intro K1 hK1; simp only [go_sem, h, e0, tInts_len]; (first | refine hK1 _ ?_ | refine andk (hK1 _ ?_)); clear hK1 K1) | ((first | refine lst_nil ?_ | refine aw_skip ?_); refine hK _ ?_; clear hK K)))
      have e : xs = [] := List.length_eq_zero_iff.1 h0
      subst e
      ((try refine aw_ret ?_); (try simp only [ThenA, InBl]); refine ret_le (le_pick [] rfl rfl) ?_; (try simp only [List.set_nil, List.take_nil, List.take_zero, List.map_append, go_sem]); ((try refine aw_ret ?_); (try refine lst_nil ?_); (try simp only [ThenA, InBl]); refine ret_mk (by first | exact .inl rfl | exact .inr rfl) rfl ?_; simp only [rtn, resA, resL, resV, Tryz.results69, go_sem, true_and, and_true, visB, h, Bool.true_and]))
    · have e0 : ((xs.length : Int) == 0) = false := by simpa using h0
      have h0' : 0 < xs.length := by omega
      have hg0 := List.getElem?_eq_getElem h0'
      have hl : xs.length - 1 < xs.length := by omega
      have hgl := List.getElem?_eq_getElem hl
      have e3 : ((xs.length : Int) - 1) = ((xs.length - 1 : Nat) : Int) := by omega
      have hv := visB_ends h h0'
      by_cases h1 : xs[0] ≥ 2
      · have e1 : decide (xs[0] ≥ 2) = true := by simpa using h1
        rw [e1, Bool.true_and] at hv
        (repeat (first | (refine aw_seq ?_; intro K hK) | refine aw_block ?_ | refine aw_region ?_ | (refine lst_x rfl rfl ?_; intro K1 hK1; simp only [go_sem, h, e0, e1, e3, Int.toNat_zero, tInts_len, tInts_get hg0, tInts_get hgl]; (first | refine hK1 _ ?_ | refine andk (hK1 _ ?_)); clear hK1 K1) | ((first | refine lst_nil ?_ | refine aw_skip ?_); refine hK _ ?_; clear hK K)))
        ((try refine aw_ret ?_); (try simp only [ThenA, InBl]); refine ret_le (le_pick [] rfl rfl) ?_; (try simp only [List.set_nil, List.take_nil, List.take_zero, List.map_append, go_sem]); ((try refine aw_ret ?_); (try refine lst_nil ?_); (try simp only [ThenA, InBl]); refine ret_mk (by first | exact .inl rfl | exact .inr rfl) rfl ?_; simp only [rtn, resA, resL, resV, Tryz.results69, go_sem, true_and, and_true, visB, h, hv, Bool.true_and]))
      · have e1 : decide (xs[0] ≥ 2) = false := by simpa using h1
        rw [e1, Bool.false_and] at hv
        (repeat (first | (refine aw_seq ?_; intro K hK) | refine aw_block ?_ | refine aw_region ?_ | (refine lst_x rfl rfl ?_; intro K1 hK1; simp only [go_sem, h, e0, e1, e3, Int.toNat_zero, tInts_len, tInts_get hg0, tInts_get hgl]; (first | refine hK1 _ ?_ | refine andk (hK1 _ ?_)); clear hK1 K1) | ((first | refine lst_nil ?_ | refine aw_skip ?_); refine hK _ ?_; clear hK K)))
        ((try refine aw_ret ?_); (try simp only [ThenA, InBl]); refine ret_le (le_pick [] rfl rfl) ?_; (try simp only [List.set_nil, List.take_nil, List.take_zero, List.map_append, go_sem]); ((try refine aw_ret ?_); (try refine lst_nil ?_); (try simp only [ThenA, InBl]); refine ret_mk (by first | exact .inl rfl | exact .inr rfl) rfl ?_; simp only [rtn, resA, resL, resV, Tryz.results69, go_sem, true_and, and_true, visB, h, hv, Bool.true_and]))
  · have h' : ascB xs = false := by simpa using h
    (repeat (first | (refine aw_seq ?_; intro K hK) | refine aw_block ?_ | refine aw_region ?_ | (refine lst_x rfl rfl ?_; intro K1 hK1; simp only [go_sem, h']; (first | refine hK1 _ ?_ | refine andk (hK1 _ ?_)); clear hK1 K1) | ((first | refine lst_nil ?_ | refine aw_skip ?_); refine hK _ ?_; clear hK K)))
    ((try refine aw_ret ?_); (try simp only [ThenA, InBl]); refine ret_le (le_pick [] rfl rfl) ?_; (try simp only [List.set_nil, List.take_nil, List.take_zero, List.map_append, go_sem]); ((try refine aw_ret ?_); (try refine lst_nil ?_); (try simp only [ThenA, InBl]); refine ret_mk (by first | exact .inl rfl | exact .inr rfl) rfl ?_; simp only [rtn, resA, resL, resV, Tryz.results69, go_sem, true_and, and_true, visB, h', Bool.false_and]))
end Go.Proofs.YthlckclbjknldaaGreat
