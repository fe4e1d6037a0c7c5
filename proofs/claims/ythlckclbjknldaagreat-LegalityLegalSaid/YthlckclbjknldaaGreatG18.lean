/- Events that are visible channels. -/
import Derived.Test.YthlckclbjknldaaGreatG17
namespace Go.Proofs.YthlckclbjknldaaGreat
set_option linter.unusedVariables false
set_option linter.unusedSimpArgs false
open Go.RowKit
set_option maxRecDepth 100000

def chanB (x : Int) : Bool := decide (x ≥ 2) && decide (x ≤ 1025)
theorem channel_fc (x : Int) : FC Tryz.prog 114 [.i x] [] (fun r o => o = [] ∧ r = .b (chanB x)) := by
  refine fc_intro Tryz.func114 rfl (by rw [Tryz.ntmps114]; simp) ?_
  rw [Tryz.ntmps114]
  simp only [enum]
  by_cases h1 : x ≥ 2
  · have e1 : decide (x ≥ 2) = true := by simpa using h1
    (repeat (first | (refine aw_seq ?_; intro K hK) | refine aw_block ?_ | refine aw_region ?_ | (refine lst_x rfl rfl ?_; intro K1 hK1; simp only [go_sem, e1]; (first | refine hK1 _ ?_ | refine andk (hK1 _ ?_)); clear hK1 K1) | ((first | refine lst_nil ?_ | refine aw_skip ?_); refine hK _ ?_; clear hK K)))
    ((try refine aw_ret ?_); (try simp only [ThenA, InBl]); refine ret_le (le_pick [] rfl rfl) ?_; (try simp only [List.set_nil, List.take_nil, List.take_zero, List.map_append, go_sem]); ((try refine aw_ret ?_); (try refine lst_nil ?_); (try simp only [ThenA, InBl]); refine ret_mk (by first | exact .inl rfl | exact .inr rfl) rfl ?_; simp only [rtn, resA, resL, resV, Tryz.results114, go_sem, true_and, and_true, chanB, e1, Bool.true_and]))
  · have e1 : decide (x ≥ 2) = false := by simpa using h1
    (repeat (first | (refine aw_seq ?_; intro K hK) | refine aw_block ?_ | refine aw_region ?_ | (refine lst_x rfl rfl ?_; intro K1 hK1; simp only [go_sem, e1]; (first | refine hK1 _ ?_ | refine andk (hK1 _ ?_)); clear hK1 K1) | ((first | refine lst_nil ?_ | refine aw_skip ?_); refine hK _ ?_; clear hK K)))
    ((try refine aw_ret ?_); (try simp only [ThenA, InBl]); refine ret_le (le_pick [] rfl rfl) ?_; (try simp only [List.set_nil, List.take_nil, List.take_zero, List.map_append, go_sem]); ((try refine aw_ret ?_); (try refine lst_nil ?_); (try simp only [ThenA, InBl]); refine ret_mk (by first | exact .inl rfl | exact .inr rfl) rfl ?_; simp only [rtn, resA, resL, resV, Tryz.results114, go_sem, true_and, and_true, chanB, e1, Bool.false_and]))
def visB (xs : List Int) : Bool := ascB xs && xs.all chanB
theorem visB_no {xs : List Int} {k : Nat} (h : k < xs.length) (hc : chanB xs[k] = false) : visB xs = false := by
  have : xs.all chanB = false := by rw [List.all_eq_false]; exact ⟨_, List.getElem_mem h, by simp [hc]⟩
  simp [visB, this]
theorem validEvents_fc (xs : List Int) (hn : xs.length ≤ 140737488355328) : FC Tryz.prog 66 [aInts xs] [] (fun r o => o = [] ∧ r = .b (visB xs)) := by
  refine fc_intro Tryz.func66 rfl (by rw [Tryz.ntmps66]; simp) ?_
  rw [Tryz.ntmps66]
  simp only [enum, aInts]
  (repeat (first | (refine aw_seq ?_; intro K hK) | refine aw_block ?_ | refine aw_region ?_ | (refine lst_x rfl rfl ?_; intro K1 hK1; simp only [go_sem, tInts_len]; (first | refine hK1 _ ?_ | refine andk (hK1 _ ?_)); clear hK1 K1) | ((first | refine lst_nil ?_ | refine aw_skip ?_); refine hK _ ?_; clear hK K)))
  refine aw_loop (fun k : Nat => { tm := [(0, .a (.c (.t 1 (tInts xs)))), (5, .a (.c (.t 1 (tInts xs)))), (6, .i xs.length), (7, .i k)], hp := [], n := 29, pin := 0 }) (fun k => k ≤ xs.length ∧ (∀ i (h : i < xs.length), i < k → chanB xs[i] = true) ∧ ∀ i x y, i + 1 < k → xs[i]? = some x → xs[i + 1]? = some y → x < y) (fun k => xs.length - k) 0 ?_ ?_ ?_
  · exact ⟨by omega, fun i _ hi => by omega, fun i _ _ hi => by omega⟩
  · (refine le_tm ?_; simp only [LeTm, go_sem]; try simp)
  · rintro k ⟨hk, hc, ha⟩ K hK
    by_cases hlt : k < xs.length
    · have hl1 : decide ((k : Int) < (xs.length : Int)) = true := by simpa using hlt
      have hg := List.getElem?_eq_getElem hlt
      (repeat (first | (refine aw_seq ?_; intro K hK) | refine aw_block ?_ | refine aw_region ?_ | (refine lst_x rfl rfl ?_; intro K1 hK1; simp only [go_sem, hl1]; (first | refine hK1 _ ?_ | refine andk (hK1 _ ?_)); clear hK1 K1) | ((first | refine lst_nil ?_ | refine aw_skip ?_); refine hK _ ?_; clear hK K)))
      (refine aw_cnd ?_; intro X Y hX hY; simp only [go_sem])
      refine hX ?_
      clear hX hY X Y
      (repeat (first | (refine aw_seq ?_; intro K hK) | refine aw_block ?_ | refine aw_region ?_ | (refine lst_x rfl rfl ?_; intro K1 hK1; simp only [go_sem, tInts_len, tInts_get hg]; (first | refine hK1 _ ?_ | refine andk (hK1 _ ?_)); clear hK1 K1) | ((first | refine lst_nil ?_ | refine aw_skip ?_); refine hK _ ?_; clear hK K)))
      (refine lst_cons rfl ?_; intro K1 hK1; refine (stp_call0 (ids := []) (channel_fc xs[k]) rfl rfl (by simp only [go_sem]) (by kernel_rfl) (by (simp only [List.append_nil, go_sem]) <;> rfl) ?_).stp)
      rintro _ _ ⟨rfl, rfl⟩
      (simp only [aInts, aSets, List.append_nil, List.nil_append, List.length_map, go_sem]; refine hK1 _ ?_; clear hK1 K1)
      by_cases e : chanB xs[k] = true
      · by_cases h0 : k = 0
        · have e0 : decide ((k : Int) > 0) = false := by simp; omega
          (repeat (first | (refine aw_seq ?_; intro K hK) | refine aw_block ?_ | refine aw_region ?_ | (refine lst_x rfl rfl ?_; intro K1 hK1; simp only [go_sem, e, e0, Bool.not_true]; (first | refine hK1 _ ?_ | refine andk (hK1 _ ?_)); clear hK1 K1) | ((first | refine lst_nil ?_ | refine aw_skip ?_); refine hK _ ?_; clear hK K)))
          (refine aw_cnd ?_; intro X Y hX hY; simp only [go_sem])
          refine hY ?_
          clear hX hY X Y
          (repeat (first | (refine aw_seq ?_; intro K hK) | refine aw_block ?_ | refine aw_region ?_ | (refine lst_x rfl rfl ?_; intro K1 hK1; simp only [go_sem]; (first | refine hK1 _ ?_ | refine andk (hK1 _ ?_)); clear hK1 K1) | ((first | refine lst_nil ?_ | refine aw_skip ?_); refine hK _ ?_; clear hK K)))
          ((try refine lst_nil ?_); (try refine aw_skip ?_); try simp only [ThenA])
          refine hK _ (k + 1) ⟨by omega, fun i h hi => ?_, fun i x y hi => by omega⟩ (by omega) ?_
          · by_cases e2 : i = k
            · subst e2; exact e
            · exact hc i h (by omega)
          · (refine le_tm ?_; simp only [LeTm, go_sem]; try simp)
        · have e0 : decide ((k : Int) > 0) = true := by simp; omega
          have e3 : ((k : Int) - 1) = ((k - 1 : Nat) : Int) := by omega
          have hlt1 : k - 1 < xs.length := by omega
          have hg1 := List.getElem?_eq_getElem hlt1
          (repeat (first | (refine aw_seq ?_; intro K hK) | refine aw_block ?_ | refine aw_region ?_ | (refine lst_x rfl rfl ?_; intro K1 hK1; simp only [go_sem, e, e0, e3, Bool.not_true, tInts_len, tInts_get hg1]; (first | refine hK1 _ ?_ | refine andk (hK1 _ ?_)); clear hK1 K1) | ((first | refine lst_nil ?_ | refine aw_skip ?_); refine hK _ ?_; clear hK K)))
          (refine aw_cnd ?_; intro X Y hX hY; simp only [go_sem])
          refine ⟨fun h => hX ?_, fun h => hY ?_⟩
          · have h2 : xs[k] ≤ xs[k - 1] := by simpa using h
            clear hX hY X Y
            (repeat (first | (refine aw_seq ?_; intro K hK) | refine aw_block ?_ | refine aw_region ?_ | (refine lst_x rfl rfl ?_; intro K1 hK1; simp only [go_sem]; (first | refine hK1 _ ?_ | refine andk (hK1 _ ?_)); clear hK1 K1) | ((first | refine lst_nil ?_ | refine aw_skip ?_); refine hK _ ?_; clear hK K)))
            ((try refine aw_ret ?_); (try simp only [ThenA, InBl]); refine ret_le (le_pick [] rfl rfl) ?_; (try simp only [List.set_nil, List.take_nil, List.take_zero, List.map_append, go_sem]); ((try refine aw_ret ?_); (try refine lst_nil ?_); (try simp only [ThenA, InBl]); refine ret_mk (by first | exact .inl rfl | exact .inr rfl) rfl ?_; simp only [rtn, resA, resL, resV, Tryz.results66, go_sem, true_and, and_true]))
            rw [visB, ascB_not hg1 (by rw [Nat.sub_add_cancel (by omega)]; exact hg) h2]
            rfl
          · have h2 : xs[k - 1] < xs[k] := by simpa using h
            clear hX hY X Y
            (repeat (first | (refine aw_seq ?_; intro K hK) | refine aw_block ?_ | refine aw_region ?_ | (refine lst_x rfl rfl ?_; intro K1 hK1; simp only [go_sem]; (first | refine hK1 _ ?_ | refine andk (hK1 _ ?_)); clear hK1 K1) | ((first | refine lst_nil ?_ | refine aw_skip ?_); refine hK _ ?_; clear hK K)))
            ((try refine lst_nil ?_); (try refine aw_skip ?_); try simp only [ThenA])
            refine hK _ (k + 1) ⟨by omega, fun i h hi => ?_, fun i x y hi hx hy => ?_⟩ (by omega) ?_
            · by_cases e2 : i = k
              · subst e2; exact e
              · exact hc i h (by omega)
            · by_cases e2 : i + 1 = k
              · have e4 : i = k - 1 := by omega
                subst e4
                rw [hg1] at hx; rw [e2, hg] at hy
                cases hx; cases hy; exact h2
              · exact ha i x y (by omega) hx hy
            · (refine le_tm ?_; simp only [LeTm, go_sem]; try simp)
      · have e' : chanB xs[k] = false := by simpa using e
        (repeat (first | (refine aw_seq ?_; intro K hK) | refine aw_block ?_ | refine aw_region ?_ | (refine lst_x rfl rfl ?_; intro K1 hK1; simp only [go_sem, e', Bool.not_false]; (first | refine hK1 _ ?_ | refine andk (hK1 _ ?_)); clear hK1 K1) | ((first | refine lst_nil ?_ | refine aw_skip ?_); refine hK _ ?_; clear hK K)))
        (refine aw_cnd ?_; intro X Y hX hY; simp only [go_sem])
        refine hX ?_
        clear hX hY X Y
        (repeat (first | (refine aw_seq ?_; intro K hK) | refine aw_block ?_ | refine aw_region ?_ | (refine lst_x rfl rfl ?_; intro K1 hK1; simp only [go_sem]; (first | refine hK1 _ ?_ | refine andk (hK1 _ ?_)); clear hK1 K1) | ((first | refine lst_nil ?_ | refine aw_skip ?_); refine hK _ ?_; clear hK K)))
        ((try refine aw_ret ?_); (try simp only [ThenA, InBl]); refine ret_le (le_pick [] rfl rfl) ?_; (try simp only [List.set_nil, List.take_nil, List.take_zero, List.map_append, go_sem]); ((try refine aw_ret ?_); (try refine lst_nil ?_); (try simp only [ThenA, InBl]); refine ret_mk (by first | exact .inl rfl | exact .inr rfl) rfl ?_; simp only [rtn, resA, resL, resV, Tryz.results66, go_sem, true_and, and_true]))
        rw [visB_no hlt e']
    · have hl1 : decide ((k : Int) < (xs.length : Int)) = false := by simpa using hlt
      have hke : k = xs.length := by omega
      subst hke
      (repeat (first | (refine aw_seq ?_; intro K hK) | refine aw_block ?_ | refine aw_region ?_ | (refine lst_x rfl rfl ?_; intro K1 hK1; simp only [go_sem, hl1]; (first | refine hK1 _ ?_ | refine andk (hK1 _ ?_)); clear hK1 K1) | ((first | refine lst_nil ?_ | refine aw_skip ?_); refine hK _ ?_; clear hK K)))
      (refine aw_cnd ?_; intro X Y hX hY; simp only [go_sem])
      refine hY ?_
      clear hX hY X Y
      (refine aw_exit ?_; simp only [ThenA, InBl, reduceIte, Nat.reduceEqDiff]; (first | refine hK _ ?_ | (clear hK K; refine hK _ ?_) | (clear hK K; clear hK K; refine hK _ ?_) | (clear hK K; clear hK K; clear hK K; refine hK _ ?_) | (clear hK K; clear hK K; clear hK K; clear hK K; refine hK _ ?_) | (clear hK K; clear hK K; clear hK K; clear hK K; clear hK K; refine hK _ ?_)); clear hK K)
      (repeat (first | (refine aw_seq ?_; intro K hK) | refine aw_block ?_ | refine aw_region ?_ | (refine lst_x rfl rfl ?_; intro K1 hK1; simp only [go_sem]; (first | refine hK1 _ ?_ | refine andk (hK1 _ ?_)); clear hK1 K1) | ((first | refine lst_nil ?_ | refine aw_skip ?_); refine hK _ ?_; clear hK K)))
      ((try refine aw_ret ?_); (try simp only [ThenA, InBl]); refine ret_le (le_pick [] rfl rfl) ?_; (try simp only [List.set_nil, List.take_nil, List.take_zero, List.map_append, go_sem]); ((try refine aw_ret ?_); (try refine lst_nil ?_); (try simp only [ThenA, InBl]); refine ret_mk (by first | exact .inl rfl | exact .inr rfl) rfl ?_; simp only [rtn, resA, resL, resV, Tryz.results66, go_sem, true_and, and_true]))
      have h1 : ascB xs = true := ascB_get fun i a b h1 h2 => ha i a b (by have := (List.getElem?_eq_some_iff.1 h2).1; omega) h1 h2
      have h2 : xs.all chanB = true := by
        rw [List.all_eq_true]
        intro x hx
        obtain ⟨i, hi, rfl⟩ := List.getElem_of_mem hx
        exact hc i hi hi
      rw [visB, h1, h2]
      rfl
end Go.Proofs.YthlckclbjknldaaGreat
