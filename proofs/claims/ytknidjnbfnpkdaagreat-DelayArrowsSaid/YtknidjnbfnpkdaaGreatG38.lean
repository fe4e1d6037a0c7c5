/- Calm; Huge. -/
import Derived.Test.YtknidjnbfnpkdaaGreatG37
import Derived.Test.YtknidjnbfnpkdaaGreatMGa
namespace Go.Proofs.YtknidjnbfnpkdaaGreat
set_option linter.unusedVariables false
set_option linter.unusedSimpArgs false
open Go.RowKit
set_option maxRecDepth 100000
attribute [local go_sem] List.set_cons_zero List.set_cons_succ List.map_cons List.map_nil List.take_succ_cons List.take_zero List.drop_zero List.drop_succ_cons C.pl C.one List.all_cons List.all_nil Bool.and_true

/-- is a system larger than the statements examine? -/
def hugeB (R : List (List Ar)) : Bool := decide (R.length > 12) || decide (totA R > 60)
theorem huge_fc (R : List (List Ar)) (hn : R.length ≤ 140737488355328) (hr : ∀ r ∈ R, r.length ≤ 140737488355328) : FC Tryz.prog 10 [aLts R] [] (fun r o => o = [] ∧ r = .b (hugeB R)) := by
  refine fc_intro Tryz.func10 rfl (by rw [Tryz.ntmps10]; simp) ?_
  rw [Tryz.ntmps10]
  simp only [enum, aLts]
  (repeat (first | (refine aw_seq ?_; intro K hK) | refine aw_block ?_ | refine aw_region ?_ | (refine lst_x rfl rfl ?_; intro K1 hK1; simp only [go_sem]; (first | refine hK1 _ ?_ | refine andk (hK1 _ ?_)); clear hK1 K1) | ((first | refine lst_nil ?_ | refine aw_skip ?_); refine hK _ ?_; clear hK K)))
  refine aw_loop (fun k : Nat => { tm := [(1, .a (.c (.p 0 0))), (3, .i (totA (R.take k) : Int)), (4, .i k)], hp := [.r ⟨25, 1, false, [.t 1 (tRows R)]⟩], n := 32, pin := 0 }) (fun k => k ≤ R.length) (fun k => R.length - k) 0 ?_ ?_ ?_
  · omega
  · (refine le_tm ?_; simp only [LeTm, go_sem, List.take_zero, totA, List.map_nil, List.sum_nil, Int.natCast_zero]; try simp)
  · rintro k hk K hK
    have hle := totA_le R k
    have hfull : k = R.length → totA (R.take k) = totA R := fun e => by rw [e, List.take_length]
    by_cases hlt : k < R.length
    · have hl1 : decide ((k : Int) < (R.length : Int)) = true := by simpa using hlt
      have hgk := List.getElem?_eq_getElem hlt
      have hrk := hr _ (List.getElem_mem hlt)
      have htk := totA_take hlt
      generalize hW : totA (R.take k) = W at *
      by_cases h60 : W ≤ 60
      · have d2 : decide ((W : Int) ≤ 60) = true := by simp; omega
        have e3 : ((W : Int) + (R[k].length : Int)) = (totA (R.take (k + 1)) : Int) := by omega
        (repeat (first | (refine aw_seq ?_; intro K hK) | refine aw_block ?_ | refine aw_region ?_ | (refine lst_x rfl rfl ?_; intro K1 hK1; simp only [go_sem, hl1, d2, tRows_len]; (first | refine hK1 _ ?_ | refine andk (hK1 _ ?_)); clear hK1 K1) | ((first | refine lst_nil ?_ | refine aw_skip ?_); refine hK _ ?_; clear hK K)))
        (refine aw_cnd ?_; intro X Y hX hY; simp only [go_sem])
        refine hX ?_
        clear hX hY X Y
        (repeat (first | (refine aw_seq ?_; intro K hK) | refine aw_block ?_ | refine aw_region ?_ | (refine lst_x rfl rfl ?_; intro K1 hK1; simp only [go_sem, tRows_get hgk, tRows_len, tArcs_len, half2, e3]; (first | refine hK1 _ ?_ | refine andk (hK1 _ ?_)); clear hK1 K1) | ((first | refine lst_nil ?_ | refine aw_skip ?_); refine hK _ ?_; clear hK K)))
        ((try refine lst_nil ?_); (try refine aw_skip ?_); try simp only [ThenA])
        refine hK _ (k + 1) (by omega) (by omega) ?_
        (refine le_tm ?_; simp only [LeTm, go_sem]; try simp)
      · have d2 : decide ((W : Int) ≤ 60) = false := by simp; omega
        have d3 : decide ((W : Int) > 60) = true := by simp; omega
        have t60 : decide (totA R > 60) = true := by simp; omega
        (repeat (first | (refine aw_seq ?_; intro K hK) | refine aw_block ?_ | refine aw_region ?_ | (refine lst_x rfl rfl ?_; intro K1 hK1; simp only [go_sem, hl1, d2, tRows_len]; (first | refine hK1 _ ?_ | refine andk (hK1 _ ?_)); clear hK1 K1) | ((first | refine lst_nil ?_ | refine aw_skip ?_); refine hK _ ?_; clear hK K)))
        (refine aw_cnd ?_; intro X Y hX hY; simp only [go_sem])
        refine hY ?_
        clear hX hY X Y
        (refine aw_exit ?_; simp only [ThenA, InBl, reduceIte, Nat.reduceEqDiff]; (first | refine hK _ ?_ | (clear hK K; refine hK _ ?_) | (clear hK K; clear hK K; refine hK _ ?_) | (clear hK K; clear hK K; clear hK K; refine hK _ ?_) | (clear hK K; clear hK K; clear hK K; clear hK K; refine hK _ ?_) | (clear hK K; clear hK K; clear hK K; clear hK K; clear hK K; refine hK _ ?_)); clear hK K)
        cases t12 : decide (R.length > 12) with
        | true =>
          have d4 : decide ((R.length : Int) > 12) = true := by simp at t12; simp; omega
          (repeat (first | (refine aw_seq ?_; intro K hK) | refine aw_block ?_ | refine aw_region ?_ | (refine lst_x rfl rfl ?_; intro K1 hK1; simp only [go_sem, d3, d4, tRows_len]; (first | refine hK1 _ ?_ | refine andk (hK1 _ ?_)); clear hK1 K1) | ((first | refine lst_nil ?_ | refine aw_skip ?_); refine hK _ ?_; clear hK K)))
          ((try refine aw_ret ?_); (try simp only [ThenA, InBl]); refine ret_le (le_pick [] rfl rfl) ?_; (try simp only [List.set_nil, List.take_nil, List.take_zero, List.map_append, go_sem]); ((try refine aw_ret ?_); (try refine lst_nil ?_); (try simp only [ThenA, InBl]); refine ret_mk (by first | exact .inl rfl | exact .inr rfl) rfl ?_; simp only [rtn, resA, resL, resV, Tryz.results10, go_sem, true_and, and_true]))
          rw [hugeB, t12]; rfl
        | false =>
          have d4 : decide ((R.length : Int) > 12) = false := by simp at t12; simp; omega
          (repeat (first | (refine aw_seq ?_; intro K hK) | refine aw_block ?_ | refine aw_region ?_ | (refine lst_x rfl rfl ?_; intro K1 hK1; simp only [go_sem, d3, d4, tRows_len]; (first | refine hK1 _ ?_ | refine andk (hK1 _ ?_)); clear hK1 K1) | ((first | refine lst_nil ?_ | refine aw_skip ?_); refine hK _ ?_; clear hK K)))
          ((try refine aw_ret ?_); (try simp only [ThenA, InBl]); refine ret_le (le_pick [] rfl rfl) ?_; (try simp only [List.set_nil, List.take_nil, List.take_zero, List.map_append, go_sem]); ((try refine aw_ret ?_); (try refine lst_nil ?_); (try simp only [ThenA, InBl]); refine ret_mk (by first | exact .inl rfl | exact .inr rfl) rfl ?_; simp only [rtn, resA, resL, resV, Tryz.results10, go_sem, true_and, and_true]))
          rw [hugeB, t12, t60]; rfl
    · have hl1 : decide ((k : Int) < (R.length : Int)) = false := by simpa using hlt
      have hke : k = R.length := by omega
      have hf := hfull hke
      generalize hW : totA (R.take k) = W at *
      cases t60 : decide (totA R > 60) with
      | true =>
        have d3 : decide ((W : Int) > 60) = true := by simp at t60; simp; omega
        (repeat (first | (refine aw_seq ?_; intro K hK) | refine aw_block ?_ | refine aw_region ?_ | (refine lst_x rfl rfl ?_; intro K1 hK1; simp only [go_sem, hl1, tRows_len]; (first | refine hK1 _ ?_ | refine andk (hK1 _ ?_)); clear hK1 K1) | ((first | refine lst_nil ?_ | refine aw_skip ?_); refine hK _ ?_; clear hK K)))
        (refine aw_cnd ?_; intro X Y hX hY; simp only [go_sem])
        refine hY ?_
        clear hX hY X Y
        (refine aw_exit ?_; simp only [ThenA, InBl, reduceIte, Nat.reduceEqDiff]; (first | refine hK _ ?_ | (clear hK K; refine hK _ ?_) | (clear hK K; clear hK K; refine hK _ ?_) | (clear hK K; clear hK K; clear hK K; refine hK _ ?_) | (clear hK K; clear hK K; clear hK K; clear hK K; refine hK _ ?_) | (clear hK K; clear hK K; clear hK K; clear hK K; clear hK K; refine hK _ ?_)); clear hK K)
        cases t12 : decide (R.length > 12) with
        | true =>
          have d4 : decide ((R.length : Int) > 12) = true := by simp at t12; simp; omega
          (repeat (first | (refine aw_seq ?_; intro K hK) | refine aw_block ?_ | refine aw_region ?_ | (refine lst_x rfl rfl ?_; intro K1 hK1; simp only [go_sem, d3, d4, tRows_len]; (first | refine hK1 _ ?_ | refine andk (hK1 _ ?_)); clear hK1 K1) | ((first | refine lst_nil ?_ | refine aw_skip ?_); refine hK _ ?_; clear hK K)))
          ((try refine aw_ret ?_); (try simp only [ThenA, InBl]); refine ret_le (le_pick [] rfl rfl) ?_; (try simp only [List.set_nil, List.take_nil, List.take_zero, List.map_append, go_sem]); ((try refine aw_ret ?_); (try refine lst_nil ?_); (try simp only [ThenA, InBl]); refine ret_mk (by first | exact .inl rfl | exact .inr rfl) rfl ?_; simp only [rtn, resA, resL, resV, Tryz.results10, go_sem, true_and, and_true]))
          rw [hugeB, t12]; rfl
        | false =>
          have d4 : decide ((R.length : Int) > 12) = false := by simp at t12; simp; omega
          (repeat (first | (refine aw_seq ?_; intro K hK) | refine aw_block ?_ | refine aw_region ?_ | (refine lst_x rfl rfl ?_; intro K1 hK1; simp only [go_sem, d3, d4, tRows_len]; (first | refine hK1 _ ?_ | refine andk (hK1 _ ?_)); clear hK1 K1) | ((first | refine lst_nil ?_ | refine aw_skip ?_); refine hK _ ?_; clear hK K)))
          ((try refine aw_ret ?_); (try simp only [ThenA, InBl]); refine ret_le (le_pick [] rfl rfl) ?_; (try simp only [List.set_nil, List.take_nil, List.take_zero, List.map_append, go_sem]); ((try refine aw_ret ?_); (try refine lst_nil ?_); (try simp only [ThenA, InBl]); refine ret_mk (by first | exact .inl rfl | exact .inr rfl) rfl ?_; simp only [rtn, resA, resL, resV, Tryz.results10, go_sem, true_and, and_true]))
          rw [hugeB, t12, t60]; rfl
      | false =>
        have d3 : decide ((W : Int) > 60) = false := by simp at t60; simp; omega
        (repeat (first | (refine aw_seq ?_; intro K hK) | refine aw_block ?_ | refine aw_region ?_ | (refine lst_x rfl rfl ?_; intro K1 hK1; simp only [go_sem, hl1, tRows_len]; (first | refine hK1 _ ?_ | refine andk (hK1 _ ?_)); clear hK1 K1) | ((first | refine lst_nil ?_ | refine aw_skip ?_); refine hK _ ?_; clear hK K)))
        (refine aw_cnd ?_; intro X Y hX hY; simp only [go_sem])
        refine hY ?_
        clear hX hY X Y
        (refine aw_exit ?_; simp only [ThenA, InBl, reduceIte, Nat.reduceEqDiff]; (first | refine hK _ ?_ | (clear hK K; refine hK _ ?_) | (clear hK K; clear hK K; refine hK _ ?_) | (clear hK K; clear hK K; clear hK K; refine hK _ ?_) | (clear hK K; clear hK K; clear hK K; clear hK K; refine hK _ ?_) | (clear hK K; clear hK K; clear hK K; clear hK K; clear hK K; refine hK _ ?_)); clear hK K)
        cases t12 : decide (R.length > 12) with
        | true =>
          have d4 : decide ((R.length : Int) > 12) = true := by simp at t12; simp; omega
          (repeat (first | (refine aw_seq ?_; intro K hK) | refine aw_block ?_ | refine aw_region ?_ | (refine lst_x rfl rfl ?_; intro K1 hK1; simp only [go_sem, d3, d4, tRows_len]; (first | refine hK1 _ ?_ | refine andk (hK1 _ ?_)); clear hK1 K1) | ((first | refine lst_nil ?_ | refine aw_skip ?_); refine hK _ ?_; clear hK K)))
          ((try refine aw_ret ?_); (try simp only [ThenA, InBl]); refine ret_le (le_pick [] rfl rfl) ?_; (try simp only [List.set_nil, List.take_nil, List.take_zero, List.map_append, go_sem]); ((try refine aw_ret ?_); (try refine lst_nil ?_); (try simp only [ThenA, InBl]); refine ret_mk (by first | exact .inl rfl | exact .inr rfl) rfl ?_; simp only [rtn, resA, resL, resV, Tryz.results10, go_sem, true_and, and_true]))
          rw [hugeB, t12]; rfl
        | false =>
          have d4 : decide ((R.length : Int) > 12) = false := by simp at t12; simp; omega
          (repeat (first | (refine aw_seq ?_; intro K hK) | refine aw_block ?_ | refine aw_region ?_ | (refine lst_x rfl rfl ?_; intro K1 hK1; simp only [go_sem, d3, d4, tRows_len]; (first | refine hK1 _ ?_ | refine andk (hK1 _ ?_)); clear hK1 K1) | ((first | refine lst_nil ?_ | refine aw_skip ?_); refine hK _ ?_; clear hK K)))
          ((try refine aw_ret ?_); (try simp only [ThenA, InBl]); refine ret_le (le_pick [] rfl rfl) ?_; (try simp only [List.set_nil, List.take_nil, List.take_zero, List.map_append, go_sem]); ((try refine aw_ret ?_); (try refine lst_nil ?_); (try simp only [ThenA, InBl]); refine ret_mk (by first | exact .inl rfl | exact .inr rfl) rfl ?_; simp only [rtn, resA, resL, resV, Tryz.results10, go_sem, true_and, and_true]))
          rw [hugeB, t12, t60]; rfl

theorem OkRow.filter {k m : Nat} {r : List Ar} (h : OkRow k m r) (p : Ar → Bool) : OkRow k m (r.filter p) :=
  ⟨List.Pairwise.filter p h.1, Nat.le_trans (List.length_filter_le p r) h.2.1, fun a ha => h.2.2 a (List.mem_filter.1 ha).1⟩
end Go.Proofs.YtknidjnbfnpkdaaGreat
