/- cmp.Compare; small words. -/
import Derived.Test.YthlckclbjknldaaGreatMF
namespace Go.Proofs.YthlckclbjknldaaGreat
set_option linter.unusedVariables false
set_option linter.unusedSimpArgs false
open Go.RowKit
set_option maxRecDepth 100000

theorem isNaN_fc (x : Int) : FC Tryz.prog 139 [.i x] [] (fun r o => o = [] ∧ r = .b false) := by
  refine fc_intro Tryz.func139 rfl (by rw [Tryz.ntmps139]; simp) ?_
  rw [Tryz.ntmps139]
  simp only [enum]
  (repeat (first | (refine aw_seq ?_; intro K hK) | refine aw_block ?_ | refine aw_region ?_ | (refine lst_x rfl rfl ?_; intro K1 hK1; simp only [go_sem, bne_self_eq_false]; (first | refine hK1 _ ?_ | refine andk (hK1 _ ?_)); clear hK1 K1) | ((first | refine lst_nil ?_ | refine aw_skip ?_); refine hK _ ?_; clear hK K)))
  ((try refine aw_ret ?_); (try refine lst_nil ?_); (try simp only [ThenA, InBl]); refine ret_mk (by first | exact .inl rfl | exact .inr rfl) rfl ?_; simp only [rtn, resA, resL, resV, Tryz.results139, go_sem])
def cmpI (a b : Int) : Int := if a < b then -1 else if a > b then 1 else 0
theorem cmp_fc (x y : Int) : FC Tryz.prog 101 [.i x, .i y] [] (fun r o => o = [] ∧ r = .i (cmpI x y)) := by
  refine fc_intro Tryz.func101 rfl (by rw [Tryz.ntmps101]; simp) ?_
  rw [Tryz.ntmps101]
  simp only [enum]
  (repeat (first | (refine aw_seq ?_; intro K hK) | refine aw_block ?_ | refine aw_region ?_ | (refine lst_x rfl rfl ?_; intro K1 hK1; simp only [go_sem]; (first | refine hK1 _ ?_ | refine andk (hK1 _ ?_)); clear hK1 K1) | ((first | refine lst_nil ?_ | refine aw_skip ?_); refine hK _ ?_; clear hK K)))
  (refine lst_cons rfl ?_; intro K1 hK1; refine (stp_call0 (ids := []) (isNaN_fc x) rfl rfl (by simp only [go_sem]) (by kernel_rfl) (by (simp only [List.append_nil, go_sem]) <;> rfl) ?_).stp)
  rintro _ _ ⟨rfl, rfl⟩
  (simp only [aInts, aSets, List.append_nil, List.nil_append, List.length_map, go_sem]; refine hK1 _ ?_; clear hK1 K1)
  (repeat (first | (refine aw_seq ?_; intro K hK) | refine aw_block ?_ | refine aw_region ?_ | (refine lst_x rfl rfl ?_; intro K1 hK1; simp only [go_sem]; (first | refine hK1 _ ?_ | refine andk (hK1 _ ?_)); clear hK1 K1) | ((first | refine lst_nil ?_ | refine aw_skip ?_); refine hK _ ?_; clear hK K)))
  (refine lst_cons rfl ?_; intro K1 hK1; refine (stp_call0 (ids := []) (isNaN_fc y) rfl rfl (by simp only [go_sem]) (by kernel_rfl) (by (simp only [List.append_nil, go_sem]) <;> rfl) ?_).stp)
  rintro _ _ ⟨rfl, rfl⟩
  (simp only [aInts, aSets, List.append_nil, List.nil_append, List.length_map, go_sem]; refine hK1 _ ?_; clear hK1 K1)
  (repeat (first | (refine aw_seq ?_; intro K hK) | refine aw_block ?_ | refine aw_region ?_ | (refine lst_x rfl rfl ?_; intro K1 hK1; simp only [go_sem]; (first | refine hK1 _ ?_ | refine andk (hK1 _ ?_)); clear hK1 K1) | ((first | refine lst_nil ?_ | refine aw_skip ?_); refine hK _ ?_; clear hK K)))
  (refine aw_cnd ?_; intro X Y hX hY; simp only [go_sem])
  refine hY ?_; clear hX hY X Y
  (repeat (first | (refine aw_seq ?_; intro K hK) | refine aw_block ?_ | refine aw_region ?_ | (refine lst_x rfl rfl ?_; intro K1 hK1; simp only [go_sem]; (first | refine hK1 _ ?_ | refine andk (hK1 _ ?_)); clear hK1 K1) | ((first | refine lst_nil ?_ | refine aw_skip ?_); refine hK _ ?_; clear hK K)))
  (refine aw_cnd ?_; intro X Y hX hY; simp only [go_sem])
  refine hY ?_; clear hX hY X Y
  (repeat (first | (refine aw_seq ?_; intro K hK) | refine aw_block ?_ | refine aw_region ?_ | (refine lst_x rfl rfl ?_; intro K1 hK1; simp only [go_sem]; (first | refine hK1 _ ?_ | refine andk (hK1 _ ?_)); clear hK1 K1) | ((first | refine lst_nil ?_ | refine aw_skip ?_); refine hK _ ?_; clear hK K)))
  (refine aw_cnd ?_; intro X Y hX hY; simp only [go_sem])
  refine ⟨fun h => hX ?_, fun h => hY ?_⟩
  · clear hX hY X Y
    (repeat (first | (refine aw_seq ?_; intro K hK) | refine aw_block ?_ | refine aw_region ?_ | (refine lst_x rfl rfl ?_; intro K1 hK1; simp only [go_sem]; (first | refine hK1 _ ?_ | refine andk (hK1 _ ?_)); clear hK1 K1) | ((first | refine lst_nil ?_ | refine aw_skip ?_); refine hK _ ?_; clear hK K)))
    ((try refine aw_ret ?_); (try refine lst_nil ?_); (try simp only [ThenA, InBl]); refine ret_mk (by first | exact .inl rfl | exact .inr rfl) rfl ?_; simp only [rtn, resA, resL, resV, Tryz.results101, go_sem])
    have : x < y := by simpa using h
    simp [cmpI, this]
  · clear hX hY X Y
    have h1 : ¬ x < y := by simpa using h
    clear h
    (repeat (first | (refine aw_seq ?_; intro K hK) | refine aw_block ?_ | refine aw_region ?_ | (refine lst_x rfl rfl ?_; intro K1 hK1; simp only [go_sem]; (first | refine hK1 _ ?_ | refine andk (hK1 _ ?_)); clear hK1 K1) | ((first | refine lst_nil ?_ | refine aw_skip ?_); refine hK _ ?_; clear hK K)))
    (refine aw_cnd ?_; intro X Y hX hY; simp only [go_sem])
    refine ⟨fun h => hX ?_, fun h => hY ?_⟩
    · clear hX hY X Y
      (repeat (first | (refine aw_seq ?_; intro K hK) | refine aw_block ?_ | refine aw_region ?_ | (refine lst_x rfl rfl ?_; intro K1 hK1; simp only [go_sem]; (first | refine hK1 _ ?_ | refine andk (hK1 _ ?_)); clear hK1 K1) | ((first | refine lst_nil ?_ | refine aw_skip ?_); refine hK _ ?_; clear hK K)))
      ((try refine aw_ret ?_); (try refine lst_nil ?_); (try simp only [ThenA, InBl]); refine ret_mk (by first | exact .inl rfl | exact .inr rfl) rfl ?_; simp only [rtn, resA, resL, resV, Tryz.results101, go_sem])
      have : y < x := by simpa using h
      simp [cmpI, this, h1]
    · clear hX hY X Y
      (repeat (first | (refine aw_seq ?_; intro K hK) | refine aw_block ?_ | refine aw_region ?_ | (refine lst_x rfl rfl ?_; intro K1 hK1; simp only [go_sem]; (first | refine hK1 _ ?_ | refine andk (hK1 _ ?_)); clear hK1 K1) | ((first | refine lst_nil ?_ | refine aw_skip ?_); refine hK _ ?_; clear hK K)))
      ((try refine aw_ret ?_); (try refine lst_nil ?_); (try simp only [ThenA, InBl]); refine ret_mk (by first | exact .inl rfl | exact .inr rfl) rfl ?_; simp only [rtn, resA, resL, resV, Tryz.results101, go_sem])
      have : ¬ y < x := by simpa using h
      simp [cmpI, this, h1]
theorem drop_get {α : Type} {xs : List α} {k : Nat} (h : k < xs.length) : xs.drop k = xs[k] :: xs.drop (k + 1) := List.drop_eq_getElem_cons h
theorem lst_le {P : Program} {ops : Array Oper} {l : List Oper} {st t : ST} {K : ST → Prop} (h : Le st t) (k : Lst P ops l t K) : Lst P ops l st K := fun M0 w0 a w Q hR hN => k M0 w0 a w Q (h M0 w0 a w hR) hN
end Go.Proofs.YthlckclbjknldaaGreat
