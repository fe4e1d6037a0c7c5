/- A step, spoiled. -/
import Derived.Test.YthlckclbjknldaaGreatG16
namespace Go.Proofs.YthlckclbjknldaaGreat
set_option linter.unusedVariables false
set_option linter.unusedSimpArgs false
open Go.RowKit
set_option maxRecDepth 100000

/-- sizes of a step -/
def Cstep.Sz (x : Cstep) : Prop := x.s.length ≤ 4 ∧ x.m.length ≤ 3 ∧ x.o.length ≤ 3 ∧ x.R.length ≤ 3 ∧ ∀ r ∈ x.R, r.length ≤ 3
theorem orderL_len : ∀ o ∈ orderL, o.length ≤ 3 := by decide
theorem badOrdL_len : ∀ o ∈ badOrdL, o.length ≤ 3 := by decide
theorem Cstep.Ok.sz {x : Cstep} (h : x.Ok) : x.Sz := by
  obtain ⟨_, _, h1, h2, _, h3, h4, h5⟩ := h
  exact ⟨h1.2.1, h2.1, orderL_len _ h3, h5, fun r hr => (h4.2 r hr).2.1⟩

theorem spst_fc (T : List Int) (hT : TpOk T) (a : Nat) (x : Cstep) (hx : x.Sz) (ha : a ≤ 1000000) :
    FC Tryz.prog 12 [.a (.c (.p 0 0)), x.av] [tape T a] (fun r o => ∃ (a' : Nat) (y : Cstep), o = [tape T a', .r ⟨32, 5, false, y.cells⟩] ∧ r = y.av ∧ a' ≤ a + 2 ∧ y.Sz) := by
  refine fc_intro Tryz.func12 rfl (by rw [Tryz.ntmps12]; simp) ?_
  rw [Tryz.ntmps12]
  obtain ⟨z1, z2, z3, z4, z5⟩ := hx
  simp only [enum, tape, Cstep.av, Cstep.cells]
  (repeat (first | (refine aw_seq ?_; intro K hK) | refine aw_block ?_ | refine aw_region ?_ | (refine lst_x rfl rfl ?_; intro K1 hK1; simp only [go_sem, List.set_cons_zero, List.set_cons_succ, C.pl, C.one, List.all_cons, List.all_nil, Bool.and_true, List.take_succ_cons, List.take_zero, List.drop_zero]; (first | refine hK1 _ ?_ | refine andk (hK1 _ ?_)); clear hK1 K1) | ((first | refine lst_nil ?_ | refine aw_skip ?_); refine hK _ ?_; clear hK K)))
  (refine lst_cons rfl ?_; intro K1 hK1; refine stp_callσ (ids := []) [0] (next_fc T a 6 hT (by omega) (by omega)) rfl rfl (by simp only [go_sem]) (by first | assumption | kernel_rfl) rfl rfl (by (simp only [List.map_append, List.append_nil, go_sem]) <;> rfl) (by (simp only [pkh, tape, go_sem]) <;> rfl) ?_ ?_)
  · rintro _ _ ⟨rfl, v, rfl, _⟩ <;> rfl
  rintro _ _ ⟨rfl, v, rfl, hv⟩
  (simp only [aInts, aSets, tape, oLts, aLts, aArcs, List.append_nil, List.nil_append, List.length_map, go_sem]; refine hK1 _ ?_; clear hK1 K1)
  (repeat (first | (refine aw_seq ?_; intro K hK) | refine aw_block ?_ | refine aw_region ?_ | (refine lst_x rfl rfl ?_; intro K1 hK1; simp only [go_sem, List.set_cons_zero, List.set_cons_succ, C.pl, C.one, List.all_cons, List.all_nil, Bool.and_true, List.take_succ_cons, List.take_zero, List.drop_zero]; (first | refine hK1 _ ?_ | refine andk (hK1 _ ?_)); clear hK1 K1) | ((first | refine lst_nil ?_ | refine aw_skip ?_); refine hK _ ?_; clear hK K)))
  (refine aw_cnd ?_; intro X Y hX hY; simp only [go_sem])
  refine ⟨fun h => hX ?_, fun h => hY ?_⟩
  · clear hX hY X Y
    (repeat (first | (refine aw_seq ?_; intro K hK) | refine aw_block ?_ | refine aw_region ?_ | (refine lst_x rfl rfl ?_; intro K1 hK1; simp only [go_sem, List.set_cons_zero, List.set_cons_succ, C.pl, C.one, List.all_cons, List.all_nil, Bool.and_true, List.take_succ_cons, List.take_zero, List.drop_zero]; (first | refine hK1 _ ?_ | refine andk (hK1 _ ?_)); clear hK1 K1) | ((first | refine lst_nil ?_ | refine aw_skip ?_); refine hK _ ?_; clear hK K)))
    (refine lst_le (le_frz (r := ⟨3, 1, true, cInts [0, 9, -1]⟩) 3 (tInts [0, 9, -1]) rfl (fz_c _) (show 0 < (1 : Nat) by omega)) ?_; simp only [ST.frz, A0.frz, AV.frz, C.frz, Nat.le_refl, List.set_cons_zero, List.set_cons_succ, go_sem, tInts_len, tInts_take, List.length_cons, List.length_nil, List.take_succ_cons, List.take_zero])
    (repeat (first | (refine aw_seq ?_; intro K hK) | refine aw_block ?_ | refine aw_region ?_ | (refine lst_x rfl rfl ?_; intro K1 hK1; simp only [go_sem, List.set_cons_zero, List.set_cons_succ, C.pl, C.one, List.all_cons, List.all_nil, Bool.and_true, List.take_succ_cons, List.take_zero, List.drop_zero]; (first | refine hK1 _ ?_ | refine andk (hK1 _ ?_)); clear hK1 K1) | ((first | refine lst_nil ?_ | refine aw_skip ?_); refine hK _ ?_; clear hK K)))
    (refine lst_cons rfl ?_; intro K1 hK1; refine stp_callσ (ids := []) [0] (next_fc T (a + 1) 3 hT (by omega) (by omega)) rfl rfl (by simp only [go_sem]) (by first | assumption | kernel_rfl) rfl rfl (by (simp only [List.map_append, List.append_nil, go_sem]) <;> rfl) (by (simp only [pkh, tape, go_sem]) <;> rfl) ?_ ?_)
    · rintro _ _ ⟨rfl, v, rfl, _⟩ <;> rfl
    rintro _ _ ⟨rfl, u, rfl, hu⟩
    (simp only [aInts, aSets, tape, oLts, aLts, aArcs, List.append_nil, List.nil_append, List.length_map, go_sem]; refine hK1 _ ?_; clear hK1 K1)
    have hu2 : u < [(0 : Int), 9, -1].length := by simp; omega
    (repeat (first | (refine aw_seq ?_; intro K hK) | refine aw_block ?_ | refine aw_region ?_ | (refine lst_x rfl rfl ?_; intro K1 hK1; simp only [go_sem, tInts_len, tInts_get (List.getElem?_eq_getElem hu2)]; (first | refine hK1 _ ?_ | refine andk (hK1 _ ?_)); clear hK1 K1) | ((first | refine lst_nil ?_ | refine aw_skip ?_); refine hK _ ?_; clear hK K)))
    (repeat (first | (refine aw_seq ?_; intro K hK) | refine aw_block ?_ | refine aw_region ?_ | (refine lst_x rfl rfl ?_; intro K1 hK1; simp only [go_sem, List.set_cons_zero, List.set_cons_succ, C.pl, C.one, List.all_cons, List.all_nil, Bool.and_true, List.take_succ_cons, List.take_zero, List.drop_zero]; (first | refine hK1 _ ?_ | refine andk (hK1 _ ?_)); clear hK1 K1) | ((first | refine lst_nil ?_ | refine aw_skip ?_); refine hK _ ?_; clear hK K)))
    (try refine aw_ret ?_)
    (try simp only [ThenA, InBl])
    refine ret_le (le_pick [0, 2] rfl rfl) ?_
    (try simp only [List.set_nil, List.take_nil, List.take_zero, List.map_append, go_sem])
    ((try refine aw_ret ?_); (try refine lst_nil ?_); (try simp only [ThenA, InBl]); refine ret_mk (by first | exact .inl rfl | exact .inr rfl) rfl ?_; simp only [rtn, resA, resL, resV, Tryz.results12, go_sem, true_and, and_true, C.pl, List.all_cons, List.all_nil, Bool.and_true, List.take_succ_cons, List.take_zero, List.drop_zero])
    exact ⟨_, ⟨_, x.s, x.m, x.o, x.R⟩, rfl, rfl, by omega, z1, z2, z3, z4, z5⟩
  · clear hX hY X Y
    (repeat (first | (refine aw_seq ?_; intro K hK) | refine aw_block ?_ | refine aw_region ?_ | (refine lst_x rfl rfl ?_; intro K1 hK1; simp only [go_sem, List.set_cons_zero, List.set_cons_succ, C.pl, C.one, List.all_cons, List.all_nil, Bool.and_true, List.take_succ_cons, List.take_zero, List.drop_zero]; (first | refine hK1 _ ?_ | refine andk (hK1 _ ?_)); clear hK1 K1) | ((first | refine lst_nil ?_ | refine aw_skip ?_); refine hK _ ?_; clear hK K)))
    (refine aw_cnd ?_; intro X Y hX hY; simp only [go_sem])
    refine ⟨fun h => hX ?_, fun h => hY ?_⟩
    · clear hX hY X Y
      (repeat (first | (refine aw_seq ?_; intro K hK) | refine aw_block ?_ | refine aw_region ?_ | (refine lst_x rfl rfl ?_; intro K1 hK1; simp only [go_sem, List.set_cons_zero, List.set_cons_succ, C.pl, C.one, List.all_cons, List.all_nil, Bool.and_true, List.take_succ_cons, List.take_zero, List.drop_zero]; (first | refine hK1 _ ?_ | refine andk (hK1 _ ?_)); clear hK1 K1) | ((first | refine lst_nil ?_ | refine aw_skip ?_); refine hK _ ?_; clear hK K)))
      (try refine aw_ret ?_)
      (try simp only [ThenA, InBl])
      refine ret_le (le_sink (r := ⟨3, 1, true, cInts [3, 2]⟩) (ts := tInts [3, 2]) 2 1 3 2 (by decide) rfl rfl rfl rfl (show 0 < 1 by omega) rfl (fz_c [3, 2])) ?_
      refine ret_le (le_ot 2 rfl) ?_
      simp only [nbTm, AV.nb, A0.nb, C.nb, otC, List.map_cons, List.map_nil, List.contains_cons, List.contains_nil, List.set_cons_zero, List.set_cons_succ, go_sem]
      refine ret_le (le_pick [0, 2] rfl rfl) ?_
      (try simp only [List.set_nil, List.take_nil, List.take_zero, List.map_append, go_sem])
      ((try refine aw_ret ?_); (try refine lst_nil ?_); (try simp only [ThenA, InBl]); refine ret_mk (by first | exact .inl rfl | exact .inr rfl) rfl ?_; simp only [rtn, resA, resL, resV, Tryz.results12, go_sem, true_and, and_true, C.pl, List.all_cons, List.all_nil, Bool.and_true, List.take_succ_cons, List.take_zero, List.drop_zero])
      exact ⟨_, ⟨x.k, [3, 2], x.m, x.o, x.R⟩, rfl, rfl, by omega, by simp, z2, z3, z4, z5⟩
    · clear hX hY X Y
      (repeat (first | (refine aw_seq ?_; intro K hK) | refine aw_block ?_ | refine aw_region ?_ | (refine lst_x rfl rfl ?_; intro K1 hK1; simp only [go_sem, List.set_cons_zero, List.set_cons_succ, C.pl, C.one, List.all_cons, List.all_nil, Bool.and_true, List.take_succ_cons, List.take_zero, List.drop_zero]; (first | refine hK1 _ ?_ | refine andk (hK1 _ ?_)); clear hK1 K1) | ((first | refine lst_nil ?_ | refine aw_skip ?_); refine hK _ ?_; clear hK K)))
      (refine aw_cnd ?_; intro X Y hX hY; simp only [go_sem])
      refine ⟨fun h => hX ?_, fun h => hY ?_⟩
      · clear hX hY X Y
        (repeat (first | (refine aw_seq ?_; intro K hK) | refine aw_block ?_ | refine aw_region ?_ | (refine lst_x rfl rfl ?_; intro K1 hK1; simp only [go_sem, List.set_cons_zero, List.set_cons_succ, C.pl, C.one, List.all_cons, List.all_nil, Bool.and_true, List.take_succ_cons, List.take_zero, List.drop_zero]; (first | refine hK1 _ ?_ | refine andk (hK1 _ ?_)); clear hK1 K1) | ((first | refine lst_nil ?_ | refine aw_skip ?_); refine hK _ ?_; clear hK K)))
        (try refine aw_ret ?_)
        (try simp only [ThenA, InBl])
        refine ret_le (le_sink (r := ⟨40, 2, true, cArcs [(2, 1)]⟩) (ts := tArcs [(2, 1)]) 4 0 3 1 (by decide) rfl rfl rfl rfl (show 0 < 2 by omega) rfl (fz_ca [(2, 1)])) ?_
        refine ret_le (le_ot 4 rfl) ?_
        simp only [nbTm, AV.nb, A0.nb, C.nb, otC, List.map_cons, List.map_nil, List.contains_cons, List.contains_nil, List.set_cons_zero, List.set_cons_succ, go_sem]
        refine ret_le (le_sink (r := ⟨29, 1, true, cRows [[(2, 1)]]⟩) (ts := tRows [[(2, 1)]]) 2 4 4 1 (by decide) rfl rfl rfl rfl (show 0 < 1 by omega) rfl (fz_cr [[(2, 1)]])) ?_
        refine ret_le (le_ot 2 rfl) ?_
        simp only [nbTm, AV.nb, A0.nb, C.nb, otC, List.map_cons, List.map_nil, List.contains_cons, List.contains_nil, List.set_cons_zero, List.set_cons_succ, go_sem]
        refine ret_le (le_pick [0, 2] rfl rfl) ?_
        (try simp only [List.set_nil, List.take_nil, List.take_zero, List.map_append, go_sem])
        ((try refine aw_ret ?_); (try refine lst_nil ?_); (try simp only [ThenA, InBl]); refine ret_mk (by first | exact .inl rfl | exact .inr rfl) rfl ?_; simp only [rtn, resA, resL, resV, Tryz.results12, go_sem, true_and, and_true, C.pl, List.all_cons, List.all_nil, Bool.and_true, List.take_succ_cons, List.take_zero, List.drop_zero])
        exact ⟨_, ⟨x.k, x.s, x.m, x.o, [[(2, 1)]]⟩, rfl, rfl, by omega, z1, z2, z3, by simp, by simp⟩
      · clear hX hY X Y
        (repeat (first | (refine aw_seq ?_; intro K hK) | refine aw_block ?_ | refine aw_region ?_ | (refine lst_x rfl rfl ?_; intro K1 hK1; simp only [go_sem, List.set_cons_zero, List.set_cons_succ, C.pl, C.one, List.all_cons, List.all_nil, Bool.and_true, List.take_succ_cons, List.take_zero, List.drop_zero]; (first | refine hK1 _ ?_ | refine andk (hK1 _ ?_)); clear hK1 K1) | ((first | refine lst_nil ?_ | refine aw_skip ?_); refine hK _ ?_; clear hK K)))
        (refine aw_cnd ?_; intro X Y hX hY; simp only [go_sem])
        refine ⟨fun h => hX ?_, fun h => hY ?_⟩
        · clear hX hY X Y
          (repeat (first | (refine aw_seq ?_; intro K hK) | refine aw_block ?_ | refine aw_region ?_ | (refine lst_x rfl rfl ?_; intro K1 hK1; simp only [go_sem, List.set_cons_zero, List.set_cons_succ, C.pl, C.one, List.all_cons, List.all_nil, Bool.and_true, List.take_succ_cons, List.take_zero, List.drop_zero]; (first | refine hK1 _ ?_ | refine andk (hK1 _ ?_)); clear hK1 K1) | ((first | refine lst_nil ?_ | refine aw_skip ?_); refine hK _ ?_; clear hK K)))
          (try refine aw_ret ?_)
          (try simp only [ThenA, InBl])
          refine ret_le (le_sink (r := ⟨40, 2, true, cArcs [(1, 2)]⟩) (ts := tArcs [(1, 2)]) 2 2 3 1 (by decide) rfl rfl rfl rfl (show 0 < 2 by omega) rfl (fz_ca [(1, 2)])) ?_
          refine ret_le (le_ot 2 rfl) ?_
          simp only [nbTm, AV.nb, A0.nb, C.nb, otC, List.map_cons, List.map_nil, List.contains_cons, List.contains_nil, List.set_cons_zero, List.set_cons_succ, go_sem]
          refine ret_le (le_pick [0, 2] rfl rfl) ?_
          (try simp only [List.set_nil, List.take_nil, List.take_zero, List.map_append, go_sem])
          ((try refine aw_ret ?_); (try refine lst_nil ?_); (try simp only [ThenA, InBl]); refine ret_mk (by first | exact .inl rfl | exact .inr rfl) rfl ?_; simp only [rtn, resA, resL, resV, Tryz.results12, go_sem, true_and, and_true, C.pl, List.all_cons, List.all_nil, Bool.and_true, List.take_succ_cons, List.take_zero, List.drop_zero])
          exact ⟨_, ⟨x.k, x.s, [(1, 2)], x.o, x.R⟩, rfl, rfl, by omega, z1, by simp, z3, z4, z5⟩
        · clear hX hY X Y
          (repeat (first | (refine aw_seq ?_; intro K hK) | refine aw_block ?_ | refine aw_region ?_ | (refine lst_x rfl rfl ?_; intro K1 hK1; simp only [go_sem, List.set_cons_zero, List.set_cons_succ, C.pl, C.one, List.all_cons, List.all_nil, Bool.and_true, List.take_succ_cons, List.take_zero, List.drop_zero]; (first | refine hK1 _ ?_ | refine andk (hK1 _ ?_)); clear hK1 K1) | ((first | refine lst_nil ?_ | refine aw_skip ?_); refine hK _ ?_; clear hK K)))
          (refine aw_cnd ?_; intro X Y hX hY; simp only [go_sem])
          refine ⟨fun h => hX ?_, fun h => hY ?_⟩
          · clear hX hY X Y
            (repeat (first | (refine aw_seq ?_; intro K hK) | refine aw_block ?_ | refine aw_region ?_ | (refine lst_x rfl rfl ?_; intro K1 hK1; simp only [go_sem, List.set_cons_zero, List.set_cons_succ, C.pl, C.one, List.all_cons, List.all_nil, Bool.and_true, List.take_succ_cons, List.take_zero, List.drop_zero]; (first | refine hK1 _ ?_ | refine andk (hK1 _ ?_)); clear hK1 K1) | ((first | refine lst_nil ?_ | refine aw_skip ?_); refine hK _ ?_; clear hK K)))
            (refine lst_cons rfl ?_; intro K1 hK1; refine stp_callσ (ids := []) [0] (badOrd_fc T hT (a + 1) (by omega)) rfl rfl (by simp only [go_sem]) (by first | assumption | kernel_rfl) rfl rfl (by (simp only [List.map_append, List.append_nil, go_sem]) <;> rfl) (by (simp only [pkh, tape, go_sem]) <;> rfl) ?_ ?_)
            · rintro _ _ ⟨rfl, _, _, rfl⟩ <;> rfl
            rintro _ _ ⟨rfl, L, hL, rfl⟩
            (simp only [aInts, aSets, tape, oLts, aLts, aArcs, List.append_nil, List.nil_append, List.length_map, go_sem]; refine hK1 _ ?_; clear hK1 K1)
            (repeat (first | (refine aw_seq ?_; intro K hK) | refine aw_block ?_ | refine aw_region ?_ | (refine lst_x rfl rfl ?_; intro K1 hK1; simp only [go_sem, List.set_cons_zero, List.set_cons_succ, C.pl, C.one, List.all_cons, List.all_nil, Bool.and_true, List.take_succ_cons, List.take_zero, List.drop_zero]; (first | refine hK1 _ ?_ | refine andk (hK1 _ ?_)); clear hK1 K1) | ((first | refine lst_nil ?_ | refine aw_skip ?_); refine hK _ ?_; clear hK K)))
            (try refine aw_ret ?_)
            (try simp only [ThenA, InBl])
            refine ret_le (le_pick [0, 2] rfl rfl) ?_
            (try simp only [List.set_nil, List.take_nil, List.take_zero, List.map_append, go_sem])
            ((try refine aw_ret ?_); (try refine lst_nil ?_); (try simp only [ThenA, InBl]); refine ret_mk (by first | exact .inl rfl | exact .inr rfl) rfl ?_; simp only [rtn, resA, resL, resV, Tryz.results12, go_sem, true_and, and_true, C.pl, List.all_cons, List.all_nil, Bool.and_true, List.take_succ_cons, List.take_zero, List.drop_zero])
            exact ⟨_, ⟨x.k, x.s, x.m, L, x.R⟩, rfl, rfl, by omega, z1, z2, badOrdL_len _ hL, z4, z5⟩
          · clear hX hY X Y
            (repeat (first | (refine aw_seq ?_; intro K hK) | refine aw_block ?_ | refine aw_region ?_ | (refine lst_x rfl rfl ?_; intro K1 hK1; simp only [go_sem, List.set_cons_zero, List.set_cons_succ, C.pl, C.one, List.all_cons, List.all_nil, Bool.and_true, List.take_succ_cons, List.take_zero, List.drop_zero]; (first | refine hK1 _ ?_ | refine andk (hK1 _ ?_)); clear hK1 K1) | ((first | refine lst_nil ?_ | refine aw_skip ?_); refine hK _ ?_; clear hK K)))
            (try refine aw_ret ?_)
            (try simp only [ThenA, InBl])
            refine ret_le (le_sink (r := ⟨3, 1, true, cInts [1]⟩) (ts := tInts [1]) 2 1 3 1 (by decide) rfl rfl rfl rfl (show 0 < 1 by omega) rfl (fz_c [1])) ?_
            refine ret_le (le_ot 2 rfl) ?_
            simp only [nbTm, AV.nb, A0.nb, C.nb, otC, List.map_cons, List.map_nil, List.contains_cons, List.contains_nil, List.set_cons_zero, List.set_cons_succ, go_sem]
            refine ret_le (le_pick [0, 2] rfl rfl) ?_
            (try simp only [List.set_nil, List.take_nil, List.take_zero, List.map_append, go_sem])
            ((try refine aw_ret ?_); (try refine lst_nil ?_); (try simp only [ThenA, InBl]); refine ret_mk (by first | exact .inl rfl | exact .inr rfl) rfl ?_; simp only [rtn, resA, resL, resV, Tryz.results12, go_sem, true_and, and_true, C.pl, List.all_cons, List.all_nil, Bool.and_true, List.take_succ_cons, List.take_zero, List.drop_zero])
            exact ⟨_, ⟨x.k, [1], x.m, x.o, x.R⟩, rfl, rfl, by omega, by simp, z2, z3, z4, z5⟩
end Go.Proofs.YthlckclbjknldaaGreat
