/- cmp.Compare, slices.Compare, slices.Equal, diamond.subset. slices.CompactFunc at [][]int with slices.Equal. -/
import Derived.Test.YtfjfllpcflddmaaGreatMF
namespace Go.Proofs.YtfjfllpcflddmaaGreat
set_option linter.unusedVariables false
set_option linter.unusedSimpArgs false
open Go.RowKit
set_option maxRecDepth 100000

theorem isNaN_fc (x : Int) : FC Tryz.prog 224 [.i x] [] (fun r o => o = [] ∧ r = .b false) := by
  refine fc_intro Tryz.func224 rfl (by rw [Tryz.ntmps224]; simp) ?_
  rw [Tryz.ntmps224]
  simp only [enum]
  (repeat (first | (refine aw_seq ?_; intro K hK) | refine aw_block ?_ | refine aw_region ?_ | (refine lst_x rfl rfl ?_; intro K1 hK1; simp only [undef, evE, dSlice, dFunc, evT, reduceIte, reduceCtorEq, Nat.reduceEqDiff, Nat.reduceAdd, Nat.reduceMul, Nat.reduceSub, Nat.reduceDiv, Nat.reduceLT, Nat.reduceLeDiff, Nat.reduceBEq, Nat.reduceBNe, List.reduceReplicate, ty0, ty3, ty4, ty22, ty36, ty81, ty160, ty224, bne_self_eq_false]; first | (refine hK1 _ ?_; clear hK1 K1) | (refine ⟨by first | omega | (simp; done) | (simp; omega), hK1 _ ?_⟩; clear hK1 K1)) | ((first | refine lst_nil ?_ | refine aw_skip ?_); refine hK _ ?_; clear hK K)))
  ((try refine aw_ret ?_); (try refine lst_nil ?_); (try simp only [ThenA, InBl]); refine ret_mk (by first | exact .inl rfl | exact .inr rfl) rfl ?_; simp only [rtn, resA, resL, resV, Tryz.results224, evE, dSlice, dFunc, evT, reduceIte, reduceCtorEq, Nat.reduceEqDiff, Nat.reduceAdd, Nat.reduceMul, Nat.reduceSub, Nat.reduceDiv, Nat.reduceLT, Nat.reduceLeDiff, Nat.reduceBEq, Nat.reduceBNe, List.reduceReplicate, ty0, ty3, ty4, ty22, ty36, ty81, ty160, ty224])
def cmpI (a b : Int) : Int := if a < b then -1 else if a > b then 1 else 0
theorem cmp_fc (x y : Int) : FC Tryz.prog 160 [.i x, .i y] [] (fun r o => o = [] ∧ r = .i (cmpI x y)) := by
  refine fc_intro Tryz.func160 rfl (by rw [Tryz.ntmps160]; simp) ?_
  rw [Tryz.ntmps160]
  simp only [enum]
  (repeat (first | (refine aw_seq ?_; intro K hK) | refine aw_block ?_ | refine aw_region ?_ | (refine lst_x rfl rfl ?_; intro K1 hK1; simp only [undef, evE, dSlice, dFunc, evT, reduceIte, reduceCtorEq, Nat.reduceEqDiff, Nat.reduceAdd, Nat.reduceMul, Nat.reduceSub, Nat.reduceDiv, Nat.reduceLT, Nat.reduceLeDiff, Nat.reduceBEq, Nat.reduceBNe, List.reduceReplicate, ty0, ty3, ty4, ty22, ty36, ty81, ty160, ty224]; first | (refine hK1 _ ?_; clear hK1 K1) | (refine ⟨by first | omega | (simp; done) | (simp; omega), hK1 _ ?_⟩; clear hK1 K1)) | ((first | refine lst_nil ?_ | refine aw_skip ?_); refine hK _ ?_; clear hK K)))
  (refine lst_cons rfl ?_; intro K1 hK1; refine (stp_call0 (ids := []) (isNaN_fc x) rfl rfl (by simp only [evE, dSlice, dFunc, evT, reduceIte, reduceCtorEq, Nat.reduceEqDiff, Nat.reduceAdd, Nat.reduceMul, Nat.reduceSub, Nat.reduceDiv, Nat.reduceLT, Nat.reduceLeDiff, Nat.reduceBEq, Nat.reduceBNe, List.reduceReplicate, ty0, ty3, ty4, ty22, ty36, ty81, ty160, ty224]) (by kernel_rfl) (by (simp only [clos, List.append_nil, AV.ren, A0.ren, C.ren, evE, dSlice, dFunc, evT, reduceIte, reduceCtorEq, Nat.reduceEqDiff, Nat.reduceAdd, Nat.reduceMul, Nat.reduceSub, Nat.reduceDiv, Nat.reduceLT, Nat.reduceLeDiff, Nat.reduceBEq, Nat.reduceBNe, List.reduceReplicate, ty0, ty3, ty4, ty22, ty36, ty81, ty160, ty224]) <;> rfl) ?_).stp)
  rintro _ _ ⟨rfl, rfl⟩
  (simp only [evR, aInts, aSets, ST.back, nbTm, setAll, upn, AV.up, A0.up, C.up, Ob.up, AV.nb, A0.nb, C.nb, ofTr_up, List.contains_cons, List.contains_nil, List.getD_cons_zero, List.getD_cons_succ, List.set_cons_zero, List.set_cons_succ, List.append_nil, List.nil_append, List.length_map, evE, dSlice, dFunc, evT, reduceIte, reduceCtorEq, Nat.reduceEqDiff, Nat.reduceAdd, Nat.reduceMul, Nat.reduceSub, Nat.reduceDiv, Nat.reduceLT, Nat.reduceLeDiff, Nat.reduceBEq, Nat.reduceBNe, List.reduceReplicate, ty0, ty3, ty4, ty22, ty36, ty81, ty160, ty224]; refine hK1 _ ?_; clear hK1 K1)
  (repeat (first | (refine aw_seq ?_; intro K hK) | refine aw_block ?_ | refine aw_region ?_ | (refine lst_x rfl rfl ?_; intro K1 hK1; simp only [undef, evE, dSlice, dFunc, evT, reduceIte, reduceCtorEq, Nat.reduceEqDiff, Nat.reduceAdd, Nat.reduceMul, Nat.reduceSub, Nat.reduceDiv, Nat.reduceLT, Nat.reduceLeDiff, Nat.reduceBEq, Nat.reduceBNe, List.reduceReplicate, ty0, ty3, ty4, ty22, ty36, ty81, ty160, ty224]; first | (refine hK1 _ ?_; clear hK1 K1) | (refine ⟨by first | omega | (simp; done) | (simp; omega), hK1 _ ?_⟩; clear hK1 K1)) | ((first | refine lst_nil ?_ | refine aw_skip ?_); refine hK _ ?_; clear hK K)))
  (refine lst_cons rfl ?_; intro K1 hK1; refine (stp_call0 (ids := []) (isNaN_fc y) rfl rfl (by simp only [evE, dSlice, dFunc, evT, reduceIte, reduceCtorEq, Nat.reduceEqDiff, Nat.reduceAdd, Nat.reduceMul, Nat.reduceSub, Nat.reduceDiv, Nat.reduceLT, Nat.reduceLeDiff, Nat.reduceBEq, Nat.reduceBNe, List.reduceReplicate, ty0, ty3, ty4, ty22, ty36, ty81, ty160, ty224]) (by kernel_rfl) (by (simp only [clos, List.append_nil, AV.ren, A0.ren, C.ren, evE, dSlice, dFunc, evT, reduceIte, reduceCtorEq, Nat.reduceEqDiff, Nat.reduceAdd, Nat.reduceMul, Nat.reduceSub, Nat.reduceDiv, Nat.reduceLT, Nat.reduceLeDiff, Nat.reduceBEq, Nat.reduceBNe, List.reduceReplicate, ty0, ty3, ty4, ty22, ty36, ty81, ty160, ty224]) <;> rfl) ?_).stp)
  rintro _ _ ⟨rfl, rfl⟩
  (simp only [evR, aInts, aSets, ST.back, nbTm, setAll, upn, AV.up, A0.up, C.up, Ob.up, AV.nb, A0.nb, C.nb, ofTr_up, List.contains_cons, List.contains_nil, List.getD_cons_zero, List.getD_cons_succ, List.set_cons_zero, List.set_cons_succ, List.append_nil, List.nil_append, List.length_map, evE, dSlice, dFunc, evT, reduceIte, reduceCtorEq, Nat.reduceEqDiff, Nat.reduceAdd, Nat.reduceMul, Nat.reduceSub, Nat.reduceDiv, Nat.reduceLT, Nat.reduceLeDiff, Nat.reduceBEq, Nat.reduceBNe, List.reduceReplicate, ty0, ty3, ty4, ty22, ty36, ty81, ty160, ty224]; refine hK1 _ ?_; clear hK1 K1)
  (repeat (first | (refine aw_seq ?_; intro K hK) | refine aw_block ?_ | refine aw_region ?_ | (refine lst_x rfl rfl ?_; intro K1 hK1; simp only [undef, evE, dSlice, dFunc, evT, reduceIte, reduceCtorEq, Nat.reduceEqDiff, Nat.reduceAdd, Nat.reduceMul, Nat.reduceSub, Nat.reduceDiv, Nat.reduceLT, Nat.reduceLeDiff, Nat.reduceBEq, Nat.reduceBNe, List.reduceReplicate, ty0, ty3, ty4, ty22, ty36, ty81, ty160, ty224]; first | (refine hK1 _ ?_; clear hK1 K1) | (refine ⟨by first | omega | (simp; done) | (simp; omega), hK1 _ ?_⟩; clear hK1 K1)) | ((first | refine lst_nil ?_ | refine aw_skip ?_); refine hK _ ?_; clear hK K)))
  (refine aw_cnd ?_; intro X Y hX hY; simp only [evE, dSlice, dFunc, evT, reduceIte, reduceCtorEq, Nat.reduceEqDiff, Nat.reduceAdd, Nat.reduceMul, Nat.reduceSub, Nat.reduceDiv, Nat.reduceLT, Nat.reduceLeDiff, Nat.reduceBEq, Nat.reduceBNe, List.reduceReplicate, ty0, ty3, ty4, ty22, ty36, ty81, ty160, ty224])
  refine hY ?_; clear hX hY X Y
  (repeat (first | (refine aw_seq ?_; intro K hK) | refine aw_block ?_ | refine aw_region ?_ | (refine lst_x rfl rfl ?_; intro K1 hK1; simp only [undef, evE, dSlice, dFunc, evT, reduceIte, reduceCtorEq, Nat.reduceEqDiff, Nat.reduceAdd, Nat.reduceMul, Nat.reduceSub, Nat.reduceDiv, Nat.reduceLT, Nat.reduceLeDiff, Nat.reduceBEq, Nat.reduceBNe, List.reduceReplicate, ty0, ty3, ty4, ty22, ty36, ty81, ty160, ty224]; first | (refine hK1 _ ?_; clear hK1 K1) | (refine ⟨by first | omega | (simp; done) | (simp; omega), hK1 _ ?_⟩; clear hK1 K1)) | ((first | refine lst_nil ?_ | refine aw_skip ?_); refine hK _ ?_; clear hK K)))
  (refine aw_cnd ?_; intro X Y hX hY; simp only [evE, dSlice, dFunc, evT, reduceIte, reduceCtorEq, Nat.reduceEqDiff, Nat.reduceAdd, Nat.reduceMul, Nat.reduceSub, Nat.reduceDiv, Nat.reduceLT, Nat.reduceLeDiff, Nat.reduceBEq, Nat.reduceBNe, List.reduceReplicate, ty0, ty3, ty4, ty22, ty36, ty81, ty160, ty224])
  refine hY ?_; clear hX hY X Y
  (repeat (first | (refine aw_seq ?_; intro K hK) | refine aw_block ?_ | refine aw_region ?_ | (refine lst_x rfl rfl ?_; intro K1 hK1; simp only [undef, evE, dSlice, dFunc, evT, reduceIte, reduceCtorEq, Nat.reduceEqDiff, Nat.reduceAdd, Nat.reduceMul, Nat.reduceSub, Nat.reduceDiv, Nat.reduceLT, Nat.reduceLeDiff, Nat.reduceBEq, Nat.reduceBNe, List.reduceReplicate, ty0, ty3, ty4, ty22, ty36, ty81, ty160, ty224]; first | (refine hK1 _ ?_; clear hK1 K1) | (refine ⟨by first | omega | (simp; done) | (simp; omega), hK1 _ ?_⟩; clear hK1 K1)) | ((first | refine lst_nil ?_ | refine aw_skip ?_); refine hK _ ?_; clear hK K)))
  (refine aw_cnd ?_; intro X Y hX hY; simp only [evE, dSlice, dFunc, evT, reduceIte, reduceCtorEq, Nat.reduceEqDiff, Nat.reduceAdd, Nat.reduceMul, Nat.reduceSub, Nat.reduceDiv, Nat.reduceLT, Nat.reduceLeDiff, Nat.reduceBEq, Nat.reduceBNe, List.reduceReplicate, ty0, ty3, ty4, ty22, ty36, ty81, ty160, ty224])
  refine ⟨fun h => hX ?_, fun h => hY ?_⟩
  · clear hX hY X Y
    (repeat (first | (refine aw_seq ?_; intro K hK) | refine aw_block ?_ | refine aw_region ?_ | (refine lst_x rfl rfl ?_; intro K1 hK1; simp only [undef, evE, dSlice, dFunc, evT, reduceIte, reduceCtorEq, Nat.reduceEqDiff, Nat.reduceAdd, Nat.reduceMul, Nat.reduceSub, Nat.reduceDiv, Nat.reduceLT, Nat.reduceLeDiff, Nat.reduceBEq, Nat.reduceBNe, List.reduceReplicate, ty0, ty3, ty4, ty22, ty36, ty81, ty160, ty224]; first | (refine hK1 _ ?_; clear hK1 K1) | (refine ⟨by first | omega | (simp; done) | (simp; omega), hK1 _ ?_⟩; clear hK1 K1)) | ((first | refine lst_nil ?_ | refine aw_skip ?_); refine hK _ ?_; clear hK K)))
    ((try refine aw_ret ?_); (try refine lst_nil ?_); (try simp only [ThenA, InBl]); refine ret_mk (by first | exact .inl rfl | exact .inr rfl) rfl ?_; simp only [rtn, resA, resL, resV, Tryz.results160, evE, dSlice, dFunc, evT, reduceIte, reduceCtorEq, Nat.reduceEqDiff, Nat.reduceAdd, Nat.reduceMul, Nat.reduceSub, Nat.reduceDiv, Nat.reduceLT, Nat.reduceLeDiff, Nat.reduceBEq, Nat.reduceBNe, List.reduceReplicate, ty0, ty3, ty4, ty22, ty36, ty81, ty160, ty224])
    have : x < y := by simpa using h
    simp [cmpI, this]
  · clear hX hY X Y
    have h1 : ¬ x < y := by simpa using h
    clear h
    (repeat (first | (refine aw_seq ?_; intro K hK) | refine aw_block ?_ | refine aw_region ?_ | (refine lst_x rfl rfl ?_; intro K1 hK1; simp only [undef, evE, dSlice, dFunc, evT, reduceIte, reduceCtorEq, Nat.reduceEqDiff, Nat.reduceAdd, Nat.reduceMul, Nat.reduceSub, Nat.reduceDiv, Nat.reduceLT, Nat.reduceLeDiff, Nat.reduceBEq, Nat.reduceBNe, List.reduceReplicate, ty0, ty3, ty4, ty22, ty36, ty81, ty160, ty224]; first | (refine hK1 _ ?_; clear hK1 K1) | (refine ⟨by first | omega | (simp; done) | (simp; omega), hK1 _ ?_⟩; clear hK1 K1)) | ((first | refine lst_nil ?_ | refine aw_skip ?_); refine hK _ ?_; clear hK K)))
    (refine aw_cnd ?_; intro X Y hX hY; simp only [evE, dSlice, dFunc, evT, reduceIte, reduceCtorEq, Nat.reduceEqDiff, Nat.reduceAdd, Nat.reduceMul, Nat.reduceSub, Nat.reduceDiv, Nat.reduceLT, Nat.reduceLeDiff, Nat.reduceBEq, Nat.reduceBNe, List.reduceReplicate, ty0, ty3, ty4, ty22, ty36, ty81, ty160, ty224])
    refine ⟨fun h => hX ?_, fun h => hY ?_⟩
    · clear hX hY X Y
      (repeat (first | (refine aw_seq ?_; intro K hK) | refine aw_block ?_ | refine aw_region ?_ | (refine lst_x rfl rfl ?_; intro K1 hK1; simp only [undef, evE, dSlice, dFunc, evT, reduceIte, reduceCtorEq, Nat.reduceEqDiff, Nat.reduceAdd, Nat.reduceMul, Nat.reduceSub, Nat.reduceDiv, Nat.reduceLT, Nat.reduceLeDiff, Nat.reduceBEq, Nat.reduceBNe, List.reduceReplicate, ty0, ty3, ty4, ty22, ty36, ty81, ty160, ty224]; first | (refine hK1 _ ?_; clear hK1 K1) | (refine ⟨by first | omega | (simp; done) | (simp; omega), hK1 _ ?_⟩; clear hK1 K1)) | ((first | refine lst_nil ?_ | refine aw_skip ?_); refine hK _ ?_; clear hK K)))
      ((try refine aw_ret ?_); (try refine lst_nil ?_); (try simp only [ThenA, InBl]); refine ret_mk (by first | exact .inl rfl | exact .inr rfl) rfl ?_; simp only [rtn, resA, resL, resV, Tryz.results160, evE, dSlice, dFunc, evT, reduceIte, reduceCtorEq, Nat.reduceEqDiff, Nat.reduceAdd, Nat.reduceMul, Nat.reduceSub, Nat.reduceDiv, Nat.reduceLT, Nat.reduceLeDiff, Nat.reduceBEq, Nat.reduceBNe, List.reduceReplicate, ty0, ty3, ty4, ty22, ty36, ty81, ty160, ty224])
      have : y < x := by simpa using h
      simp [cmpI, this, h1]
    · clear hX hY X Y
      (repeat (first | (refine aw_seq ?_; intro K hK) | refine aw_block ?_ | refine aw_region ?_ | (refine lst_x rfl rfl ?_; intro K1 hK1; simp only [undef, evE, dSlice, dFunc, evT, reduceIte, reduceCtorEq, Nat.reduceEqDiff, Nat.reduceAdd, Nat.reduceMul, Nat.reduceSub, Nat.reduceDiv, Nat.reduceLT, Nat.reduceLeDiff, Nat.reduceBEq, Nat.reduceBNe, List.reduceReplicate, ty0, ty3, ty4, ty22, ty36, ty81, ty160, ty224]; first | (refine hK1 _ ?_; clear hK1 K1) | (refine ⟨by first | omega | (simp; done) | (simp; omega), hK1 _ ?_⟩; clear hK1 K1)) | ((first | refine lst_nil ?_ | refine aw_skip ?_); refine hK _ ?_; clear hK K)))
      ((try refine aw_ret ?_); (try refine lst_nil ?_); (try simp only [ThenA, InBl]); refine ret_mk (by first | exact .inl rfl | exact .inr rfl) rfl ?_; simp only [rtn, resA, resL, resV, Tryz.results160, evE, dSlice, dFunc, evT, reduceIte, reduceCtorEq, Nat.reduceEqDiff, Nat.reduceAdd, Nat.reduceMul, Nat.reduceSub, Nat.reduceDiv, Nat.reduceLT, Nat.reduceLeDiff, Nat.reduceBEq, Nat.reduceBNe, List.reduceReplicate, ty0, ty3, ty4, ty22, ty36, ty81, ty160, ty224])
      have : ¬ y < x := by simpa using h
      simp [cmpI, this, h1]
def cmpL : List Int → List Int → Int
  | [], [] => 0
  | [], _ :: _ => -1
  | _ :: _, [] => 1
  | a :: r, b :: q => if cmpI a b ≠ 0 then cmpI a b else cmpL r q
theorem drop_get {α : Type} {xs : List α} {k : Nat} (h : k < xs.length) : xs.drop k = xs[k] :: xs.drop (k + 1) := List.drop_eq_getElem_cons h
theorem cmpL_fc (xs ys : List Int) (hn : xs.length ≤ 140737488355328) (hm : ys.length ≤ 140737488355328) : FC Tryz.prog 89 [aInts xs, aInts ys] [] (fun r o => o = [] ∧ r = .i (cmpL xs ys)) := by
  refine fc_intro Tryz.func89 rfl (by rw [Tryz.ntmps89]; simp) ?_
  rw [Tryz.ntmps89]
  simp only [enum, aInts]
  (repeat (first | (refine aw_seq ?_; intro K hK) | refine aw_block ?_ | refine aw_region ?_ | (refine lst_x rfl rfl ?_; intro K1 hK1; simp only [undef, evE, dSlice, dFunc, evT, reduceIte, reduceCtorEq, Nat.reduceEqDiff, Nat.reduceAdd, Nat.reduceMul, Nat.reduceSub, Nat.reduceDiv, Nat.reduceLT, Nat.reduceLeDiff, Nat.reduceBEq, Nat.reduceBNe, List.reduceReplicate, ty0, ty3, ty4, ty22, ty36, ty81, ty160, ty224]; first | (refine hK1 _ ?_; clear hK1 K1) | (refine ⟨by first | omega | (simp; done) | (simp; omega), hK1 _ ?_⟩; clear hK1 K1)) | ((first | refine lst_nil ?_ | refine aw_skip ?_); refine hK _ ?_; clear hK K)))
  refine aw_loop (fun k : Nat => { tm := [(0, .a (.c (.t 1 (tInts xs)))), (1, .a (.c (.t 1 (tInts ys)))), (9, .a (.c (.t 1 (tInts xs)))), (10, .i xs.length), (11, .i k)], hp := [], n := 36, pin := 0 }) (fun k => k ≤ xs.length ∧ k ≤ ys.length ∧ cmpL xs ys = cmpL (xs.drop k) (ys.drop k)) (fun k => xs.length - k) 0 ?_ ?_ ?_
  · exact ⟨by omega, by omega, rfl⟩
  · (refine le_tm ?_; simp only [LeTm, evE, dSlice, dFunc, evT, reduceIte, reduceCtorEq, Nat.reduceEqDiff, Nat.reduceAdd, Nat.reduceMul, Nat.reduceSub, Nat.reduceDiv, Nat.reduceLT, Nat.reduceLeDiff, Nat.reduceBEq, Nat.reduceBNe, List.reduceReplicate, ty0, ty3, ty4, ty22, ty36, ty81, ty160, ty224, tInts_len]; try simp)
  · rintro k ⟨hk, hk2, he⟩ K hK
    (repeat (first | (refine aw_seq ?_; intro K hK) | refine aw_block ?_ | refine aw_region ?_ | (refine lst_x rfl rfl ?_; intro K1 hK1; simp only [undef, evE, dSlice, dFunc, evT, reduceIte, reduceCtorEq, Nat.reduceEqDiff, Nat.reduceAdd, Nat.reduceMul, Nat.reduceSub, Nat.reduceDiv, Nat.reduceLT, Nat.reduceLeDiff, Nat.reduceBEq, Nat.reduceBNe, List.reduceReplicate, ty0, ty3, ty4, ty22, ty36, ty81, ty160, ty224]; first | (refine hK1 _ ?_; clear hK1 K1) | (refine ⟨by first | omega | (simp; done) | (simp; omega), hK1 _ ?_⟩; clear hK1 K1)) | ((first | refine lst_nil ?_ | refine aw_skip ?_); refine hK _ ?_; clear hK K)))
    (refine aw_cnd ?_; intro X Y hX hY; simp only [evE, dSlice, dFunc, evT, reduceIte, reduceCtorEq, Nat.reduceEqDiff, Nat.reduceAdd, Nat.reduceMul, Nat.reduceSub, Nat.reduceDiv, Nat.reduceLT, Nat.reduceLeDiff, Nat.reduceBEq, Nat.reduceBNe, List.reduceReplicate, ty0, ty3, ty4, ty22, ty36, ty81, ty160, ty224])
    refine ⟨fun h => hX ?_, fun h => hY ?_⟩
    · have hlt : k < xs.length := by simpa using h
      clear hX hY X Y h
      rw [drop_get hlt] at he
      (repeat (first | (refine aw_seq ?_; intro K hK) | refine aw_block ?_ | refine aw_region ?_ | (refine lst_x rfl rfl ?_; intro K1 hK1; simp only [undef, evE, dSlice, dFunc, evT, reduceIte, reduceCtorEq, Nat.reduceEqDiff, Nat.reduceAdd, Nat.reduceMul, Nat.reduceSub, Nat.reduceDiv, Nat.reduceLT, Nat.reduceLeDiff, Nat.reduceBEq, Nat.reduceBNe, List.reduceReplicate, ty0, ty3, ty4, ty22, ty36, ty81, ty160, ty224, tInts_len, tInts_get (List.getElem?_eq_getElem hlt)]; first | (refine hK1 _ ?_; clear hK1 K1) | (refine ⟨by first | omega | (simp; done) | (simp; omega), hK1 _ ?_⟩; clear hK1 K1)) | ((first | refine lst_nil ?_ | refine aw_skip ?_); refine hK _ ?_; clear hK K)))
      (refine aw_cnd ?_; intro X Y hX hY; simp only [evE, dSlice, dFunc, evT, reduceIte, reduceCtorEq, Nat.reduceEqDiff, Nat.reduceAdd, Nat.reduceMul, Nat.reduceSub, Nat.reduceDiv, Nat.reduceLT, Nat.reduceLeDiff, Nat.reduceBEq, Nat.reduceBNe, List.reduceReplicate, ty0, ty3, ty4, ty22, ty36, ty81, ty160, ty224])
      refine ⟨fun h => hX ?_, fun h => hY ?_⟩
      · clear hX hY X Y
        (repeat (first | (refine aw_seq ?_; intro K hK) | refine aw_block ?_ | refine aw_region ?_ | (refine lst_x rfl rfl ?_; intro K1 hK1; simp only [undef, evE, dSlice, dFunc, evT, reduceIte, reduceCtorEq, Nat.reduceEqDiff, Nat.reduceAdd, Nat.reduceMul, Nat.reduceSub, Nat.reduceDiv, Nat.reduceLT, Nat.reduceLeDiff, Nat.reduceBEq, Nat.reduceBNe, List.reduceReplicate, ty0, ty3, ty4, ty22, ty36, ty81, ty160, ty224]; first | (refine hK1 _ ?_; clear hK1 K1) | (refine ⟨by first | omega | (simp; done) | (simp; omega), hK1 _ ?_⟩; clear hK1 K1)) | ((first | refine lst_nil ?_ | refine aw_skip ?_); refine hK _ ?_; clear hK K)))
        ((try refine aw_ret ?_); (try refine lst_nil ?_); (try simp only [ThenA, InBl]); refine ret_mk (by first | exact .inl rfl | exact .inr rfl) rfl ?_; simp only [rtn, resA, resL, resV, Tryz.results89, evE, dSlice, dFunc, evT, reduceIte, reduceCtorEq, Nat.reduceEqDiff, Nat.reduceAdd, Nat.reduceMul, Nat.reduceSub, Nat.reduceDiv, Nat.reduceLT, Nat.reduceLeDiff, Nat.reduceBEq, Nat.reduceBNe, List.reduceReplicate, ty0, ty3, ty4, ty22, ty36, ty81, ty160, ty224])
        have : ys.drop k = [] := List.drop_eq_nil_of_le (by simpa using h)
        rw [he, this]
        simp [cmpL]
      · clear hX hY X Y
        have hlt2 : k < ys.length := by simpa using h
        clear h
        rw [drop_get hlt2] at he
        (repeat (first | (refine aw_seq ?_; intro K hK) | refine aw_block ?_ | refine aw_region ?_ | (refine lst_x rfl rfl ?_; intro K1 hK1; simp only [undef, evE, dSlice, dFunc, evT, reduceIte, reduceCtorEq, Nat.reduceEqDiff, Nat.reduceAdd, Nat.reduceMul, Nat.reduceSub, Nat.reduceDiv, Nat.reduceLT, Nat.reduceLeDiff, Nat.reduceBEq, Nat.reduceBNe, List.reduceReplicate, ty0, ty3, ty4, ty22, ty36, ty81, ty160, ty224, tInts_len, tInts_get (List.getElem?_eq_getElem hlt2)]; first | (refine hK1 _ ?_; clear hK1 K1) | (refine ⟨by first | omega | (simp; done) | (simp; omega), hK1 _ ?_⟩; clear hK1 K1)) | ((first | refine lst_nil ?_ | refine aw_skip ?_); refine hK _ ?_; clear hK K)))
        (refine lst_cons rfl ?_; intro K1 hK1; refine (stp_call0 (ids := []) (cmp_fc xs[k] ys[k]) rfl rfl (by simp only [evE, dSlice, dFunc, evT, reduceIte, reduceCtorEq, Nat.reduceEqDiff, Nat.reduceAdd, Nat.reduceMul, Nat.reduceSub, Nat.reduceDiv, Nat.reduceLT, Nat.reduceLeDiff, Nat.reduceBEq, Nat.reduceBNe, List.reduceReplicate, ty0, ty3, ty4, ty22, ty36, ty81, ty160, ty224]) (by kernel_rfl) (by (simp only [clos, List.append_nil, AV.ren, A0.ren, C.ren, evE, dSlice, dFunc, evT, reduceIte, reduceCtorEq, Nat.reduceEqDiff, Nat.reduceAdd, Nat.reduceMul, Nat.reduceSub, Nat.reduceDiv, Nat.reduceLT, Nat.reduceLeDiff, Nat.reduceBEq, Nat.reduceBNe, List.reduceReplicate, ty0, ty3, ty4, ty22, ty36, ty81, ty160, ty224]) <;> rfl) ?_).stp)
        rintro _ _ ⟨rfl, rfl⟩
        (simp only [evR, aInts, aSets, ST.back, nbTm, setAll, upn, AV.up, A0.up, C.up, Ob.up, AV.nb, A0.nb, C.nb, ofTr_up, List.contains_cons, List.contains_nil, List.getD_cons_zero, List.getD_cons_succ, List.set_cons_zero, List.set_cons_succ, List.append_nil, List.nil_append, List.length_map, evE, dSlice, dFunc, evT, reduceIte, reduceCtorEq, Nat.reduceEqDiff, Nat.reduceAdd, Nat.reduceMul, Nat.reduceSub, Nat.reduceDiv, Nat.reduceLT, Nat.reduceLeDiff, Nat.reduceBEq, Nat.reduceBNe, List.reduceReplicate, ty0, ty3, ty4, ty22, ty36, ty81, ty160, ty224]; refine hK1 _ ?_; clear hK1 K1)
        (repeat (first | (refine aw_seq ?_; intro K hK) | refine aw_block ?_ | refine aw_region ?_ | (refine lst_x rfl rfl ?_; intro K1 hK1; simp only [undef, evE, dSlice, dFunc, evT, reduceIte, reduceCtorEq, Nat.reduceEqDiff, Nat.reduceAdd, Nat.reduceMul, Nat.reduceSub, Nat.reduceDiv, Nat.reduceLT, Nat.reduceLeDiff, Nat.reduceBEq, Nat.reduceBNe, List.reduceReplicate, ty0, ty3, ty4, ty22, ty36, ty81, ty160, ty224]; first | (refine hK1 _ ?_; clear hK1 K1) | (refine ⟨by first | omega | (simp; done) | (simp; omega), hK1 _ ?_⟩; clear hK1 K1)) | ((first | refine lst_nil ?_ | refine aw_skip ?_); refine hK _ ?_; clear hK K)))
        (refine aw_cnd ?_; intro X Y hX hY; simp only [evE, dSlice, dFunc, evT, reduceIte, reduceCtorEq, Nat.reduceEqDiff, Nat.reduceAdd, Nat.reduceMul, Nat.reduceSub, Nat.reduceDiv, Nat.reduceLT, Nat.reduceLeDiff, Nat.reduceBEq, Nat.reduceBNe, List.reduceReplicate, ty0, ty3, ty4, ty22, ty36, ty81, ty160, ty224])
        refine ⟨fun h => hX ?_, fun h => hY ?_⟩
        · clear hX hY X Y
          (repeat (first | (refine aw_seq ?_; intro K hK) | refine aw_block ?_ | refine aw_region ?_ | (refine lst_x rfl rfl ?_; intro K1 hK1; simp only [undef, evE, dSlice, dFunc, evT, reduceIte, reduceCtorEq, Nat.reduceEqDiff, Nat.reduceAdd, Nat.reduceMul, Nat.reduceSub, Nat.reduceDiv, Nat.reduceLT, Nat.reduceLeDiff, Nat.reduceBEq, Nat.reduceBNe, List.reduceReplicate, ty0, ty3, ty4, ty22, ty36, ty81, ty160, ty224]; first | (refine hK1 _ ?_; clear hK1 K1) | (refine ⟨by first | omega | (simp; done) | (simp; omega), hK1 _ ?_⟩; clear hK1 K1)) | ((first | refine lst_nil ?_ | refine aw_skip ?_); refine hK _ ?_; clear hK K)))
          ((try refine aw_ret ?_); (try refine lst_nil ?_); (try simp only [ThenA, InBl]); refine ret_mk (by first | exact .inl rfl | exact .inr rfl) rfl ?_; simp only [rtn, resA, resL, resV, Tryz.results89, evE, dSlice, dFunc, evT, reduceIte, reduceCtorEq, Nat.reduceEqDiff, Nat.reduceAdd, Nat.reduceMul, Nat.reduceSub, Nat.reduceDiv, Nat.reduceLT, Nat.reduceLeDiff, Nat.reduceBEq, Nat.reduceBNe, List.reduceReplicate, ty0, ty3, ty4, ty22, ty36, ty81, ty160, ty224])
          have h1 : cmpI xs[k] ys[k] ≠ 0 := by simpa using h
          rw [he]
          simp [cmpL, h1]
        · clear hX hY X Y
          (repeat (first | (refine aw_seq ?_; intro K hK) | refine aw_block ?_ | refine aw_region ?_ | (refine lst_x rfl rfl ?_; intro K1 hK1; simp only [undef, evE, dSlice, dFunc, evT, reduceIte, reduceCtorEq, Nat.reduceEqDiff, Nat.reduceAdd, Nat.reduceMul, Nat.reduceSub, Nat.reduceDiv, Nat.reduceLT, Nat.reduceLeDiff, Nat.reduceBEq, Nat.reduceBNe, List.reduceReplicate, ty0, ty3, ty4, ty22, ty36, ty81, ty160, ty224]; first | (refine hK1 _ ?_; clear hK1 K1) | (refine ⟨by first | omega | (simp; done) | (simp; omega), hK1 _ ?_⟩; clear hK1 K1)) | ((first | refine lst_nil ?_ | refine aw_skip ?_); refine hK _ ?_; clear hK K)))
          ((try refine lst_nil ?_); (try refine aw_skip ?_); try simp only [ThenA])
          refine hK _ (k + 1) ⟨by omega, by omega, ?_⟩ (by omega) ?_
          · have h1 : cmpI xs[k] ys[k] = 0 := by simpa using h
            rw [he]
            simp [cmpL, h1]
          · (refine le_tm ?_; simp only [LeTm, evE, dSlice, dFunc, evT, reduceIte, reduceCtorEq, Nat.reduceEqDiff, Nat.reduceAdd, Nat.reduceMul, Nat.reduceSub, Nat.reduceDiv, Nat.reduceLT, Nat.reduceLeDiff, Nat.reduceBEq, Nat.reduceBNe, List.reduceReplicate, ty0, ty3, ty4, ty22, ty36, ty81, ty160, ty224]; try simp)
    · have hge : k = xs.length := by simp at h; omega
      clear hX hY X Y
      have hd : xs.drop k = [] := List.drop_eq_nil_of_le (by omega)
      rw [hd] at he
      (refine aw_exit ?_; simp only [ThenA, InBl, reduceIte, Nat.reduceEqDiff]; (first | refine hK _ ?_ | (clear hK K; refine hK _ ?_) | (clear hK K; clear hK K; refine hK _ ?_) | (clear hK K; clear hK K; clear hK K; refine hK _ ?_) | (clear hK K; clear hK K; clear hK K; clear hK K; refine hK _ ?_) | (clear hK K; clear hK K; clear hK K; clear hK K; clear hK K; refine hK _ ?_)); clear hK K)
      (repeat (first | (refine aw_seq ?_; intro K hK) | refine aw_block ?_ | refine aw_region ?_ | (refine lst_x rfl rfl ?_; intro K1 hK1; simp only [undef, evE, dSlice, dFunc, evT, reduceIte, reduceCtorEq, Nat.reduceEqDiff, Nat.reduceAdd, Nat.reduceMul, Nat.reduceSub, Nat.reduceDiv, Nat.reduceLT, Nat.reduceLeDiff, Nat.reduceBEq, Nat.reduceBNe, List.reduceReplicate, ty0, ty3, ty4, ty22, ty36, ty81, ty160, ty224, tInts_len]; first | (refine hK1 _ ?_; clear hK1 K1) | (refine ⟨by first | omega | (simp; done) | (simp; omega), hK1 _ ?_⟩; clear hK1 K1)) | ((first | refine lst_nil ?_ | refine aw_skip ?_); refine hK _ ?_; clear hK K)))
      (refine aw_cnd ?_; intro X Y hX hY; simp only [evE, dSlice, dFunc, evT, reduceIte, reduceCtorEq, Nat.reduceEqDiff, Nat.reduceAdd, Nat.reduceMul, Nat.reduceSub, Nat.reduceDiv, Nat.reduceLT, Nat.reduceLeDiff, Nat.reduceBEq, Nat.reduceBNe, List.reduceReplicate, ty0, ty3, ty4, ty22, ty36, ty81, ty160, ty224])
      refine ⟨fun h => hX ?_, fun h => hY ?_⟩
      · clear hX hY X Y
        (repeat (first | (refine aw_seq ?_; intro K hK) | refine aw_block ?_ | refine aw_region ?_ | (refine lst_x rfl rfl ?_; intro K1 hK1; simp only [undef, evE, dSlice, dFunc, evT, reduceIte, reduceCtorEq, Nat.reduceEqDiff, Nat.reduceAdd, Nat.reduceMul, Nat.reduceSub, Nat.reduceDiv, Nat.reduceLT, Nat.reduceLeDiff, Nat.reduceBEq, Nat.reduceBNe, List.reduceReplicate, ty0, ty3, ty4, ty22, ty36, ty81, ty160, ty224]; first | (refine hK1 _ ?_; clear hK1 K1) | (refine ⟨by first | omega | (simp; done) | (simp; omega), hK1 _ ?_⟩; clear hK1 K1)) | ((first | refine lst_nil ?_ | refine aw_skip ?_); refine hK _ ?_; clear hK K)))
        ((try refine aw_ret ?_); (try refine lst_nil ?_); (try simp only [ThenA, InBl]); refine ret_mk (by first | exact .inl rfl | exact .inr rfl) rfl ?_; simp only [rtn, resA, resL, resV, Tryz.results89, evE, dSlice, dFunc, evT, reduceIte, reduceCtorEq, Nat.reduceEqDiff, Nat.reduceAdd, Nat.reduceMul, Nat.reduceSub, Nat.reduceDiv, Nat.reduceLT, Nat.reduceLeDiff, Nat.reduceBEq, Nat.reduceBNe, List.reduceReplicate, ty0, ty3, ty4, ty22, ty36, ty81, ty160, ty224])
        have hlt2 : k < ys.length := by simp at h; omega
        rw [he, drop_get hlt2]
        simp [cmpL]
      · clear hX hY X Y
        (repeat (first | (refine aw_seq ?_; intro K hK) | refine aw_block ?_ | refine aw_region ?_ | (refine lst_x rfl rfl ?_; intro K1 hK1; simp only [undef, evE, dSlice, dFunc, evT, reduceIte, reduceCtorEq, Nat.reduceEqDiff, Nat.reduceAdd, Nat.reduceMul, Nat.reduceSub, Nat.reduceDiv, Nat.reduceLT, Nat.reduceLeDiff, Nat.reduceBEq, Nat.reduceBNe, List.reduceReplicate, ty0, ty3, ty4, ty22, ty36, ty81, ty160, ty224]; first | (refine hK1 _ ?_; clear hK1 K1) | (refine ⟨by first | omega | (simp; done) | (simp; omega), hK1 _ ?_⟩; clear hK1 K1)) | ((first | refine lst_nil ?_ | refine aw_skip ?_); refine hK _ ?_; clear hK K)))
        ((try refine aw_ret ?_); (try refine lst_nil ?_); (try simp only [ThenA, InBl]); refine ret_mk (by first | exact .inl rfl | exact .inr rfl) rfl ?_; simp only [rtn, resA, resL, resV, Tryz.results89, evE, dSlice, dFunc, evT, reduceIte, reduceCtorEq, Nat.reduceEqDiff, Nat.reduceAdd, Nat.reduceMul, Nat.reduceSub, Nat.reduceDiv, Nat.reduceLT, Nat.reduceLeDiff, Nat.reduceBEq, Nat.reduceBNe, List.reduceReplicate, ty0, ty3, ty4, ty22, ty36, ty81, ty160, ty224])
        have : ys.drop k = [] := List.drop_eq_nil_of_le (by simp at h; omega)
        rw [he, this]
        simp [cmpL]
theorem equal_fc (xs ys : List Int) (hn : xs.length ≤ 140737488355328) (hm : ys.length ≤ 140737488355328) : FC Tryz.prog 91 [aInts xs, aInts ys] [] (fun r o => o = [] ∧ r = .b (decide (xs = ys))) := by
  refine fc_intro Tryz.func91 rfl (by rw [Tryz.ntmps91]; simp) ?_
  rw [Tryz.ntmps91]
  simp only [enum, aInts]
  (repeat (first | (refine aw_seq ?_; intro K hK) | refine aw_block ?_ | refine aw_region ?_ | (refine lst_x rfl rfl ?_; intro K1 hK1; simp only [undef, evE, dSlice, dFunc, evT, reduceIte, reduceCtorEq, Nat.reduceEqDiff, Nat.reduceAdd, Nat.reduceMul, Nat.reduceSub, Nat.reduceDiv, Nat.reduceLT, Nat.reduceLeDiff, Nat.reduceBEq, Nat.reduceBNe, List.reduceReplicate, ty0, ty3, ty4, ty22, ty36, ty81, ty160, ty224, tInts_len]; first | (refine hK1 _ ?_; clear hK1 K1) | (refine ⟨by first | omega | (simp; done) | (simp; omega), hK1 _ ?_⟩; clear hK1 K1)) | ((first | refine lst_nil ?_ | refine aw_skip ?_); refine hK _ ?_; clear hK K)))
  (refine aw_cnd ?_; intro X Y hX hY; simp only [evE, dSlice, dFunc, evT, reduceIte, reduceCtorEq, Nat.reduceEqDiff, Nat.reduceAdd, Nat.reduceMul, Nat.reduceSub, Nat.reduceDiv, Nat.reduceLT, Nat.reduceLeDiff, Nat.reduceBEq, Nat.reduceBNe, List.reduceReplicate, ty0, ty3, ty4, ty22, ty36, ty81, ty160, ty224])
  refine ⟨fun h => hX ?_, fun h => hY ?_⟩
  · clear hX hY X Y
    (repeat (first | (refine aw_seq ?_; intro K hK) | refine aw_block ?_ | refine aw_region ?_ | (refine lst_x rfl rfl ?_; intro K1 hK1; simp only [undef, evE, dSlice, dFunc, evT, reduceIte, reduceCtorEq, Nat.reduceEqDiff, Nat.reduceAdd, Nat.reduceMul, Nat.reduceSub, Nat.reduceDiv, Nat.reduceLT, Nat.reduceLeDiff, Nat.reduceBEq, Nat.reduceBNe, List.reduceReplicate, ty0, ty3, ty4, ty22, ty36, ty81, ty160, ty224]; first | (refine hK1 _ ?_; clear hK1 K1) | (refine ⟨by first | omega | (simp; done) | (simp; omega), hK1 _ ?_⟩; clear hK1 K1)) | ((first | refine lst_nil ?_ | refine aw_skip ?_); refine hK _ ?_; clear hK K)))
    ((try refine aw_ret ?_); (try refine lst_nil ?_); (try simp only [ThenA, InBl]); refine ret_mk (by first | exact .inl rfl | exact .inr rfl) rfl ?_; simp only [rtn, resA, resL, resV, Tryz.results91, evE, dSlice, dFunc, evT, reduceIte, reduceCtorEq, Nat.reduceEqDiff, Nat.reduceAdd, Nat.reduceMul, Nat.reduceSub, Nat.reduceDiv, Nat.reduceLT, Nat.reduceLeDiff, Nat.reduceBEq, Nat.reduceBNe, List.reduceReplicate, ty0, ty3, ty4, ty22, ty36, ty81, ty160, ty224])
    have : xs ≠ ys := by rintro rfl; simp at h
    simp [this]
  · clear hX hY X Y
    have hlen : xs.length = ys.length := by simp at h; omega
    clear h
    (repeat (first | (refine aw_seq ?_; intro K hK) | refine aw_block ?_ | refine aw_region ?_ | (refine lst_x rfl rfl ?_; intro K1 hK1; simp only [undef, evE, dSlice, dFunc, evT, reduceIte, reduceCtorEq, Nat.reduceEqDiff, Nat.reduceAdd, Nat.reduceMul, Nat.reduceSub, Nat.reduceDiv, Nat.reduceLT, Nat.reduceLeDiff, Nat.reduceBEq, Nat.reduceBNe, List.reduceReplicate, ty0, ty3, ty4, ty22, ty36, ty81, ty160, ty224]; first | (refine hK1 _ ?_; clear hK1 K1) | (refine ⟨by first | omega | (simp; done) | (simp; omega), hK1 _ ?_⟩; clear hK1 K1)) | ((first | refine lst_nil ?_ | refine aw_skip ?_); refine hK _ ?_; clear hK K)))
    refine aw_loop (fun k : Nat => { tm := [(0, .a (.c (.t 1 (tInts xs)))), (1, .a (.c (.t 1 (tInts ys)))), (12, .i xs.length), (13, .i k)], hp := [], n := 26, pin := 0 }) (fun k => k ≤ xs.length ∧ xs.take k = ys.take k) (fun k => xs.length - k) 0 ?_ ?_ ?_
    · exact ⟨by omega, rfl⟩
    · (refine le_tm ?_; simp only [LeTm, evE, dSlice, dFunc, evT, reduceIte, reduceCtorEq, Nat.reduceEqDiff, Nat.reduceAdd, Nat.reduceMul, Nat.reduceSub, Nat.reduceDiv, Nat.reduceLT, Nat.reduceLeDiff, Nat.reduceBEq, Nat.reduceBNe, List.reduceReplicate, ty0, ty3, ty4, ty22, ty36, ty81, ty160, ty224, tInts_len]; try simp)
    · rintro k ⟨hk, he⟩ K hK
      (repeat (first | (refine aw_seq ?_; intro K hK) | refine aw_block ?_ | refine aw_region ?_ | (refine lst_x rfl rfl ?_; intro K1 hK1; simp only [undef, evE, dSlice, dFunc, evT, reduceIte, reduceCtorEq, Nat.reduceEqDiff, Nat.reduceAdd, Nat.reduceMul, Nat.reduceSub, Nat.reduceDiv, Nat.reduceLT, Nat.reduceLeDiff, Nat.reduceBEq, Nat.reduceBNe, List.reduceReplicate, ty0, ty3, ty4, ty22, ty36, ty81, ty160, ty224]; first | (refine hK1 _ ?_; clear hK1 K1) | (refine ⟨by first | omega | (simp; done) | (simp; omega), hK1 _ ?_⟩; clear hK1 K1)) | ((first | refine lst_nil ?_ | refine aw_skip ?_); refine hK _ ?_; clear hK K)))
      (refine aw_cnd ?_; intro X Y hX hY; simp only [evE, dSlice, dFunc, evT, reduceIte, reduceCtorEq, Nat.reduceEqDiff, Nat.reduceAdd, Nat.reduceMul, Nat.reduceSub, Nat.reduceDiv, Nat.reduceLT, Nat.reduceLeDiff, Nat.reduceBEq, Nat.reduceBNe, List.reduceReplicate, ty0, ty3, ty4, ty22, ty36, ty81, ty160, ty224])
      refine ⟨fun h => hX ?_, fun h => hY ?_⟩
      · have hlt : k < xs.length := by simpa using h
        have hlt2 : k < ys.length := by omega
        clear hX hY X Y h
        (repeat (first | (refine aw_seq ?_; intro K hK) | refine aw_block ?_ | refine aw_region ?_ | (refine lst_x rfl rfl ?_; intro K1 hK1; simp only [undef, evE, dSlice, dFunc, evT, reduceIte, reduceCtorEq, Nat.reduceEqDiff, Nat.reduceAdd, Nat.reduceMul, Nat.reduceSub, Nat.reduceDiv, Nat.reduceLT, Nat.reduceLeDiff, Nat.reduceBEq, Nat.reduceBNe, List.reduceReplicate, ty0, ty3, ty4, ty22, ty36, ty81, ty160, ty224]; first | (refine hK1 _ ?_; clear hK1 K1) | (refine ⟨by first | omega | (simp; done) | (simp; omega), hK1 _ ?_⟩; clear hK1 K1)) | ((first | refine lst_nil ?_ | refine aw_skip ?_); refine hK _ ?_; clear hK K)))
        (refine aw_regionU 8 [(0, 0), (1, 0), (2, 0), (3, 1), (4, 0), (5, 0), (6, 0), (7, 1), (8, 2)] (by kernel_rfl) (by kernel_rfl) (by intro c st h; simp [ThenA, InBl, Ret] at h) ?_)
        (repeat (first | ((first | refine u_0x rfl rfl rfl ?_ | refine u_1x rfl rfl rfl ?_); intro K1 hK1; simp only [undef, evR, evE, dSlice, dFunc, evT, reduceIte, reduceCtorEq, Nat.reduceEqDiff, Nat.reduceAdd, Nat.reduceMul, Nat.reduceSub, Nat.reduceDiv, Nat.reduceLT, Nat.reduceLeDiff, Nat.reduceBEq, Nat.reduceBNe, List.reduceReplicate, ty0, ty3, ty4, ty22, ty36, ty81, ty160, ty224, tInts_len, tInts_get (List.getElem?_eq_getElem hlt), tInts_get (List.getElem?_eq_getElem hlt2)]; first | (refine hK1 _ ?_; clear hK1 K1) | (refine ⟨by first | omega | (simp; done) | (simp; omega), hK1 _ ?_⟩; clear hK1 K1)) | (refine u_2x rfl rfl rfl rfl ?_; intro K1 hK1; simp only [undef, evR, evE, dSlice, dFunc, evT, reduceIte, reduceCtorEq, Nat.reduceEqDiff, Nat.reduceAdd, Nat.reduceMul, Nat.reduceSub, Nat.reduceDiv, Nat.reduceLT, Nat.reduceLeDiff, Nat.reduceBEq, Nat.reduceBNe, List.reduceReplicate, ty0, ty3, ty4, ty22, ty36, ty81, ty160, ty224, tInts_len, tInts_get (List.getElem?_eq_getElem hlt), tInts_get (List.getElem?_eq_getElem hlt2)]; first | (refine hK1 _ ?_; clear hK1 K1) | (refine ⟨by first | omega | (simp; done) | (simp; omega), hK1 _ ?_⟩; clear hK1 K1)) | (refine u_nil ?_; refine hK _ ?_; clear hK K)))
        (refine aw_cnd ?_; intro X Y hX hY; simp only [evE, dSlice, dFunc, evT, reduceIte, reduceCtorEq, Nat.reduceEqDiff, Nat.reduceAdd, Nat.reduceMul, Nat.reduceSub, Nat.reduceDiv, Nat.reduceLT, Nat.reduceLeDiff, Nat.reduceBEq, Nat.reduceBNe, List.reduceReplicate, ty0, ty3, ty4, ty22, ty36, ty81, ty160, ty224])
        refine ⟨fun h => hX ?_, fun h => hY ?_⟩
        · clear hX hY X Y
          (repeat (first | (refine aw_seq ?_; intro K hK) | refine aw_block ?_ | refine aw_region ?_ | (refine lst_x rfl rfl ?_; intro K1 hK1; simp only [undef, evE, dSlice, dFunc, evT, reduceIte, reduceCtorEq, Nat.reduceEqDiff, Nat.reduceAdd, Nat.reduceMul, Nat.reduceSub, Nat.reduceDiv, Nat.reduceLT, Nat.reduceLeDiff, Nat.reduceBEq, Nat.reduceBNe, List.reduceReplicate, ty0, ty3, ty4, ty22, ty36, ty81, ty160, ty224]; first | (refine hK1 _ ?_; clear hK1 K1) | (refine ⟨by first | omega | (simp; done) | (simp; omega), hK1 _ ?_⟩; clear hK1 K1)) | ((first | refine lst_nil ?_ | refine aw_skip ?_); refine hK _ ?_; clear hK K)))
          ((try refine aw_ret ?_); (try refine lst_nil ?_); (try simp only [ThenA, InBl]); refine ret_mk (by first | exact .inl rfl | exact .inr rfl) rfl ?_; simp only [rtn, resA, resL, resV, Tryz.results91, evE, dSlice, dFunc, evT, reduceIte, reduceCtorEq, Nat.reduceEqDiff, Nat.reduceAdd, Nat.reduceMul, Nat.reduceSub, Nat.reduceDiv, Nat.reduceLT, Nat.reduceLeDiff, Nat.reduceBEq, Nat.reduceBNe, List.reduceReplicate, ty0, ty3, ty4, ty22, ty36, ty81, ty160, ty224])
          have : xs ≠ ys := by rintro rfl; simp at h
          simp [this]
        · clear hX hY X Y
          (repeat (first | (refine aw_seq ?_; intro K hK) | refine aw_block ?_ | refine aw_region ?_ | (refine lst_x rfl rfl ?_; intro K1 hK1; simp only [undef, evE, dSlice, dFunc, evT, reduceIte, reduceCtorEq, Nat.reduceEqDiff, Nat.reduceAdd, Nat.reduceMul, Nat.reduceSub, Nat.reduceDiv, Nat.reduceLT, Nat.reduceLeDiff, Nat.reduceBEq, Nat.reduceBNe, List.reduceReplicate, ty0, ty3, ty4, ty22, ty36, ty81, ty160, ty224]; first | (refine hK1 _ ?_; clear hK1 K1) | (refine ⟨by first | omega | (simp; done) | (simp; omega), hK1 _ ?_⟩; clear hK1 K1)) | ((first | refine lst_nil ?_ | refine aw_skip ?_); refine hK _ ?_; clear hK K)))
          ((try refine lst_nil ?_); (try refine aw_skip ?_); try simp only [ThenA])
          refine hK _ (k + 1) ⟨by omega, ?_⟩ (by omega) ?_
          · have h1 : xs[k] = ys[k] := by simpa using h
            rw [List.take_succ_eq_append_getElem hlt, List.take_succ_eq_append_getElem hlt2, he, h1]
          · (refine le_tm ?_; simp only [LeTm, evE, dSlice, dFunc, evT, reduceIte, reduceCtorEq, Nat.reduceEqDiff, Nat.reduceAdd, Nat.reduceMul, Nat.reduceSub, Nat.reduceDiv, Nat.reduceLT, Nat.reduceLeDiff, Nat.reduceBEq, Nat.reduceBNe, List.reduceReplicate, ty0, ty3, ty4, ty22, ty36, ty81, ty160, ty224]; try simp)
      · have hge : k = xs.length := by simp at h; omega
        clear hX hY X Y
        (refine aw_exit ?_; simp only [ThenA, InBl, reduceIte, Nat.reduceEqDiff]; (first | refine hK _ ?_ | (clear hK K; refine hK _ ?_) | (clear hK K; clear hK K; refine hK _ ?_) | (clear hK K; clear hK K; clear hK K; refine hK _ ?_) | (clear hK K; clear hK K; clear hK K; clear hK K; refine hK _ ?_) | (clear hK K; clear hK K; clear hK K; clear hK K; clear hK K; refine hK _ ?_)); clear hK K)
        (repeat (first | (refine aw_seq ?_; intro K hK) | refine aw_block ?_ | refine aw_region ?_ | (refine lst_x rfl rfl ?_; intro K1 hK1; simp only [undef, evE, dSlice, dFunc, evT, reduceIte, reduceCtorEq, Nat.reduceEqDiff, Nat.reduceAdd, Nat.reduceMul, Nat.reduceSub, Nat.reduceDiv, Nat.reduceLT, Nat.reduceLeDiff, Nat.reduceBEq, Nat.reduceBNe, List.reduceReplicate, ty0, ty3, ty4, ty22, ty36, ty81, ty160, ty224]; first | (refine hK1 _ ?_; clear hK1 K1) | (refine ⟨by first | omega | (simp; done) | (simp; omega), hK1 _ ?_⟩; clear hK1 K1)) | ((first | refine lst_nil ?_ | refine aw_skip ?_); refine hK _ ?_; clear hK K)))
        ((try refine aw_ret ?_); (try refine lst_nil ?_); (try simp only [ThenA, InBl]); refine ret_mk (by first | exact .inl rfl | exact .inr rfl) rfl ?_; simp only [rtn, resA, resL, resV, Tryz.results91, evE, dSlice, dFunc, evT, reduceIte, reduceCtorEq, Nat.reduceEqDiff, Nat.reduceAdd, Nat.reduceMul, Nat.reduceSub, Nat.reduceDiv, Nat.reduceLT, Nat.reduceLeDiff, Nat.reduceBEq, Nat.reduceBNe, List.reduceReplicate, ty0, ty3, ty4, ty22, ty36, ty81, ty160, ty224])
        have : xs = ys := by
          rw [hge, List.take_length, hlen, List.take_length] at he
          exact he
        simp [this]
theorem subB_cons (x : Int) (a b : List Int) : subB (x :: a) b = (decide (x ∈ b) && subB a b) := rfl
theorem subset_fc (xs ys : List Int) (hn : xs.length ≤ 140737488355328) (hm : ys.length ≤ 140737488355328) (hx : Asc xs) (hy : Asc ys) : FC Tryz.prog 92 [aInts xs, aInts ys] [] (fun r o => o = [] ∧ r = .b (subB xs ys)) := by
  refine fc_intro Tryz.func92 rfl (by rw [Tryz.ntmps92]; simp) ?_
  rw [Tryz.ntmps92]
  simp only [enum, aInts]
  (repeat (first | (refine aw_seq ?_; intro K hK) | refine aw_block ?_ | refine aw_region ?_ | (refine lst_x rfl rfl ?_; intro K1 hK1; simp only [undef, evE, dSlice, dFunc, evT, reduceIte, reduceCtorEq, Nat.reduceEqDiff, Nat.reduceAdd, Nat.reduceMul, Nat.reduceSub, Nat.reduceDiv, Nat.reduceLT, Nat.reduceLeDiff, Nat.reduceBEq, Nat.reduceBNe, List.reduceReplicate, ty0, ty3, ty4, ty22, ty36, ty81, ty160, ty224]; first | (refine hK1 _ ?_; clear hK1 K1) | (refine ⟨by first | omega | (simp; done) | (simp; omega), hK1 _ ?_⟩; clear hK1 K1)) | ((first | refine lst_nil ?_ | refine aw_skip ?_); refine hK _ ?_; clear hK K)))
  refine aw_loop (fun q : Nat × Nat => { tm := [(0, .a (.c (.t 1 (tInts xs)))), (1, .a (.c (.t 1 (tInts ys)))), (5, .i q.2), (8, .a (.c (.t 1 (tInts xs)))), (9, .i xs.length), (10, .i q.1)], hp := [], n := 41, pin := 0 }) (fun q => q.1 ≤ xs.length ∧ q.2 ≤ ys.length ∧ subB xs ys = subB (xs.drop q.1) (ys.drop q.2)) (fun q => xs.length - q.1) (0, 0) ?_ ?_ ?_
  · exact ⟨by simp, by simp, rfl⟩
  · (refine le_tm ?_; simp only [LeTm, evE, dSlice, dFunc, evT, reduceIte, reduceCtorEq, Nat.reduceEqDiff, Nat.reduceAdd, Nat.reduceMul, Nat.reduceSub, Nat.reduceDiv, Nat.reduceLT, Nat.reduceLeDiff, Nat.reduceBEq, Nat.reduceBNe, List.reduceReplicate, ty0, ty3, ty4, ty22, ty36, ty81, ty160, ty224, tInts_len]; try simp)
  · rintro ⟨i, j⟩ ⟨hk, hj, he⟩ K hK
    simp only at hk hj he
    (repeat (first | (refine aw_seq ?_; intro K hK) | refine aw_block ?_ | refine aw_region ?_ | (refine lst_x rfl rfl ?_; intro K1 hK1; simp only [undef, evE, dSlice, dFunc, evT, reduceIte, reduceCtorEq, Nat.reduceEqDiff, Nat.reduceAdd, Nat.reduceMul, Nat.reduceSub, Nat.reduceDiv, Nat.reduceLT, Nat.reduceLeDiff, Nat.reduceBEq, Nat.reduceBNe, List.reduceReplicate, ty0, ty3, ty4, ty22, ty36, ty81, ty160, ty224]; first | (refine hK1 _ ?_; clear hK1 K1) | (refine ⟨by first | omega | (simp; done) | (simp; omega), hK1 _ ?_⟩; clear hK1 K1)) | ((first | refine lst_nil ?_ | refine aw_skip ?_); refine hK _ ?_; clear hK K)))
    (refine aw_cnd ?_; intro X Y hX hY; simp only [evE, dSlice, dFunc, evT, reduceIte, reduceCtorEq, Nat.reduceEqDiff, Nat.reduceAdd, Nat.reduceMul, Nat.reduceSub, Nat.reduceDiv, Nat.reduceLT, Nat.reduceLeDiff, Nat.reduceBEq, Nat.reduceBNe, List.reduceReplicate, ty0, ty3, ty4, ty22, ty36, ty81, ty160, ty224])
    refine ⟨fun h => hX ?_, fun h => hY ?_⟩
    · have hlt : i < xs.length := by simpa using h
      clear hX hY X Y h
      rw [drop_get hlt] at he
      have hax : Asc (xs[i] :: xs.drop (i + 1)) := by rw [← drop_get hlt]; exact List.Pairwise.sublist (List.drop_sublist _ _) hx
      (repeat (first | (refine aw_seq ?_; intro K hK) | refine aw_block ?_ | refine aw_region ?_ | (refine lst_x rfl rfl ?_; intro K1 hK1; simp only [undef, evE, dSlice, dFunc, evT, reduceIte, reduceCtorEq, Nat.reduceEqDiff, Nat.reduceAdd, Nat.reduceMul, Nat.reduceSub, Nat.reduceDiv, Nat.reduceLT, Nat.reduceLeDiff, Nat.reduceBEq, Nat.reduceBNe, List.reduceReplicate, ty0, ty3, ty4, ty22, ty36, ty81, ty160, ty224, tInts_len, tInts_get (List.getElem?_eq_getElem hlt)]; first | (refine hK1 _ ?_; clear hK1 K1) | (refine ⟨by first | omega | (simp; done) | (simp; omega), hK1 _ ?_⟩; clear hK1 K1)) | ((first | refine lst_nil ?_ | refine aw_skip ?_); refine hK _ ?_; clear hK K)))
      refine aw_loop (fun q : Nat => { tm := [(0, .a (.c (.t 1 (tInts xs)))), (1, .a (.c (.t 1 (tInts ys)))), (5, .i q), (7, .i xs[i]), (8, .a (.c (.t 1 (tInts xs)))), (9, .i xs.length), (10, .i i)], hp := [], n := 41, pin := 0 }) (fun q => q ≤ ys.length ∧ subB xs ys = subB (xs[i] :: xs.drop (i + 1)) (ys.drop q)) (fun q => ys.length - q) j ?_ ?_ ?_
      · exact ⟨hj, he⟩
      · (refine le_tm ?_; simp only [LeTm, evE, dSlice, dFunc, evT, reduceIte, reduceCtorEq, Nat.reduceEqDiff, Nat.reduceAdd, Nat.reduceMul, Nat.reduceSub, Nat.reduceDiv, Nat.reduceLT, Nat.reduceLeDiff, Nat.reduceBEq, Nat.reduceBNe, List.reduceReplicate, ty0, ty3, ty4, ty22, ty36, ty81, ty160, ty224]; try simp)
      · clear he hj
        rintro q ⟨hq, he⟩ K hK
        by_cases hlt2 : q < ys.length
        · have hl2 : decide ((q : Int) < (ys.length : Int)) = true := by simpa using hlt2
          have hay : Asc (ys[q] :: ys.drop (q + 1)) := by rw [← drop_get hlt2]; exact List.Pairwise.sublist (List.drop_sublist _ _) hy
          (repeat (first | (refine aw_seq ?_; intro K hK) | refine aw_block ?_ | refine aw_region ?_ | (refine lst_x rfl rfl ?_; intro K1 hK1; simp only [undef, evE, dSlice, dFunc, evT, reduceIte, reduceCtorEq, Nat.reduceEqDiff, Nat.reduceAdd, Nat.reduceMul, Nat.reduceSub, Nat.reduceDiv, Nat.reduceLT, Nat.reduceLeDiff, Nat.reduceBEq, Nat.reduceBNe, List.reduceReplicate, ty0, ty3, ty4, ty22, ty36, ty81, ty160, ty224, tInts_len, hl2, tInts_get (List.getElem?_eq_getElem hlt2)]; first | (refine hK1 _ ?_; clear hK1 K1) | (refine ⟨by first | omega | (simp; done) | (simp; omega), hK1 _ ?_⟩; clear hK1 K1)) | ((first | refine lst_nil ?_ | refine aw_skip ?_); refine hK _ ?_; clear hK K)))
          (refine aw_cnd ?_; intro X Y hX hY; simp only [evE, dSlice, dFunc, evT, reduceIte, reduceCtorEq, Nat.reduceEqDiff, Nat.reduceAdd, Nat.reduceMul, Nat.reduceSub, Nat.reduceDiv, Nat.reduceLT, Nat.reduceLeDiff, Nat.reduceBEq, Nat.reduceBNe, List.reduceReplicate, ty0, ty3, ty4, ty22, ty36, ty81, ty160, ty224])
          refine ⟨fun h => hX ?_, fun h => hY ?_⟩
          · clear hX hY X Y
            have h1 : ys[q] < xs[i] := by simpa using h
            clear h
            (repeat (first | (refine aw_seq ?_; intro K hK) | refine aw_block ?_ | refine aw_region ?_ | (refine lst_x rfl rfl ?_; intro K1 hK1; simp only [undef, evE, dSlice, dFunc, evT, reduceIte, reduceCtorEq, Nat.reduceEqDiff, Nat.reduceAdd, Nat.reduceMul, Nat.reduceSub, Nat.reduceDiv, Nat.reduceLT, Nat.reduceLeDiff, Nat.reduceBEq, Nat.reduceBNe, List.reduceReplicate, ty0, ty3, ty4, ty22, ty36, ty81, ty160, ty224]; first | (refine hK1 _ ?_; clear hK1 K1) | (refine ⟨by first | omega | (simp; done) | (simp; omega), hK1 _ ?_⟩; clear hK1 K1)) | ((first | refine lst_nil ?_ | refine aw_skip ?_); refine hK _ ?_; clear hK K)))
            ((try refine lst_nil ?_); (try refine aw_skip ?_); try simp only [ThenA])
            refine hK _ (q + 1) ⟨by omega, ?_⟩ (by omega) ?_
            · rw [he, drop_get hlt2]
              have hno : ∀ x ∈ xs[i] :: xs.drop (i + 1), x ≠ ys[q] := by
                intro x hxm
                rcases List.mem_cons.1 hxm with rfl | hxm
                · omega
                · have := (List.pairwise_cons.1 hax).1 x hxm; omega
              rw [Bool.eq_iff_iff, subB_iff, subB_iff]
              constructor
              · intro hh x hxm
                rcases List.mem_cons.1 (hh x hxm) with e | e
                · exact absurd e (hno x hxm)
                · exact e
              · intro hh x hxm
                exact List.mem_cons_of_mem _ (hh x hxm)
            · (refine le_tm ?_; simp only [LeTm, evE, dSlice, dFunc, evT, reduceIte, reduceCtorEq, Nat.reduceEqDiff, Nat.reduceAdd, Nat.reduceMul, Nat.reduceSub, Nat.reduceDiv, Nat.reduceLT, Nat.reduceLeDiff, Nat.reduceBEq, Nat.reduceBNe, List.reduceReplicate, ty0, ty3, ty4, ty22, ty36, ty81, ty160, ty224]; try simp)
          · clear hX hY X Y
            have h1 : ¬ ys[q] < xs[i] := by simpa using h
            clear h
            (refine aw_exit ?_; simp only [ThenA, InBl, reduceIte, Nat.reduceEqDiff]; (first | refine hK _ ?_ | (clear hK K; refine hK _ ?_) | (clear hK K; clear hK K; refine hK _ ?_) | (clear hK K; clear hK K; clear hK K; refine hK _ ?_) | (clear hK K; clear hK K; clear hK K; clear hK K; refine hK _ ?_) | (clear hK K; clear hK K; clear hK K; clear hK K; clear hK K; refine hK _ ?_)); clear hK K)
            have hl3 : ((q : Int) == (ys.length : Int)) = false := by simp; omega
            (repeat (first | (refine aw_seq ?_; intro K hK) | refine aw_block ?_ | refine aw_region ?_ | (refine lst_x rfl rfl ?_; intro K1 hK1; simp only [undef, evE, dSlice, dFunc, evT, reduceIte, reduceCtorEq, Nat.reduceEqDiff, Nat.reduceAdd, Nat.reduceMul, Nat.reduceSub, Nat.reduceDiv, Nat.reduceLT, Nat.reduceLeDiff, Nat.reduceBEq, Nat.reduceBNe, List.reduceReplicate, ty0, ty3, ty4, ty22, ty36, ty81, ty160, ty224, tInts_len, hl3, tInts_get (List.getElem?_eq_getElem hlt2)]; first | (refine hK1 _ ?_; clear hK1 K1) | (refine ⟨by first | omega | (simp; done) | (simp; omega), hK1 _ ?_⟩; clear hK1 K1)) | ((first | refine lst_nil ?_ | refine aw_skip ?_); refine hK _ ?_; clear hK K)))
            (refine aw_cnd ?_; intro X Y hX hY; simp only [evE, dSlice, dFunc, evT, reduceIte, reduceCtorEq, Nat.reduceEqDiff, Nat.reduceAdd, Nat.reduceMul, Nat.reduceSub, Nat.reduceDiv, Nat.reduceLT, Nat.reduceLeDiff, Nat.reduceBEq, Nat.reduceBNe, List.reduceReplicate, ty0, ty3, ty4, ty22, ty36, ty81, ty160, ty224])
            refine ⟨fun h => hX ?_, fun h => hY ?_⟩
            · clear hX hY X Y
              (repeat (first | (refine aw_seq ?_; intro K hK) | refine aw_block ?_ | refine aw_region ?_ | (refine lst_x rfl rfl ?_; intro K1 hK1; simp only [undef, evE, dSlice, dFunc, evT, reduceIte, reduceCtorEq, Nat.reduceEqDiff, Nat.reduceAdd, Nat.reduceMul, Nat.reduceSub, Nat.reduceDiv, Nat.reduceLT, Nat.reduceLeDiff, Nat.reduceBEq, Nat.reduceBNe, List.reduceReplicate, ty0, ty3, ty4, ty22, ty36, ty81, ty160, ty224]; first | (refine hK1 _ ?_; clear hK1 K1) | (refine ⟨by first | omega | (simp; done) | (simp; omega), hK1 _ ?_⟩; clear hK1 K1)) | ((first | refine lst_nil ?_ | refine aw_skip ?_); refine hK _ ?_; clear hK K)))
              ((try refine aw_ret ?_); (try refine lst_nil ?_); (try simp only [ThenA, InBl]); refine ret_mk (by first | exact .inl rfl | exact .inr rfl) rfl ?_; simp only [rtn, resA, resL, resV, Tryz.results92, evE, dSlice, dFunc, evT, reduceIte, reduceCtorEq, Nat.reduceEqDiff, Nat.reduceAdd, Nat.reduceMul, Nat.reduceSub, Nat.reduceDiv, Nat.reduceLT, Nat.reduceLeDiff, Nat.reduceBEq, Nat.reduceBNe, List.reduceReplicate, ty0, ty3, ty4, ty22, ty36, ty81, ty160, ty224])
              have h2 : ys[q] ≠ xs[i] := by simpa using h
              have h3 : xs[i] ∉ ys.drop q := by
                rw [drop_get hlt2]
                intro hm
                rcases List.mem_cons.1 hm with e | e
                · exact h2 e.symm
                · have := (List.pairwise_cons.1 hay).1 _ e; omega
              rw [he, subB_cons]
              simp [h3]
            · clear hX hY X Y
              have h2 : ys[q] = xs[i] := by simpa using h
              (repeat (first | (refine aw_seq ?_; intro K hK) | refine aw_block ?_ | refine aw_region ?_ | (refine lst_x rfl rfl ?_; intro K1 hK1; simp only [undef, evE, dSlice, dFunc, evT, reduceIte, reduceCtorEq, Nat.reduceEqDiff, Nat.reduceAdd, Nat.reduceMul, Nat.reduceSub, Nat.reduceDiv, Nat.reduceLT, Nat.reduceLeDiff, Nat.reduceBEq, Nat.reduceBNe, List.reduceReplicate, ty0, ty3, ty4, ty22, ty36, ty81, ty160, ty224]; first | (refine hK1 _ ?_; clear hK1 K1) | (refine ⟨by first | omega | (simp; done) | (simp; omega), hK1 _ ?_⟩; clear hK1 K1)) | ((first | refine lst_nil ?_ | refine aw_skip ?_); refine hK _ ?_; clear hK K)))
              ((try refine lst_nil ?_); (try refine aw_skip ?_); try simp only [ThenA])
              refine hK _ (i + 1, q) ⟨hlt, hq, ?_⟩ (by simp only; omega) ?_
              · rw [he, subB_cons]
                have h3 : xs[i] ∈ ys.drop q := by rw [drop_get hlt2, h2]; simp
                simp [h3]
              · (refine le_tm ?_; simp only [LeTm, evE, dSlice, dFunc, evT, reduceIte, reduceCtorEq, Nat.reduceEqDiff, Nat.reduceAdd, Nat.reduceMul, Nat.reduceSub, Nat.reduceDiv, Nat.reduceLT, Nat.reduceLeDiff, Nat.reduceBEq, Nat.reduceBNe, List.reduceReplicate, ty0, ty3, ty4, ty22, ty36, ty81, ty160, ty224]; try simp)
        · have hl2 : decide ((q : Int) < (ys.length : Int)) = false := by simpa using hlt2
          (repeat (first | (refine aw_seq ?_; intro K hK) | refine aw_block ?_ | refine aw_region ?_ | (refine lst_x rfl rfl ?_; intro K1 hK1; simp only [undef, evE, dSlice, dFunc, evT, reduceIte, reduceCtorEq, Nat.reduceEqDiff, Nat.reduceAdd, Nat.reduceMul, Nat.reduceSub, Nat.reduceDiv, Nat.reduceLT, Nat.reduceLeDiff, Nat.reduceBEq, Nat.reduceBNe, List.reduceReplicate, ty0, ty3, ty4, ty22, ty36, ty81, ty160, ty224, tInts_len, hl2]; first | (refine hK1 _ ?_; clear hK1 K1) | (refine ⟨by first | omega | (simp; done) | (simp; omega), hK1 _ ?_⟩; clear hK1 K1)) | ((first | refine lst_nil ?_ | refine aw_skip ?_); refine hK _ ?_; clear hK K)))
          (refine aw_cnd ?_; intro X Y hX hY; simp only [evE, dSlice, dFunc, evT, reduceIte, reduceCtorEq, Nat.reduceEqDiff, Nat.reduceAdd, Nat.reduceMul, Nat.reduceSub, Nat.reduceDiv, Nat.reduceLT, Nat.reduceLeDiff, Nat.reduceBEq, Nat.reduceBNe, List.reduceReplicate, ty0, ty3, ty4, ty22, ty36, ty81, ty160, ty224])
          refine hY ?_; clear hX hY X Y
          (refine aw_exit ?_; simp only [ThenA, InBl, reduceIte, Nat.reduceEqDiff]; (first | refine hK _ ?_ | (clear hK K; refine hK _ ?_) | (clear hK K; clear hK K; refine hK _ ?_) | (clear hK K; clear hK K; clear hK K; refine hK _ ?_) | (clear hK K; clear hK K; clear hK K; clear hK K; refine hK _ ?_) | (clear hK K; clear hK K; clear hK K; clear hK K; clear hK K; refine hK _ ?_)); clear hK K)
          have hl3 : ((q : Int) == (ys.length : Int)) = true := by simp; omega
          (repeat (first | (refine aw_seq ?_; intro K hK) | refine aw_block ?_ | refine aw_region ?_ | (refine lst_x rfl rfl ?_; intro K1 hK1; simp only [undef, evE, dSlice, dFunc, evT, reduceIte, reduceCtorEq, Nat.reduceEqDiff, Nat.reduceAdd, Nat.reduceMul, Nat.reduceSub, Nat.reduceDiv, Nat.reduceLT, Nat.reduceLeDiff, Nat.reduceBEq, Nat.reduceBNe, List.reduceReplicate, ty0, ty3, ty4, ty22, ty36, ty81, ty160, ty224, tInts_len, hl3]; first | (refine hK1 _ ?_; clear hK1 K1) | (refine ⟨by first | omega | (simp; done) | (simp; omega), hK1 _ ?_⟩; clear hK1 K1)) | ((first | refine lst_nil ?_ | refine aw_skip ?_); refine hK _ ?_; clear hK K)))
          (refine aw_cnd ?_; intro X Y hX hY; simp only [evE, dSlice, dFunc, evT, reduceIte, reduceCtorEq, Nat.reduceEqDiff, Nat.reduceAdd, Nat.reduceMul, Nat.reduceSub, Nat.reduceDiv, Nat.reduceLT, Nat.reduceLeDiff, Nat.reduceBEq, Nat.reduceBNe, List.reduceReplicate, ty0, ty3, ty4, ty22, ty36, ty81, ty160, ty224])
          refine hX ?_; clear hX hY X Y
          (repeat (first | (refine aw_seq ?_; intro K hK) | refine aw_block ?_ | refine aw_region ?_ | (refine lst_x rfl rfl ?_; intro K1 hK1; simp only [undef, evE, dSlice, dFunc, evT, reduceIte, reduceCtorEq, Nat.reduceEqDiff, Nat.reduceAdd, Nat.reduceMul, Nat.reduceSub, Nat.reduceDiv, Nat.reduceLT, Nat.reduceLeDiff, Nat.reduceBEq, Nat.reduceBNe, List.reduceReplicate, ty0, ty3, ty4, ty22, ty36, ty81, ty160, ty224]; first | (refine hK1 _ ?_; clear hK1 K1) | (refine ⟨by first | omega | (simp; done) | (simp; omega), hK1 _ ?_⟩; clear hK1 K1)) | ((first | refine lst_nil ?_ | refine aw_skip ?_); refine hK _ ?_; clear hK K)))
          ((try refine aw_ret ?_); (try refine lst_nil ?_); (try simp only [ThenA, InBl]); refine ret_mk (by first | exact .inl rfl | exact .inr rfl) rfl ?_; simp only [rtn, resA, resL, resV, Tryz.results92, evE, dSlice, dFunc, evT, reduceIte, reduceCtorEq, Nat.reduceEqDiff, Nat.reduceAdd, Nat.reduceMul, Nat.reduceSub, Nat.reduceDiv, Nat.reduceLT, Nat.reduceLeDiff, Nat.reduceBEq, Nat.reduceBNe, List.reduceReplicate, ty0, ty3, ty4, ty22, ty36, ty81, ty160, ty224])
          have : ys.drop q = [] := List.drop_eq_nil_of_le (by omega)
          rw [he, this, subB_cons]
          simp
    · have hge : i = xs.length := by simp at h; omega
      clear hX hY X Y
      (refine aw_exit ?_; simp only [ThenA, InBl, reduceIte, Nat.reduceEqDiff]; (first | refine hK _ ?_ | (clear hK K; refine hK _ ?_) | (clear hK K; clear hK K; refine hK _ ?_) | (clear hK K; clear hK K; clear hK K; refine hK _ ?_) | (clear hK K; clear hK K; clear hK K; clear hK K; refine hK _ ?_) | (clear hK K; clear hK K; clear hK K; clear hK K; clear hK K; refine hK _ ?_)); clear hK K)
      (repeat (first | (refine aw_seq ?_; intro K hK) | refine aw_block ?_ | refine aw_region ?_ | (refine lst_x rfl rfl ?_; intro K1 hK1; simp only [undef, evE, dSlice, dFunc, evT, reduceIte, reduceCtorEq, Nat.reduceEqDiff, Nat.reduceAdd, Nat.reduceMul, Nat.reduceSub, Nat.reduceDiv, Nat.reduceLT, Nat.reduceLeDiff, Nat.reduceBEq, Nat.reduceBNe, List.reduceReplicate, ty0, ty3, ty4, ty22, ty36, ty81, ty160, ty224]; first | (refine hK1 _ ?_; clear hK1 K1) | (refine ⟨by first | omega | (simp; done) | (simp; omega), hK1 _ ?_⟩; clear hK1 K1)) | ((first | refine lst_nil ?_ | refine aw_skip ?_); refine hK _ ?_; clear hK K)))
      ((try refine aw_ret ?_); (try refine lst_nil ?_); (try simp only [ThenA, InBl]); refine ret_mk (by first | exact .inl rfl | exact .inr rfl) rfl ?_; simp only [rtn, resA, resL, resV, Tryz.results92, evE, dSlice, dFunc, evT, reduceIte, reduceCtorEq, Nat.reduceEqDiff, Nat.reduceAdd, Nat.reduceMul, Nat.reduceSub, Nat.reduceDiv, Nat.reduceLT, Nat.reduceLeDiff, Nat.reduceBEq, Nat.reduceBNe, List.reduceReplicate, ty0, ty3, ty4, ty22, ty36, ty81, ty160, ty224])
      have : xs.drop i = [] := List.drop_eq_nil_of_le (by omega)
      rw [he, this]
      simp [subB]
end Go.Proofs.YtfjfllpcflddmaaGreat
namespace Go.Proofs.YtfjfllpcflddmaaGreat
set_option linter.unusedVariables false
set_option linter.unusedSimpArgs false
open Go.RowKit
set_option maxRecDepth 100000

def cmpGo {α : Type} [DecidableEq α] (p : α) : List α → List α
  | [] => []
  | y :: ys => if y = p then cmpGo p ys else y :: cmpGo y ys
def cmpA {α : Type} [DecidableEq α] : List α → List α
  | [] => []
  | x :: xs => x :: cmpGo x xs
section
variable {α : Type} [DecidableEq α]
theorem cmpGo_step {r ys : List α} {m p : Nat} {a b : α} (h : r = ys.take m ++ cmpGo a (ys.drop p)) (hm : m ≤ p) (hb : ys[p]? = some b) :
    (b = a → r = ys.take m ++ cmpGo b (ys.drop (p + 1))) ∧
    (b ≠ a → r = (ys.set m b).take (m + 1) ++ cmpGo b ((ys.set m b).drop (p + 1))) ∧ (b ≠ a → m = p → ys.set m b = ys) := by
  have hl := (List.getElem?_eq_some_iff.1 hb).1
  have hbe : ys[p] = b := (List.getElem?_eq_some_iff.1 hb).2
  have hd : ys.drop p = b :: ys.drop (p + 1) := by
    rw [List.drop_eq_getElem_cons hl, hbe]
  rw [hd] at h
  refine ⟨fun e => ?_, fun e => ?_, fun _ e => ?_⟩
  · rw [h, e]; simp [cmpGo]
  · have h2 : (ys.set m b).drop (p + 1) = ys.drop (p + 1) := by rw [List.drop_set, if_pos (by omega)]
    have h3 : (ys.set m b).take (m + 1) = ys.take m ++ [b] := by
      rw [List.take_add_one, List.take_set_of_le (Nat.le_refl m)]
      simp [List.getElem?_set, show m < ys.length by omega]
    rw [h, h2, h3]
    simp [cmpGo, e]
  · subst e; rw [← hbe]; exact List.set_getElem_self hl
theorem cmpGo_end {r ys : List α} {m p : Nat} {a : α} (h : r = ys.take m ++ cmpGo a (ys.drop p)) (hp : ys.length ≤ p) : r = ys.take m := by
  rw [h, List.drop_eq_nil_of_le hp]; simp [cmpGo]
theorem cmpGo_sub {p x : α} {l : List α} (h : x ∈ cmpGo p l) : x ∈ l := by
  induction l generalizing p with
  | nil => simp [cmpGo] at h
  | cons y r ih =>
    unfold cmpGo at h
    split at h
    · exact List.mem_cons_of_mem _ (ih h)
    · rcases List.mem_cons.1 h with rfl | h
      · simp
      · exact List.mem_cons_of_mem _ (ih h)
theorem cmpGo_mem {p x : α} {l : List α} (h : x ∈ l) : x = p ∨ x ∈ cmpGo p l := by
  induction l generalizing p with
  | nil => cases h
  | cons y r ih =>
    unfold cmpGo
    split
    · rename_i e
      rcases List.mem_cons.1 h with rfl | h
      · exact .inl e
      · exact ih h
    · rcases List.mem_cons.1 h with rfl | h
      · exact .inr (by simp)
      · rcases ih (p := y) h with rfl | h
        · exact .inr (by simp)
        · exact .inr (List.mem_cons_of_mem _ h)
theorem mem_cmpA {x : α} {l : List α} : x ∈ cmpA l ↔ x ∈ l := by
  cases l with
  | nil => rfl
  | cons y r =>
    simp only [cmpA, List.mem_cons]
    constructor
    · rintro (h | h)
      · exact .inl h
      · exact .inr (cmpGo_sub h)
    · rintro (h | h)
      · exact .inl h
      · exact cmpGo_mem h
end
/-- sorted without repetitions -/
theorem cmpA_sort : ∀ {l : List (List Int)}, l.Pairwise (fun a b => lessI b a = false) → SortS (cmpA l)
  | [], _ => List.Pairwise.nil
  | x :: r, h => by
    have go : ∀ (r : List (List Int)) (p : List Int), (∀ y ∈ r, lessI y p = false) → r.Pairwise (fun a b => lessI b a = false) → SortS (p :: cmpGo p r) := by
      intro r
      induction r with
      | nil => intro p _ _; exact List.pairwise_singleton _ _
      | cons y r ih =>
        intro p h1 h2
        rw [List.pairwise_cons] at h2
        unfold cmpGo
        split
        · rename_i e; exact ih p (fun z hz => h1 z (by simp [hz])) h2.2
        · rename_i e
          have hpy : lessI p y = true := by
            rcases lessI_tri p y with h | h | h
            · exact h
            · exact absurd h.symm e
            · rw [h1 y (by simp)] at h; cases h
          have hi := ih y h2.1 h2.2
          refine List.pairwise_cons.2 ⟨fun z hz => ?_, hi⟩
          rcases List.mem_cons.1 hz with rfl | hz
          · exact hpy
          · exact lessI_trans hpy ((List.pairwise_cons.1 hi).1 z hz)
    rw [List.pairwise_cons] at h
    exact go r x h.1 h.2

def cSets (L : List (List Int)) : List C := L.map fun x => C.t 1 (tInts x)
theorem cSets_get {xs : List (List Int)} {i : Nat} {x : List Int} (h : xs[i]? = some x) : (cSets xs)[i]? = some (.t 1 (tInts x)) := by simp [cSets, h]
theorem cSets_set (ys : List (List Int)) (m : Nat) (y : List Int) : cSets (ys.set m y) = (cSets ys).set m (.t 1 (tInts y)) := by simp [cSets, List.map_set]
theorem cSets_len (ys : List (List Int)) : (cSets ys).length = ys.length := by simp [cSets]
theorem cSets_up (f : Nat → Nat) (L : List (List Int)) : (cSets L).map (C.up f) = cSets L := by simp [cSets, C.up, Function.comp_def]
theorem cSets_ren (f : List Nat) (L : List (List Int)) : (cSets L).map (C.ren f) = cSets L := by simp [cSets, C.ren, Function.comp_def]
theorem setC_app : ∀ (zs cs : List C) (off : Nat), off + zs.length = cs.length → setC cs off zs = cs.take off ++ zs
  | [], cs, off, h => by simp [setC] at h ⊢; rw [List.take_of_length_le (by omega)]
  | x :: r, cs, off, h => by
    simp only [setC]
    rw [setC_app r _ (off + 1) (by simp at h ⊢; omega)]
    rw [List.take_add_one, List.take_set_of_le (Nat.le_refl _)]
    simp [List.getElem?_set, show off < cs.length by simp at h; omega]
set_option maxHeartbeats 1000000 in
theorem compact_sets (L : List (List Int)) (hn : L.length ≤ 100000000) (hb : ∀ x ∈ L, x.length ≤ 140737488355328) : FC Tryz.prog 90 [.a (.c (.s 0 L.length)), .a (.c (.f 91 []))] [.r ⟨22, 1, true, cSets L⟩]
    (fun r o => r = .a (.c (.s 0 (cmpA L).length)) ∧ ∃ rest us, Fz rest us ∧ o = [.r ⟨22, 1, true, cSets (cmpA L) ++ rest⟩]) := by
  refine fc_intro Tryz.func90 rfl (by rw [Tryz.ntmps90]; simp) ?_
  rw [Tryz.ntmps90]
  simp only [enum]
  (repeat (first | (refine aw_seq ?_; intro K hK) | refine aw_block ?_ | refine aw_region ?_ | (refine lst_x rfl rfl ?_; intro K1 hK1; simp only [undef, evE, dSlice, dFunc, evT, reduceIte, reduceCtorEq, Nat.reduceEqDiff, Nat.reduceAdd, Nat.reduceMul, Nat.reduceSub, Nat.reduceDiv, Nat.reduceLT, Nat.reduceLeDiff, Nat.reduceBEq, Nat.reduceBNe, List.reduceReplicate, ty0, ty3, ty4, ty22, ty36, ty81, ty160, ty224]; first | (refine hK1 _ ?_; clear hK1 K1) | (refine ⟨by first | omega | (simp; done) | (simp; omega), hK1 _ ?_⟩; clear hK1 K1)) | ((first | refine lst_nil ?_ | refine aw_skip ?_); refine hK _ ?_; clear hK K)))
  (refine aw_cnd ?_; intro X Y hX hY; simp only [evE, dSlice, dFunc, evT, reduceIte, reduceCtorEq, Nat.reduceEqDiff, Nat.reduceAdd, Nat.reduceMul, Nat.reduceSub, Nat.reduceDiv, Nat.reduceLT, Nat.reduceLeDiff, Nat.reduceBEq, Nat.reduceBNe, List.reduceReplicate, ty0, ty3, ty4, ty22, ty36, ty81, ty160, ty224])
  refine ⟨fun h => hX ?_, fun h => hY ?_⟩
  · clear hX hY X Y
    (repeat (first | (refine aw_seq ?_; intro K hK) | refine aw_block ?_ | refine aw_region ?_ | (refine lst_x rfl rfl ?_; intro K1 hK1; simp only [undef, evE, dSlice, dFunc, evT, reduceIte, reduceCtorEq, Nat.reduceEqDiff, Nat.reduceAdd, Nat.reduceMul, Nat.reduceSub, Nat.reduceDiv, Nat.reduceLT, Nat.reduceLeDiff, Nat.reduceBEq, Nat.reduceBNe, List.reduceReplicate, ty0, ty3, ty4, ty22, ty36, ty81, ty160, ty224]; first | (refine hK1 _ ?_; clear hK1 K1) | (refine ⟨by first | omega | (simp; done) | (simp; omega), hK1 _ ?_⟩; clear hK1 K1)) | ((first | refine lst_nil ?_ | refine aw_skip ?_); refine hK _ ?_; clear hK K)))
    ((try refine aw_ret ?_); (try refine lst_nil ?_); (try simp only [ThenA, InBl]); refine ret_mk (by first | exact .inl rfl | exact .inr rfl) rfl ?_; simp only [rtn, resA, resL, resV, Tryz.results90, evE, dSlice, dFunc, evT, reduceIte, reduceCtorEq, Nat.reduceEqDiff, Nat.reduceAdd, Nat.reduceMul, Nat.reduceSub, Nat.reduceDiv, Nat.reduceLT, Nat.reduceLeDiff, Nat.reduceBEq, Nat.reduceBNe, List.reduceReplicate, ty0, ty3, ty4, ty22, ty36, ty81, ty160, ty224])
    have hc : cmpA L = L := by
      match L, h with
      | [], _ => rfl
      | [x], _ => rfl
      | _ :: _ :: _, h => simp at h; omega
    rw [hc]
    exact ⟨rfl, [], [], trivial, by simp⟩
  · clear hX hY X Y
    have h2 : 2 ≤ L.length := by simp at h; omega
    clear h
    (repeat (first | (refine aw_seq ?_; intro K hK) | refine aw_block ?_ | refine aw_region ?_ | (refine lst_x rfl rfl ?_; intro K1 hK1; simp only [undef, evE, dSlice, dFunc, evT, reduceIte, reduceCtorEq, Nat.reduceEqDiff, Nat.reduceAdd, Nat.reduceMul, Nat.reduceSub, Nat.reduceDiv, Nat.reduceLT, Nat.reduceLeDiff, Nat.reduceBEq, Nat.reduceBNe, List.reduceReplicate, ty0, ty3, ty4, ty22, ty36, ty81, ty160, ty224]; first | (refine hK1 _ ?_; clear hK1 K1) | (refine ⟨by first | omega | (simp; done) | (simp; omega), hK1 _ ?_⟩; clear hK1 K1)) | ((first | refine lst_nil ?_ | refine aw_skip ?_); refine hK _ ?_; clear hK K)))
    refine aw_loop (fun k : Nat => { tm := [(0, .a (.c (.s 0 L.length))), (1, .a (.c (.f 91 []))), (5, .i (k + 1 : Nat))], hp := [.r ⟨22, 1, true, cSets L⟩], n := 66, pin := 1 }) (fun k => k + 1 ≤ L.length ∧ cmpA L = L.take (k + 1) ++ cmpGo (L.getD k []) (L.drop (k + 1))) (fun k => L.length - k) 0 ?_ ?_ ?_
    · refine ⟨by omega, ?_⟩
      match L, h2 with
      | x :: r, _ => simp [cmpA]
    · (refine le_tm ?_; simp only [LeTm, evE, dSlice, dFunc, evT, reduceIte, reduceCtorEq, Nat.reduceEqDiff, Nat.reduceAdd, Nat.reduceMul, Nat.reduceSub, Nat.reduceDiv, Nat.reduceLT, Nat.reduceLeDiff, Nat.reduceBEq, Nat.reduceBNe, List.reduceReplicate, ty0, ty3, ty4, ty22, ty36, ty81, ty160, ty224]; try simp)
    · rintro k ⟨hk, he⟩ K hK
      (repeat (first | (refine aw_seq ?_; intro K hK) | refine aw_block ?_ | refine aw_region ?_ | (refine lst_x rfl rfl ?_; intro K1 hK1; simp only [undef, evE, dSlice, dFunc, evT, reduceIte, reduceCtorEq, Nat.reduceEqDiff, Nat.reduceAdd, Nat.reduceMul, Nat.reduceSub, Nat.reduceDiv, Nat.reduceLT, Nat.reduceLeDiff, Nat.reduceBEq, Nat.reduceBNe, List.reduceReplicate, ty0, ty3, ty4, ty22, ty36, ty81, ty160, ty224]; first | (refine hK1 _ ?_; clear hK1 K1) | (refine ⟨by first | omega | (simp; done) | (simp; omega), hK1 _ ?_⟩; clear hK1 K1)) | ((first | refine lst_nil ?_ | refine aw_skip ?_); refine hK _ ?_; clear hK K)))
      (refine aw_cnd ?_; intro X Y hX hY; simp only [evE, dSlice, dFunc, evT, reduceIte, reduceCtorEq, Nat.reduceEqDiff, Nat.reduceAdd, Nat.reduceMul, Nat.reduceSub, Nat.reduceDiv, Nat.reduceLT, Nat.reduceLeDiff, Nat.reduceBEq, Nat.reduceBNe, List.reduceReplicate, ty0, ty3, ty4, ty22, ty36, ty81, ty160, ty224])
      refine ⟨fun h => hX ?_, fun h => hY ?_⟩
      · have hlt : k + 1 < L.length := by simp at h; omega
        have hlt0 : k < L.length := by omega
        clear hX hY X Y h
        have e1 : ((k + 1 : Nat) : Int) - 1 = (k : Int) := by omega
        have g0 : L.getD k [] = L[k] := by simp [List.getD, hlt0]
        rw [g0] at he
        have hst := cmpGo_step he (Nat.le_refl _) (List.getElem?_eq_getElem hlt)
        (repeat (first | (refine aw_seq ?_; intro K hK) | refine aw_block ?_ | refine aw_region ?_ | (refine lst_x rfl rfl ?_; intro K1 hK1; simp only [undef, evE, dSlice, dFunc, evT, reduceIte, reduceCtorEq, Nat.reduceEqDiff, Nat.reduceAdd, Nat.reduceMul, Nat.reduceSub, Nat.reduceDiv, Nat.reduceLT, Nat.reduceLeDiff, Nat.reduceBEq, Nat.reduceBNe, List.reduceReplicate, ty0, ty3, ty4, ty22, ty36, ty81, ty160, ty224]; first | (refine hK1 _ ?_; clear hK1 K1) | (refine ⟨by first | omega | (simp; done) | (simp; omega), hK1 _ ?_⟩; clear hK1 K1)) | ((first | refine lst_nil ?_ | refine aw_skip ?_); refine hK _ ?_; clear hK K)))
        (refine aw_regionU 10 [(0, 0), (1, 0), (2, 0), (3, 0), (4, 1), (5, 0), (6, 0), (7, 0), (8, 0), (9, 1), (10, 2)] (by kernel_rfl) (by kernel_rfl) (by intro c st h; simp [ThenA, InBl, Ret] at h) ?_)
        (repeat (first | ((first | refine u_0x rfl rfl rfl ?_ | refine u_1x rfl rfl rfl ?_); intro K1 hK1; simp only [undef, evR, evE, dSlice, dFunc, evT, reduceIte, reduceCtorEq, Nat.reduceEqDiff, Nat.reduceAdd, Nat.reduceMul, Nat.reduceSub, Nat.reduceDiv, Nat.reduceLT, Nat.reduceLeDiff, Nat.reduceBEq, Nat.reduceBNe, List.reduceReplicate, ty0, ty3, ty4, ty22, ty36, ty81, ty160, ty224, e1, cSets_get (List.getElem?_eq_getElem hlt), cSets_get (List.getElem?_eq_getElem hlt0)]; first | (refine hK1 _ ?_; clear hK1 K1) | (refine ⟨by first | omega | (simp; done) | (simp; omega), hK1 _ ?_⟩; clear hK1 K1)) | (refine u_2x rfl rfl rfl rfl ?_; intro K1 hK1; simp only [undef, evR, evE, dSlice, dFunc, evT, reduceIte, reduceCtorEq, Nat.reduceEqDiff, Nat.reduceAdd, Nat.reduceMul, Nat.reduceSub, Nat.reduceDiv, Nat.reduceLT, Nat.reduceLeDiff, Nat.reduceBEq, Nat.reduceBNe, List.reduceReplicate, ty0, ty3, ty4, ty22, ty36, ty81, ty160, ty224, e1, cSets_get (List.getElem?_eq_getElem hlt), cSets_get (List.getElem?_eq_getElem hlt0)]; first | (refine hK1 _ ?_; clear hK1 K1) | (refine ⟨by first | omega | (simp; done) | (simp; omega), hK1 _ ?_⟩; clear hK1 K1)) | (refine u_nil ?_; refine hK _ ?_; clear hK K)))
        refine u_w rfl rfl rfl ?_; intro K1 hK1
        refine (stp_call0 (ids := []) (equal_fc L[k + 1] L[k] (hb _ (List.getElem_mem hlt)) (hb _ (List.getElem_mem hlt0))) rfl rfl (by simp only [evE, dSlice, dFunc, evT, reduceIte, reduceCtorEq, Nat.reduceEqDiff, Nat.reduceAdd, Nat.reduceMul, Nat.reduceSub, Nat.reduceDiv, Nat.reduceLT, Nat.reduceLeDiff, Nat.reduceBEq, Nat.reduceBNe, List.reduceReplicate, ty0, ty3, ty4, ty22, ty36, ty81, ty160, ty224]) (by kernel_rfl) (by (simp only [List.getElem_toArray, List.getElem_cons_zero, List.getElem_cons_succ, clos, List.append_nil, AV.ren, A0.ren, C.ren, evE, dSlice, dFunc, evT, reduceIte, reduceCtorEq, Nat.reduceEqDiff, Nat.reduceAdd, Nat.reduceMul, Nat.reduceSub, Nat.reduceDiv, Nat.reduceLT, Nat.reduceLeDiff, Nat.reduceBEq, Nat.reduceBNe, List.reduceReplicate, ty0, ty3, ty4, ty22, ty36, ty81, ty160, ty224]) <;> rfl) ?_).stp
        rintro _ _ ⟨rfl, rfl⟩
        (simp only [evR, aInts, aSets, ST.back, nbTm, setAll, upn, AV.up, A0.up, C.up, Ob.up, AV.nb, A0.nb, C.nb, ofTr_up, List.contains_cons, List.contains_nil, List.getD_cons_zero, List.getD_cons_succ, List.set_cons_zero, List.set_cons_succ, List.append_nil, List.nil_append, List.length_map, evE, dSlice, dFunc, evT, reduceIte, reduceCtorEq, Nat.reduceEqDiff, Nat.reduceAdd, Nat.reduceMul, Nat.reduceSub, Nat.reduceDiv, Nat.reduceLT, Nat.reduceLeDiff, Nat.reduceBEq, Nat.reduceBNe, List.reduceReplicate, ty0, ty3, ty4, ty22, ty36, ty81, ty160, ty224]; refine hK1 _ ?_; clear hK1 K1)
        (repeat (first | ((first | refine u_0x rfl rfl rfl ?_ | refine u_1x rfl rfl rfl ?_); intro K1 hK1; simp only [undef, evR, evE, dSlice, dFunc, evT, reduceIte, reduceCtorEq, Nat.reduceEqDiff, Nat.reduceAdd, Nat.reduceMul, Nat.reduceSub, Nat.reduceDiv, Nat.reduceLT, Nat.reduceLeDiff, Nat.reduceBEq, Nat.reduceBNe, List.reduceReplicate, ty0, ty3, ty4, ty22, ty36, ty81, ty160, ty224]; first | (refine hK1 _ ?_; clear hK1 K1) | (refine ⟨by first | omega | (simp; done) | (simp; omega), hK1 _ ?_⟩; clear hK1 K1)) | (refine u_2x rfl rfl rfl rfl ?_; intro K1 hK1; simp only [undef, evR, evE, dSlice, dFunc, evT, reduceIte, reduceCtorEq, Nat.reduceEqDiff, Nat.reduceAdd, Nat.reduceMul, Nat.reduceSub, Nat.reduceDiv, Nat.reduceLT, Nat.reduceLeDiff, Nat.reduceBEq, Nat.reduceBNe, List.reduceReplicate, ty0, ty3, ty4, ty22, ty36, ty81, ty160, ty224]; first | (refine hK1 _ ?_; clear hK1 K1) | (refine ⟨by first | omega | (simp; done) | (simp; omega), hK1 _ ?_⟩; clear hK1 K1)) | (refine u_nil ?_; refine hK _ ?_; clear hK K)))
        (refine aw_cnd ?_; intro X Y hX hY; simp only [evE, dSlice, dFunc, evT, reduceIte, reduceCtorEq, Nat.reduceEqDiff, Nat.reduceAdd, Nat.reduceMul, Nat.reduceSub, Nat.reduceDiv, Nat.reduceLT, Nat.reduceLeDiff, Nat.reduceBEq, Nat.reduceBNe, List.reduceReplicate, ty0, ty3, ty4, ty22, ty36, ty81, ty160, ty224])
        refine ⟨fun h => hX ?_, fun h => hY ?_⟩
        · clear hX hY X Y
          have heq : L[k + 1] = L[k] := by simpa using h
          clear h
          have hI := hst.1 heq
          clear hst he
          (repeat (first | (refine aw_seq ?_; intro K hK) | refine aw_block ?_ | refine aw_region ?_ | (refine lst_x rfl rfl ?_; intro K1 hK1; simp only [undef, evE, dSlice, dFunc, evT, reduceIte, reduceCtorEq, Nat.reduceEqDiff, Nat.reduceAdd, Nat.reduceMul, Nat.reduceSub, Nat.reduceDiv, Nat.reduceLT, Nat.reduceLeDiff, Nat.reduceBEq, Nat.reduceBNe, List.reduceReplicate, ty0, ty3, ty4, ty22, ty36, ty81, ty160, ty224]; first | (refine hK1 _ ?_; clear hK1 K1) | (refine ⟨by first | omega | (simp; done) | (simp; omega), hK1 _ ?_⟩; clear hK1 K1)) | ((first | refine lst_nil ?_ | refine aw_skip ?_); refine hK _ ?_; clear hK K)))
          refine aw_loop (fun q : Nat × Nat × List (List Int) => { tm := [(0, .a (.c (.s 0 L.length))), (1, .a (.c (.f 91 []))), (5, .i q.1), (6, .a (.c (.w 0 (k + 1) (L.length - (k + 1)) 1))), (7, .i (q.2.1 + 1 : Nat))], hp := [.r ⟨22, 1, true, cSets q.2.2⟩], n := 66, pin := 1 })
            (fun q => q.2.2.length = L.length ∧ (∀ x ∈ q.2.2, x ∈ L) ∧ q.1 ≤ k + 1 + q.2.1 ∧ k + 2 + q.2.1 ≤ L.length ∧ cmpA L = q.2.2.take q.1 ++ cmpGo (q.2.2.getD (k + 1 + q.2.1) []) (q.2.2.drop (k + 2 + q.2.1))) (fun q => L.length - q.2.1) (k + 1, 0, L) ?_ ?_ ?_
          · refine ⟨rfl, fun x h => h, by simp, by simp only; omega, ?_⟩
            have : L.getD (k + 1) [] = L[k + 1] := by simp [List.getD, hlt]
            simp only [Nat.add_zero, this]
            exact hI
          · (refine le_tm ?_; simp only [LeTm, evE, dSlice, dFunc, evT, reduceIte, reduceCtorEq, Nat.reduceEqDiff, Nat.reduceAdd, Nat.reduceMul, Nat.reduceSub, Nat.reduceDiv, Nat.reduceLT, Nat.reduceLeDiff, Nat.reduceBEq, Nat.reduceBNe, List.reduceReplicate, ty0, ty3, ty4, ty22, ty36, ty81, ty160, ty224]; try simp)
          · clear hI
            rintro ⟨m, j, ys⟩ ⟨hyl, hys, hm, hj, he⟩ K hK
            simp only at hyl hys hm hj he
            (repeat (first | (refine aw_seq ?_; intro K hK) | refine aw_block ?_ | refine aw_region ?_ | (refine lst_x rfl rfl ?_; intro K1 hK1; simp only [undef, evE, dSlice, dFunc, evT, reduceIte, reduceCtorEq, Nat.reduceEqDiff, Nat.reduceAdd, Nat.reduceMul, Nat.reduceSub, Nat.reduceDiv, Nat.reduceLT, Nat.reduceLeDiff, Nat.reduceBEq, Nat.reduceBNe, List.reduceReplicate, ty0, ty3, ty4, ty22, ty36, ty81, ty160, ty224]; first | (refine hK1 _ ?_; clear hK1 K1) | (refine ⟨by first | omega | (simp; done) | (simp; omega), hK1 _ ?_⟩; clear hK1 K1)) | ((first | refine lst_nil ?_ | refine aw_skip ?_); refine hK _ ?_; clear hK K)))
            (refine aw_cnd ?_; intro X Y hX hY; simp only [evE, dSlice, dFunc, evT, reduceIte, reduceCtorEq, Nat.reduceEqDiff, Nat.reduceAdd, Nat.reduceMul, Nat.reduceSub, Nat.reduceDiv, Nat.reduceLT, Nat.reduceLeDiff, Nat.reduceBEq, Nat.reduceBNe, List.reduceReplicate, ty0, ty3, ty4, ty22, ty36, ty81, ty160, ty224])
            refine ⟨fun h => hX ?_, fun h => hY ?_⟩
            · have hlt : k + 1 + (j + 1) < ys.length := by simp at h; omega
              have hlt0 : k + 1 + j < ys.length := by omega
              have hw : ((j + 1 : Nat) : Int) < ((L.length - (k + 1) : Nat) : Int) := by omega
              have hw0 : (j : Int) < ((L.length - (k + 1) : Nat) : Int) := by omega
              clear hX hY X Y h
              have e1 : ((j + 1 : Nat) : Int) - 1 = (j : Int) := by omega
              have g0 : ys.getD (k + 1 + j) [] = ys[k + 1 + j] := by simp [List.getD, hlt0]
              rw [g0, show k + 2 + j = k + 1 + (j + 1) from by omega] at he
              have hst := cmpGo_step he (by omega) (List.getElem?_eq_getElem hlt)
              (repeat (first | (refine aw_seq ?_; intro K hK) | refine aw_block ?_ | refine aw_region ?_ | (refine lst_x rfl rfl ?_; intro K1 hK1; simp only [undef, evE, dSlice, dFunc, evT, reduceIte, reduceCtorEq, Nat.reduceEqDiff, Nat.reduceAdd, Nat.reduceMul, Nat.reduceSub, Nat.reduceDiv, Nat.reduceLT, Nat.reduceLeDiff, Nat.reduceBEq, Nat.reduceBNe, List.reduceReplicate, ty0, ty3, ty4, ty22, ty36, ty81, ty160, ty224]; first | (refine hK1 _ ?_; clear hK1 K1) | (refine ⟨by first | omega | (simp; done) | (simp; omega), hK1 _ ?_⟩; clear hK1 K1)) | ((first | refine lst_nil ?_ | refine aw_skip ?_); refine hK _ ?_; clear hK K)))
              (refine aw_regionU 10 [(0, 0), (1, 0), (2, 0), (3, 0), (4, 1), (5, 0), (6, 0), (7, 0), (8, 0), (9, 1), (10, 2), (11, 0)] (by kernel_rfl) (by kernel_rfl) (by intro c st h; simp [ThenA, InBl, Ret] at h) ?_)
              (repeat (first | ((first | refine u_0x rfl rfl rfl ?_ | refine u_1x rfl rfl rfl ?_); intro K1 hK1; simp only [undef, evR, evE, dSlice, dFunc, evT, reduceIte, reduceCtorEq, Nat.reduceEqDiff, Nat.reduceAdd, Nat.reduceMul, Nat.reduceSub, Nat.reduceDiv, Nat.reduceLT, Nat.reduceLeDiff, Nat.reduceBEq, Nat.reduceBNe, List.reduceReplicate, ty0, ty3, ty4, ty22, ty36, ty81, ty160, ty224, e1, cSets_get (List.getElem?_eq_getElem hlt), cSets_get (List.getElem?_eq_getElem hlt0)]; first | (refine hK1 _ ?_; clear hK1 K1) | (refine ⟨by first | omega | (simp; done) | (simp; omega), hK1 _ ?_⟩; clear hK1 K1)) | (refine u_2x rfl rfl rfl rfl ?_; intro K1 hK1; simp only [undef, evR, evE, dSlice, dFunc, evT, reduceIte, reduceCtorEq, Nat.reduceEqDiff, Nat.reduceAdd, Nat.reduceMul, Nat.reduceSub, Nat.reduceDiv, Nat.reduceLT, Nat.reduceLeDiff, Nat.reduceBEq, Nat.reduceBNe, List.reduceReplicate, ty0, ty3, ty4, ty22, ty36, ty81, ty160, ty224, e1, cSets_get (List.getElem?_eq_getElem hlt), cSets_get (List.getElem?_eq_getElem hlt0)]; first | (refine hK1 _ ?_; clear hK1 K1) | (refine ⟨by first | omega | (simp; done) | (simp; omega), hK1 _ ?_⟩; clear hK1 K1)) | (refine u_nil ?_; refine hK _ ?_; clear hK K)))
              refine u_w rfl rfl rfl ?_; intro K1 hK1
              refine (stp_call0 (ids := []) (equal_fc ys[k + 1 + (j + 1)] ys[k + 1 + j] (hb _ (hys _ (List.getElem_mem hlt))) (hb _ (hys _ (List.getElem_mem hlt0)))) rfl rfl (by simp only [evE, dSlice, dFunc, evT, reduceIte, reduceCtorEq, Nat.reduceEqDiff, Nat.reduceAdd, Nat.reduceMul, Nat.reduceSub, Nat.reduceDiv, Nat.reduceLT, Nat.reduceLeDiff, Nat.reduceBEq, Nat.reduceBNe, List.reduceReplicate, ty0, ty3, ty4, ty22, ty36, ty81, ty160, ty224]) (by kernel_rfl) (by (simp only [List.getElem_toArray, List.getElem_cons_zero, List.getElem_cons_succ, clos, List.append_nil, AV.ren, A0.ren, C.ren, evE, dSlice, dFunc, evT, reduceIte, reduceCtorEq, Nat.reduceEqDiff, Nat.reduceAdd, Nat.reduceMul, Nat.reduceSub, Nat.reduceDiv, Nat.reduceLT, Nat.reduceLeDiff, Nat.reduceBEq, Nat.reduceBNe, List.reduceReplicate, ty0, ty3, ty4, ty22, ty36, ty81, ty160, ty224]) <;> rfl) ?_).stp
              rintro _ _ ⟨rfl, rfl⟩
              (simp only [evR, aInts, aSets, ST.back, nbTm, setAll, upn, AV.up, A0.up, C.up, Ob.up, AV.nb, A0.nb, C.nb, ofTr_up, List.contains_cons, List.contains_nil, List.getD_cons_zero, List.getD_cons_succ, List.set_cons_zero, List.set_cons_succ, List.append_nil, List.nil_append, List.length_map, evE, dSlice, dFunc, evT, reduceIte, reduceCtorEq, Nat.reduceEqDiff, Nat.reduceAdd, Nat.reduceMul, Nat.reduceSub, Nat.reduceDiv, Nat.reduceLT, Nat.reduceLeDiff, Nat.reduceBEq, Nat.reduceBNe, List.reduceReplicate, ty0, ty3, ty4, ty22, ty36, ty81, ty160, ty224]; refine hK1 _ ?_; clear hK1 K1)
              (repeat (first | ((first | refine u_0x rfl rfl rfl ?_ | refine u_1x rfl rfl rfl ?_); intro K1 hK1; simp only [undef, evR, evE, dSlice, dFunc, evT, reduceIte, reduceCtorEq, Nat.reduceEqDiff, Nat.reduceAdd, Nat.reduceMul, Nat.reduceSub, Nat.reduceDiv, Nat.reduceLT, Nat.reduceLeDiff, Nat.reduceBEq, Nat.reduceBNe, List.reduceReplicate, ty0, ty3, ty4, ty22, ty36, ty81, ty160, ty224]; first | (refine hK1 _ ?_; clear hK1 K1) | (refine ⟨by first | omega | (simp; done) | (simp; omega), hK1 _ ?_⟩; clear hK1 K1)) | (refine u_2x rfl rfl rfl rfl ?_; intro K1 hK1; simp only [undef, evR, evE, dSlice, dFunc, evT, reduceIte, reduceCtorEq, Nat.reduceEqDiff, Nat.reduceAdd, Nat.reduceMul, Nat.reduceSub, Nat.reduceDiv, Nat.reduceLT, Nat.reduceLeDiff, Nat.reduceBEq, Nat.reduceBNe, List.reduceReplicate, ty0, ty3, ty4, ty22, ty36, ty81, ty160, ty224]; first | (refine hK1 _ ?_; clear hK1 K1) | (refine ⟨by first | omega | (simp; done) | (simp; omega), hK1 _ ?_⟩; clear hK1 K1)) | (refine u_nil ?_; refine hK _ ?_; clear hK K)))
              (refine aw_cnd ?_; intro X Y hX hY; simp only [evE, dSlice, dFunc, evT, reduceIte, reduceCtorEq, Nat.reduceEqDiff, Nat.reduceAdd, Nat.reduceMul, Nat.reduceSub, Nat.reduceDiv, Nat.reduceLT, Nat.reduceLeDiff, Nat.reduceBEq, Nat.reduceBNe, List.reduceReplicate, ty0, ty3, ty4, ty22, ty36, ty81, ty160, ty224])
              refine ⟨fun h => hX ?_, fun h => hY ?_⟩
              · clear hX hY X Y
                have hne : ys[k + 1 + (j + 1)] ≠ ys[k + 1 + j] := by simpa using h
                clear h
                have hm1 : m < ys.length := by omega
                (repeat (first | (refine aw_seq ?_; intro K hK) | refine aw_block ?_ | refine aw_region ?_ | (refine lst_x rfl rfl ?_; intro K1 hK1; simp only [undef, evE, dSlice, dFunc, evT, reduceIte, reduceCtorEq, Nat.reduceEqDiff, Nat.reduceAdd, Nat.reduceMul, Nat.reduceSub, Nat.reduceDiv, Nat.reduceLT, Nat.reduceLeDiff, Nat.reduceBEq, Nat.reduceBNe, List.reduceReplicate, ty0, ty3, ty4, ty22, ty36, ty81, ty160, ty224, cSets_get (List.getElem?_eq_getElem hlt), cSets_len]; first | (refine hK1 _ ?_; clear hK1 K1) | (refine ⟨by first | omega | (simp; done) | (simp; omega), hK1 _ ?_⟩; clear hK1 K1)) | ((first | refine lst_nil ?_ | refine aw_skip ?_); refine hK _ ?_; clear hK K)))
                ((try refine lst_nil ?_); (try refine aw_skip ?_); try simp only [ThenA])
                have hst2 := hst.2.1 hne
                have hpp : (ys.set m ys[k + 1 + (j + 1)]).getD (k + 1 + (j + 1)) [] = ys[k + 1 + (j + 1)] := by
                  rw [List.getD, List.getElem?_set_ne (by omega), List.getElem?_eq_getElem hlt]; rfl
                refine hK _ (m + 1, j + 1, ys.set m ys[k + 1 + (j + 1)]) ⟨by simp [hyl], ?_, by simp only; omega, by simp only; omega, ?_⟩ (by simp only; omega) ?_
                · intro x hx
                  rcases List.mem_or_eq_of_mem_set hx with hx | rfl
                  · exact hys x hx
                  · exact hys _ (List.getElem_mem hlt)
                · simp only
                  rw [hpp, show k + 2 + (j + 1) = k + 1 + (j + 1) + 1 from by omega]
                  exact hst2
                · simp only [cSets_set]
                  (refine le_tm ?_; simp only [LeTm, evE, dSlice, dFunc, evT, reduceIte, reduceCtorEq, Nat.reduceEqDiff, Nat.reduceAdd, Nat.reduceMul, Nat.reduceSub, Nat.reduceDiv, Nat.reduceLT, Nat.reduceLeDiff, Nat.reduceBEq, Nat.reduceBNe, List.reduceReplicate, ty0, ty3, ty4, ty22, ty36, ty81, ty160, ty224]; try simp)
              · clear hX hY X Y
                have heq : ys[k + 1 + (j + 1)] = ys[k + 1 + j] := by simpa using h
                clear h
                (repeat (first | (refine aw_seq ?_; intro K hK) | refine aw_block ?_ | refine aw_region ?_ | (refine lst_x rfl rfl ?_; intro K1 hK1; simp only [undef, evE, dSlice, dFunc, evT, reduceIte, reduceCtorEq, Nat.reduceEqDiff, Nat.reduceAdd, Nat.reduceMul, Nat.reduceSub, Nat.reduceDiv, Nat.reduceLT, Nat.reduceLeDiff, Nat.reduceBEq, Nat.reduceBNe, List.reduceReplicate, ty0, ty3, ty4, ty22, ty36, ty81, ty160, ty224]; first | (refine hK1 _ ?_; clear hK1 K1) | (refine ⟨by first | omega | (simp; done) | (simp; omega), hK1 _ ?_⟩; clear hK1 K1)) | ((first | refine lst_nil ?_ | refine aw_skip ?_); refine hK _ ?_; clear hK K)))
                ((try refine lst_nil ?_); (try refine aw_skip ?_); try simp only [ThenA])
                refine hK _ (m, j + 1, ys) ⟨hyl, hys, by simp only; omega, by simp only; omega, ?_⟩ (by simp only; omega) ?_
                · have h1 := hst.1 heq
                  have : ys.getD (k + 1 + (j + 1)) [] = ys[k + 1 + (j + 1)] := by simp [List.getD, hlt]
                  simp only
                  rw [this, show k + 2 + (j + 1) = k + 1 + (j + 1) + 1 from by omega]
                  exact h1
                · (refine le_tm ?_; simp only [LeTm, evE, dSlice, dFunc, evT, reduceIte, reduceCtorEq, Nat.reduceEqDiff, Nat.reduceAdd, Nat.reduceMul, Nat.reduceSub, Nat.reduceDiv, Nat.reduceLT, Nat.reduceLeDiff, Nat.reduceBEq, Nat.reduceBNe, List.reduceReplicate, ty0, ty3, ty4, ty22, ty36, ty81, ty160, ty224]; try simp)
            · clear hX hY X Y
              (refine aw_exit ?_; simp only [ThenA, InBl, reduceIte, Nat.reduceEqDiff]; (first | refine hK _ ?_ | (clear hK K; refine hK _ ?_) | (clear hK K; clear hK K; refine hK _ ?_) | (clear hK K; clear hK K; clear hK K; refine hK _ ?_) | (clear hK K; clear hK K; clear hK K; clear hK K; refine hK _ ?_) | (clear hK K; clear hK K; clear hK K; clear hK K; clear hK K; refine hK _ ?_)); clear hK K)
              have hend : ys.length ≤ k + 2 + j := by simp at h; omega
              have hfin := cmpGo_end he hend
              have hm2 : m < L.length := by omega
              (repeat (first | (refine aw_seq ?_; intro K hK) | refine aw_block ?_ | refine aw_region ?_ | (refine lst_x rfl rfl ?_; intro K1 hK1; simp only [undef, evE, dSlice, dFunc, evT, reduceIte, reduceCtorEq, Nat.reduceEqDiff, Nat.reduceAdd, Nat.reduceMul, Nat.reduceSub, Nat.reduceDiv, Nat.reduceLT, Nat.reduceLeDiff, Nat.reduceBEq, Nat.reduceBNe, List.reduceReplicate, ty0, ty3, ty4, ty22, ty36, ty81, ty160, ty224]; first | (refine hK1 _ ?_; clear hK1 K1) | (refine ⟨by first | omega | (simp; done) | (simp; omega), hK1 _ ?_⟩; clear hK1 K1)) | ((first | refine lst_nil ?_ | refine aw_skip ?_); refine hK _ ?_; clear hK K)))
              refine lst_cons rfl ?_; intro K1 hK1
              refine stp_clear (n := L.length - m) (off := m) (k := 1) (id := 0) rfl rfl Tryz.underlying36 ty22 (by simp only [evE, dSlice, dFunc, evT, reduceIte, reduceCtorEq, Nat.reduceEqDiff, Nat.reduceAdd, Nat.reduceMul, Nat.reduceSub, Nat.reduceDiv, Nat.reduceLT, Nat.reduceLeDiff, Nat.reduceBEq, Nat.reduceBNe, List.reduceReplicate, ty0, ty3, ty4, ty22, ty36, ty81, ty160, ty224]) rfl (by omega) rfl rfl (by rw [cSets_len]; omega) ?_
              intro zs hz1 hz2
              have hset : setC (cSets ys) m zs = cSets (ys.take m) ++ zs := by
                rw [setC_app _ _ _ (by rw [cSets_len]; omega)]
                simp [cSets, List.map_take]
              simp only [hset, List.set_cons_zero, evE, dSlice, dFunc, evT, reduceIte, reduceCtorEq, Nat.reduceEqDiff, Nat.reduceAdd, Nat.reduceMul, Nat.reduceSub, Nat.reduceDiv, Nat.reduceLT, Nat.reduceLeDiff, Nat.reduceBEq, Nat.reduceBNe, List.reduceReplicate, ty0, ty3, ty4, ty22, ty36, ty81, ty160, ty224]
              refine hK1 _ ?_; clear hK1 K1
              (repeat (first | (refine aw_seq ?_; intro K hK) | refine aw_block ?_ | refine aw_region ?_ | (refine lst_x rfl rfl ?_; intro K1 hK1; simp only [undef, evE, dSlice, dFunc, evT, reduceIte, reduceCtorEq, Nat.reduceEqDiff, Nat.reduceAdd, Nat.reduceMul, Nat.reduceSub, Nat.reduceDiv, Nat.reduceLT, Nat.reduceLeDiff, Nat.reduceBEq, Nat.reduceBNe, List.reduceReplicate, ty0, ty3, ty4, ty22, ty36, ty81, ty160, ty224]; first | (refine hK1 _ ?_; clear hK1 K1) | (refine ⟨by first | omega | (simp; done) | (simp; omega), hK1 _ ?_⟩; clear hK1 K1)) | ((first | refine lst_nil ?_ | refine aw_skip ?_); refine hK _ ?_; clear hK K)))
              ((try refine aw_ret ?_); (try refine lst_nil ?_); (try simp only [ThenA, InBl]); refine ret_mk (by first | exact .inl rfl | exact .inr rfl) rfl ?_; simp only [rtn, resA, resL, resV, Tryz.results90, evE, dSlice, dFunc, evT, reduceIte, reduceCtorEq, Nat.reduceEqDiff, Nat.reduceAdd, Nat.reduceMul, Nat.reduceSub, Nat.reduceDiv, Nat.reduceLT, Nat.reduceLeDiff, Nat.reduceBEq, Nat.reduceBNe, List.reduceReplicate, ty0, ty3, ty4, ty22, ty36, ty81, ty160, ty224])
              have hc : cmpA L = ys.take m := hfin
              rw [hc]
              refine ⟨by rw [List.length_take, Nat.min_eq_left (by omega)], zs, zs.map fun _ => Tr.l 1 [], ?_, rfl⟩
              have : zs = zs.map id := by simp
              rw [this, List.map_map]
              exact Fz.map fun c hc => by
                have := hz2 c hc
                simp at this
                subst this
                exact .inr ⟨rfl, 1, rfl⟩
        · clear hX hY X Y
          have hne : L[k + 1] ≠ L[k] := by simpa using h
          clear h
          (repeat (first | (refine aw_seq ?_; intro K hK) | refine aw_block ?_ | refine aw_region ?_ | (refine lst_x rfl rfl ?_; intro K1 hK1; simp only [undef, evE, dSlice, dFunc, evT, reduceIte, reduceCtorEq, Nat.reduceEqDiff, Nat.reduceAdd, Nat.reduceMul, Nat.reduceSub, Nat.reduceDiv, Nat.reduceLT, Nat.reduceLeDiff, Nat.reduceBEq, Nat.reduceBNe, List.reduceReplicate, ty0, ty3, ty4, ty22, ty36, ty81, ty160, ty224]; first | (refine hK1 _ ?_; clear hK1 K1) | (refine ⟨by first | omega | (simp; done) | (simp; omega), hK1 _ ?_⟩; clear hK1 K1)) | ((first | refine lst_nil ?_ | refine aw_skip ?_); refine hK _ ?_; clear hK K)))
          ((try refine lst_nil ?_); (try refine aw_skip ?_); try simp only [ThenA])
          refine hK _ (k + 1) ⟨hlt, ?_⟩ (by omega) ?_
          · have h1 := hst.2.1 hne
            rw [hst.2.2 hne rfl] at h1
            have : L.getD (k + 1) [] = L[k + 1] := by simp [List.getD, hlt]
            rw [this]
            exact h1
          · (refine le_tm ?_; simp only [LeTm, evE, dSlice, dFunc, evT, reduceIte, reduceCtorEq, Nat.reduceEqDiff, Nat.reduceAdd, Nat.reduceMul, Nat.reduceSub, Nat.reduceDiv, Nat.reduceLT, Nat.reduceLeDiff, Nat.reduceBEq, Nat.reduceBNe, List.reduceReplicate, ty0, ty3, ty4, ty22, ty36, ty81, ty160, ty224]; try simp)
      · have hge : k + 1 = L.length := by simp at h; omega
        clear hX hY X Y
        (refine aw_exit ?_; simp only [ThenA, InBl, reduceIte, Nat.reduceEqDiff]; (first | refine hK _ ?_ | (clear hK K; refine hK _ ?_) | (clear hK K; clear hK K; refine hK _ ?_) | (clear hK K; clear hK K; clear hK K; refine hK _ ?_) | (clear hK K; clear hK K; clear hK K; clear hK K; refine hK _ ?_) | (clear hK K; clear hK K; clear hK K; clear hK K; clear hK K; refine hK _ ?_)); clear hK K)
        (repeat (first | (refine aw_seq ?_; intro K hK) | refine aw_block ?_ | refine aw_region ?_ | (refine lst_x rfl rfl ?_; intro K1 hK1; simp only [undef, evE, dSlice, dFunc, evT, reduceIte, reduceCtorEq, Nat.reduceEqDiff, Nat.reduceAdd, Nat.reduceMul, Nat.reduceSub, Nat.reduceDiv, Nat.reduceLT, Nat.reduceLeDiff, Nat.reduceBEq, Nat.reduceBNe, List.reduceReplicate, ty0, ty3, ty4, ty22, ty36, ty81, ty160, ty224]; first | (refine hK1 _ ?_; clear hK1 K1) | (refine ⟨by first | omega | (simp; done) | (simp; omega), hK1 _ ?_⟩; clear hK1 K1)) | ((first | refine lst_nil ?_ | refine aw_skip ?_); refine hK _ ?_; clear hK K)))
        ((try refine aw_ret ?_); (try refine lst_nil ?_); (try simp only [ThenA, InBl]); refine ret_mk (by first | exact .inl rfl | exact .inr rfl) rfl ?_; simp only [rtn, resA, resL, resV, Tryz.results90, evE, dSlice, dFunc, evT, reduceIte, reduceCtorEq, Nat.reduceEqDiff, Nat.reduceAdd, Nat.reduceMul, Nat.reduceSub, Nat.reduceDiv, Nat.reduceLT, Nat.reduceLeDiff, Nat.reduceBEq, Nat.reduceBNe, List.reduceReplicate, ty0, ty3, ty4, ty22, ty36, ty81, ty160, ty224])
        have hc : cmpA L = L := by rw [he, hge]; simp [cmpGo]
        rw [hc]
        exact ⟨rfl, [], [], trivial, by simp⟩
end Go.Proofs.YtfjfllpcflddmaaGreat
