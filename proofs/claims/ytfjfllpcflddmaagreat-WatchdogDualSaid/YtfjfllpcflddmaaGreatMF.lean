/- Data as trees; slices.Clone, Index, Contains, IndexFunc, ContainsFunc. slices.Index, Contains, IndexFunc, ContainsFunc at []int. ascending, subset, cmp.Compare, slices.Compare, slices.Equal. -/
import Derived.Test.YtfjfllpcflddmaaGreatTy
import Derived.Test.YtfjfllpcflddmaaGreatME
import Derived.Test.YtfjfllpcflddmaaGreatTs1
namespace Go.Proofs.YtfjfllpcflddmaaGreat
set_option linter.unusedVariables false
set_option linter.unusedSimpArgs false
open Go.RowKit

def tInts (xs : List Int) : List Tr := xs.map fun x => .v (.int .i64 x)
def aInts (xs : List Int) : AV := .a (.c (.t 1 (tInts xs)))
def tSets (L : List (List Int)) : List Tr := L.map fun r => .l 1 (tInts r)
def aSets (L : List (List Int)) : AV := .a (.c (.t 1 (tSets L)))
def tArcs (xs : List (Int × Int)) : List Tr := xs.flatMap fun a => [.v (.int .i64 a.1), .v (.int .i64 a.2)]
def aArcs (xs : List (Int × Int)) : AV := .a (.c (.t 2 (tArcs xs)))
def tRows (R : List (List (Int × Int))) : List Tr := R.map fun r => .l 2 (tArcs r)
def aRows (R : List (List (Int × Int))) : AV := .a (.c (.t 1 (tRows R)))
def aLts (R : List (List (Int × Int))) : AV := .a (.g [.t 1 (tRows R)])
theorem tInts_len (xs : List Int) : (tInts xs).length = xs.length := by simp [tInts]
theorem tSets_len (xs : List (List Int)) : (tSets xs).length = xs.length := by simp [tSets]
theorem tRows_len (xs : List (List (Int × Int))) : (tRows xs).length = xs.length := by simp [tRows]
theorem tArcs_len (xs : List (Int × Int)) : (tArcs xs).length = xs.length * 2 := by
  induction xs with
  | nil => rfl
  | cons x r ih => simp only [tArcs, List.flatMap_cons, List.length_append, List.length_cons, List.length_nil] at ih ⊢; omega
theorem tInts_get {xs : List Int} {i : Nat} {x : Int} (h : xs[i]? = some x) : (tInts xs)[i]? = some (.v (.int .i64 x)) := by simp [tInts, h]
theorem tSets_get {xs : List (List Int)} {i : Nat} {x : List Int} (h : xs[i]? = some x) : (tSets xs)[i]? = some (.l 1 (tInts x)) := by simp [tSets, h]
theorem tRows_get {xs : List (List (Int × Int))} {i : Nat} {x : List (Int × Int)} (h : xs[i]? = some x) : (tRows xs)[i]? = some (.l 2 (tArcs x)) := by simp [tRows, h]
theorem tInts_of (xs : List Int) : (tInts xs).map C.ofTr = xs.map fun x => .v (.int .i64 x) := by simp [tInts, C.ofTr, Function.comp_def]
theorem tSets_of (xs : List (List Int)) : (tSets xs).map C.ofTr = xs.map fun x => .t 1 (tInts x) := by simp [tSets, C.ofTr, Function.comp_def]

theorem ofTr_ren (ρ : List Nat) (ts : List Tr) : (ts.map C.ofTr).map (C.ren ρ) = ts.map C.ofTr := by
  simp only [List.map_map]
  exact List.map_congr_left fun t _ => by cases t <;> rfl
theorem ofTr_up (f : Nat → Nat) (ts : List Tr) : (ts.map C.ofTr).map (C.up f) = ts.map C.ofTr := by
  simp only [List.map_map]
  exact List.map_congr_left fun t _ => by cases t <;> rfl
set_option maxRecDepth 100000 in
theorem clone_ints (ts : List Tr) (hn : ts.length ≤ 100000000) : FC Tryz.prog 93 [.a (.c (.t 1 ts))] [] (fun r o => r = .a (.c (.s 0 (ts.length / 1))) ∧ o = [.r ⟨3, 1, true, ts.map C.ofTr⟩]) := by
  refine fc_intro Tryz.func93 rfl (by rw [Tryz.ntmps93]; simp) ?_
  rw [Tryz.ntmps93]
  simp only [enum]
  (repeat (first | (refine aw_seq ?_; intro K hK) | refine aw_block ?_ | refine aw_region ?_ | (refine lst_x rfl rfl ?_; intro K1 hK1; simp only [undef, evE, dSlice, dFunc, evT, reduceIte, reduceCtorEq, Nat.reduceEqDiff, Nat.reduceAdd, Nat.reduceMul, Nat.reduceSub, Nat.reduceDiv, Nat.reduceLT, Nat.reduceLeDiff, Nat.reduceBEq, Nat.reduceBNe, List.reduceReplicate, ty0, ty3, ty22, ty36, ty49, ty74, ty96, ty129, ty130, ty131, ty187, ty188]; first | (refine hK1 _ ?_; clear hK1 K1) | (refine ⟨by first | omega | (simp; done) | (simp; omega), hK1 _ ?_⟩; clear hK1 K1)) | ((first | refine lst_nil ?_ | refine aw_skip ?_); refine hK _ ?_; clear hK K)))
  refine lst_cons rfl ?_; intro K1 hK1
  refine stp_nil rfl rfl Tryz.underlying22 (.inl rfl) (.inl ⟨1, ts, by simp only [evE, dSlice, dFunc, evT, reduceIte, reduceCtorEq, Nat.reduceEqDiff, Nat.reduceAdd, Nat.reduceMul, Nat.reduceSub, Nat.reduceDiv, Nat.reduceLT, Nat.reduceLeDiff, Nat.reduceBEq, Nat.reduceBNe, List.reduceReplicate, ty0, ty3, ty22, ty36, ty49, ty74, ty96, ty129, ty130, ty131, ty187, ty188], ?_⟩)
  intro b hb
  simp only [evE, dSlice, dFunc, evT, reduceIte, reduceCtorEq, Nat.reduceEqDiff, Nat.reduceAdd, Nat.reduceMul, Nat.reduceSub, Nat.reduceDiv, Nat.reduceLT, Nat.reduceLeDiff, Nat.reduceBEq, Nat.reduceBNe, List.reduceReplicate, ty0, ty3, ty22, ty36, ty49, ty74, ty96, ty129, ty130, ty131, ty187, ty188]
  refine hK1 _ ?_; clear hK1 K1
  (repeat (first | (refine aw_seq ?_; intro K hK) | refine aw_block ?_ | refine aw_region ?_ | (refine lst_x rfl rfl ?_; intro K1 hK1; simp only [undef, evE, dSlice, dFunc, evT, reduceIte, reduceCtorEq, Nat.reduceEqDiff, Nat.reduceAdd, Nat.reduceMul, Nat.reduceSub, Nat.reduceDiv, Nat.reduceLT, Nat.reduceLeDiff, Nat.reduceBEq, Nat.reduceBNe, List.reduceReplicate, ty0, ty3, ty22, ty36, ty49, ty74, ty96, ty129, ty130, ty131, ty187, ty188]; first | (refine hK1 _ ?_; clear hK1 K1) | (refine ⟨by first | omega | (simp; done) | (simp; omega), hK1 _ ?_⟩; clear hK1 K1)) | ((first | refine lst_nil ?_ | refine aw_skip ?_); refine hK _ ?_; clear hK K)))
  (refine aw_cnd ?_; intro X Y hX hY; simp only [evE, dSlice, dFunc, evT, reduceIte, reduceCtorEq, Nat.reduceEqDiff, Nat.reduceAdd, Nat.reduceMul, Nat.reduceSub, Nat.reduceDiv, Nat.reduceLT, Nat.reduceLeDiff, Nat.reduceBEq, Nat.reduceBNe, List.reduceReplicate, ty0, ty3, ty22, ty36, ty49, ty74, ty96, ty129, ty130, ty131, ty187, ty188])
  refine ⟨fun h => hX ?_, fun h => hY ?_⟩
  · have hts := hb h
    subst hts
    (repeat (first | (refine aw_seq ?_; intro K hK) | refine aw_block ?_ | refine aw_region ?_ | (refine lst_x rfl rfl ?_; intro K1 hK1; simp only [undef, evE, dSlice, dFunc, evT, reduceIte, reduceCtorEq, Nat.reduceEqDiff, Nat.reduceAdd, Nat.reduceMul, Nat.reduceSub, Nat.reduceDiv, Nat.reduceLT, Nat.reduceLeDiff, Nat.reduceBEq, Nat.reduceBNe, List.reduceReplicate, ty0, ty3, ty22, ty36, ty49, ty74, ty96, ty129, ty130, ty131, ty187, ty188]; first | (refine hK1 _ ?_; clear hK1 K1) | (refine ⟨by first | omega | (simp; done) | (simp; omega), hK1 _ ?_⟩; clear hK1 K1)) | ((first | refine lst_nil ?_ | refine aw_skip ?_); refine hK _ ?_; clear hK K)))
    refine aw_ret ?_
    simp only [ThenA]
    refine ret_le (le_nil 2 3 1 ?_) ?_
    · simp only [evE, dSlice, dFunc, evT, reduceIte, reduceCtorEq, Nat.reduceEqDiff, Nat.reduceAdd, Nat.reduceMul, Nat.reduceSub, Nat.reduceDiv, Nat.reduceLT, Nat.reduceLeDiff, Nat.reduceBEq, Nat.reduceBNe, List.reduceReplicate, ty0, ty3, ty22, ty36, ty49, ty74, ty96, ty129, ty130, ty131, ty187, ty188]
    ((try refine aw_ret ?_); (try refine lst_nil ?_); (try simp only [ThenA, InBl]); refine ret_mk (by first | exact .inl rfl | exact .inr rfl) rfl ?_; simp only [rtn, resA, resL, resV, Tryz.results93, evE, dSlice, dFunc, evT, reduceIte, reduceCtorEq, Nat.reduceEqDiff, Nat.reduceAdd, Nat.reduceMul, Nat.reduceSub, Nat.reduceDiv, Nat.reduceLT, Nat.reduceLeDiff, Nat.reduceBEq, Nat.reduceBNe, List.reduceReplicate, ty0, ty3, ty22, ty36, ty49, ty74, ty96, ty129, ty130, ty131, ty187, ty188])
  · clear hX hY X Y
    (repeat (first | (refine aw_seq ?_; intro K hK) | refine aw_block ?_ | refine aw_region ?_ | (refine lst_x rfl rfl ?_; intro K1 hK1; simp only [undef, evE, dSlice, dFunc, evT, reduceIte, reduceCtorEq, Nat.reduceEqDiff, Nat.reduceAdd, Nat.reduceMul, Nat.reduceSub, Nat.reduceDiv, Nat.reduceLT, Nat.reduceLeDiff, Nat.reduceBEq, Nat.reduceBNe, List.reduceReplicate, ty0, ty3, ty22, ty36, ty49, ty74, ty96, ty129, ty130, ty131, ty187, ty188]; first | (refine hK1 _ ?_; clear hK1 K1) | (refine ⟨by first | omega | (simp; done) | (simp; omega), hK1 _ ?_⟩; clear hK1 K1)) | ((first | refine lst_nil ?_ | refine aw_skip ?_); refine hK _ ?_; clear hK K)))
    refine aw_ret ?_
    refine ret_le (le_pick [1] rfl rfl) ?_
    (simp only [ST.pick, AV.ren, A0.ren, C.ren, Ob.ren, idx, renIds, ofTr_ren, List.getD_cons_zero, List.getD_cons_succ, List.set_cons_zero, List.set_cons_succ, List.set_nil, List.take_nil, List.take_zero, List.map_append, evE, dSlice, dFunc, evT, reduceIte, reduceCtorEq, Nat.reduceEqDiff, Nat.reduceAdd, Nat.reduceMul, Nat.reduceSub, Nat.reduceDiv, Nat.reduceLT, Nat.reduceLeDiff, Nat.reduceBEq, Nat.reduceBNe, List.reduceReplicate, ty0, ty3, ty22, ty36, ty49, ty74, ty96, ty129, ty130, ty131, ty187, ty188])
    ((try refine aw_ret ?_); (try refine lst_nil ?_); (try simp only [ThenA, InBl]); refine ret_mk (by first | exact .inl rfl | exact .inr rfl) rfl ?_; simp only [rtn, resA, resL, resV, Tryz.results93, evE, dSlice, dFunc, evT, reduceIte, reduceCtorEq, Nat.reduceEqDiff, Nat.reduceAdd, Nat.reduceMul, Nat.reduceSub, Nat.reduceDiv, Nat.reduceLT, Nat.reduceLeDiff, Nat.reduceBEq, Nat.reduceBNe, List.reduceReplicate, ty0, ty3, ty22, ty36, ty49, ty74, ty96, ty129, ty130, ty131, ty187, ty188])
set_option maxRecDepth 100000 in
theorem clone_arcs (ts : List Tr) (hn : ts.length ≤ 100000000) : FC Tryz.prog 124 [.a (.c (.t 2 ts))] [] (fun r o => r = .a (.c (.s 0 (ts.length / 2))) ∧ o = [.r ⟨74, 2, true, ts.map C.ofTr⟩]) := by
  refine fc_intro Tryz.func124 rfl (by rw [Tryz.ntmps124]; simp) ?_
  rw [Tryz.ntmps124]
  simp only [enum]
  (repeat (first | (refine aw_seq ?_; intro K hK) | refine aw_block ?_ | refine aw_region ?_ | (refine lst_x rfl rfl ?_; intro K1 hK1; simp only [undef, evE, dSlice, dFunc, evT, reduceIte, reduceCtorEq, Nat.reduceEqDiff, Nat.reduceAdd, Nat.reduceMul, Nat.reduceSub, Nat.reduceDiv, Nat.reduceLT, Nat.reduceLeDiff, Nat.reduceBEq, Nat.reduceBNe, List.reduceReplicate, ty0, ty3, ty22, ty36, ty49, ty74, ty96, ty129, ty130, ty131, ty187, ty188]; first | (refine hK1 _ ?_; clear hK1 K1) | (refine ⟨by first | omega | (simp; done) | (simp; omega), hK1 _ ?_⟩; clear hK1 K1)) | ((first | refine lst_nil ?_ | refine aw_skip ?_); refine hK _ ?_; clear hK K)))
  refine lst_cons rfl ?_; intro K1 hK1
  refine stp_nil rfl rfl Tryz.underlying49 (.inl rfl) (.inl ⟨2, ts, by simp only [evE, dSlice, dFunc, evT, reduceIte, reduceCtorEq, Nat.reduceEqDiff, Nat.reduceAdd, Nat.reduceMul, Nat.reduceSub, Nat.reduceDiv, Nat.reduceLT, Nat.reduceLeDiff, Nat.reduceBEq, Nat.reduceBNe, List.reduceReplicate, ty0, ty3, ty22, ty36, ty49, ty74, ty96, ty129, ty130, ty131, ty187, ty188], ?_⟩)
  intro b hb
  simp only [evE, dSlice, dFunc, evT, reduceIte, reduceCtorEq, Nat.reduceEqDiff, Nat.reduceAdd, Nat.reduceMul, Nat.reduceSub, Nat.reduceDiv, Nat.reduceLT, Nat.reduceLeDiff, Nat.reduceBEq, Nat.reduceBNe, List.reduceReplicate, ty0, ty3, ty22, ty36, ty49, ty74, ty96, ty129, ty130, ty131, ty187, ty188]
  refine hK1 _ ?_; clear hK1 K1
  (repeat (first | (refine aw_seq ?_; intro K hK) | refine aw_block ?_ | refine aw_region ?_ | (refine lst_x rfl rfl ?_; intro K1 hK1; simp only [undef, evE, dSlice, dFunc, evT, reduceIte, reduceCtorEq, Nat.reduceEqDiff, Nat.reduceAdd, Nat.reduceMul, Nat.reduceSub, Nat.reduceDiv, Nat.reduceLT, Nat.reduceLeDiff, Nat.reduceBEq, Nat.reduceBNe, List.reduceReplicate, ty0, ty3, ty22, ty36, ty49, ty74, ty96, ty129, ty130, ty131, ty187, ty188]; first | (refine hK1 _ ?_; clear hK1 K1) | (refine ⟨by first | omega | (simp; done) | (simp; omega), hK1 _ ?_⟩; clear hK1 K1)) | ((first | refine lst_nil ?_ | refine aw_skip ?_); refine hK _ ?_; clear hK K)))
  (refine aw_cnd ?_; intro X Y hX hY; simp only [evE, dSlice, dFunc, evT, reduceIte, reduceCtorEq, Nat.reduceEqDiff, Nat.reduceAdd, Nat.reduceMul, Nat.reduceSub, Nat.reduceDiv, Nat.reduceLT, Nat.reduceLeDiff, Nat.reduceBEq, Nat.reduceBNe, List.reduceReplicate, ty0, ty3, ty22, ty36, ty49, ty74, ty96, ty129, ty130, ty131, ty187, ty188])
  refine ⟨fun h => hX ?_, fun h => hY ?_⟩
  · have hts := hb h
    subst hts
    (repeat (first | (refine aw_seq ?_; intro K hK) | refine aw_block ?_ | refine aw_region ?_ | (refine lst_x rfl rfl ?_; intro K1 hK1; simp only [undef, evE, dSlice, dFunc, evT, reduceIte, reduceCtorEq, Nat.reduceEqDiff, Nat.reduceAdd, Nat.reduceMul, Nat.reduceSub, Nat.reduceDiv, Nat.reduceLT, Nat.reduceLeDiff, Nat.reduceBEq, Nat.reduceBNe, List.reduceReplicate, ty0, ty3, ty22, ty36, ty49, ty74, ty96, ty129, ty130, ty131, ty187, ty188]; first | (refine hK1 _ ?_; clear hK1 K1) | (refine ⟨by first | omega | (simp; done) | (simp; omega), hK1 _ ?_⟩; clear hK1 K1)) | ((first | refine lst_nil ?_ | refine aw_skip ?_); refine hK _ ?_; clear hK K)))
    refine aw_ret ?_
    simp only [ThenA]
    refine ret_le (le_nil 2 74 2 ?_) ?_
    · simp only [evE, dSlice, dFunc, evT, reduceIte, reduceCtorEq, Nat.reduceEqDiff, Nat.reduceAdd, Nat.reduceMul, Nat.reduceSub, Nat.reduceDiv, Nat.reduceLT, Nat.reduceLeDiff, Nat.reduceBEq, Nat.reduceBNe, List.reduceReplicate, ty0, ty3, ty22, ty36, ty49, ty74, ty96, ty129, ty130, ty131, ty187, ty188]
    ((try refine aw_ret ?_); (try refine lst_nil ?_); (try simp only [ThenA, InBl]); refine ret_mk (by first | exact .inl rfl | exact .inr rfl) rfl ?_; simp only [rtn, resA, resL, resV, Tryz.results124, evE, dSlice, dFunc, evT, reduceIte, reduceCtorEq, Nat.reduceEqDiff, Nat.reduceAdd, Nat.reduceMul, Nat.reduceSub, Nat.reduceDiv, Nat.reduceLT, Nat.reduceLeDiff, Nat.reduceBEq, Nat.reduceBNe, List.reduceReplicate, ty0, ty3, ty22, ty36, ty49, ty74, ty96, ty129, ty130, ty131, ty187, ty188])
  · clear hX hY X Y
    (repeat (first | (refine aw_seq ?_; intro K hK) | refine aw_block ?_ | refine aw_region ?_ | (refine lst_x rfl rfl ?_; intro K1 hK1; simp only [undef, evE, dSlice, dFunc, evT, reduceIte, reduceCtorEq, Nat.reduceEqDiff, Nat.reduceAdd, Nat.reduceMul, Nat.reduceSub, Nat.reduceDiv, Nat.reduceLT, Nat.reduceLeDiff, Nat.reduceBEq, Nat.reduceBNe, List.reduceReplicate, ty0, ty3, ty22, ty36, ty49, ty74, ty96, ty129, ty130, ty131, ty187, ty188]; first | (refine hK1 _ ?_; clear hK1 K1) | (refine ⟨by first | omega | (simp; done) | (simp; omega), hK1 _ ?_⟩; clear hK1 K1)) | ((first | refine lst_nil ?_ | refine aw_skip ?_); refine hK _ ?_; clear hK K)))
    refine aw_ret ?_
    refine ret_le (le_pick [1] rfl rfl) ?_
    (simp only [ST.pick, AV.ren, A0.ren, C.ren, Ob.ren, idx, renIds, ofTr_ren, List.getD_cons_zero, List.getD_cons_succ, List.set_cons_zero, List.set_cons_succ, List.set_nil, List.take_nil, List.take_zero, List.map_append, evE, dSlice, dFunc, evT, reduceIte, reduceCtorEq, Nat.reduceEqDiff, Nat.reduceAdd, Nat.reduceMul, Nat.reduceSub, Nat.reduceDiv, Nat.reduceLT, Nat.reduceLeDiff, Nat.reduceBEq, Nat.reduceBNe, List.reduceReplicate, ty0, ty3, ty22, ty36, ty49, ty74, ty96, ty129, ty130, ty131, ty187, ty188])
    ((try refine aw_ret ?_); (try refine lst_nil ?_); (try simp only [ThenA, InBl]); refine ret_mk (by first | exact .inl rfl | exact .inr rfl) rfl ?_; simp only [rtn, resA, resL, resV, Tryz.results124, evE, dSlice, dFunc, evT, reduceIte, reduceCtorEq, Nat.reduceEqDiff, Nat.reduceAdd, Nat.reduceMul, Nat.reduceSub, Nat.reduceDiv, Nat.reduceLT, Nat.reduceLeDiff, Nat.reduceBEq, Nat.reduceBNe, List.reduceReplicate, ty0, ty3, ty22, ty36, ty49, ty74, ty96, ty129, ty130, ty131, ty187, ty188])
set_option maxRecDepth 100000 in
theorem clone_sets (ts : List Tr) (hn : ts.length ≤ 100000000) : FC Tryz.prog 87 [.a (.c (.t 1 ts))] [] (fun r o => r = .a (.c (.s 0 (ts.length / 1))) ∧ o = [.r ⟨22, 1, true, ts.map C.ofTr⟩]) := by
  refine fc_intro Tryz.func87 rfl (by rw [Tryz.ntmps87]; simp) ?_
  rw [Tryz.ntmps87]
  simp only [enum]
  (repeat (first | (refine aw_seq ?_; intro K hK) | refine aw_block ?_ | refine aw_region ?_ | (refine lst_x rfl rfl ?_; intro K1 hK1; simp only [undef, evE, dSlice, dFunc, evT, reduceIte, reduceCtorEq, Nat.reduceEqDiff, Nat.reduceAdd, Nat.reduceMul, Nat.reduceSub, Nat.reduceDiv, Nat.reduceLT, Nat.reduceLeDiff, Nat.reduceBEq, Nat.reduceBNe, List.reduceReplicate, ty0, ty3, ty22, ty36, ty49, ty74, ty96, ty129, ty130, ty131, ty187, ty188]; first | (refine hK1 _ ?_; clear hK1 K1) | (refine ⟨by first | omega | (simp; done) | (simp; omega), hK1 _ ?_⟩; clear hK1 K1)) | ((first | refine lst_nil ?_ | refine aw_skip ?_); refine hK _ ?_; clear hK K)))
  refine lst_cons rfl ?_; intro K1 hK1
  refine stp_nil rfl rfl Tryz.underlying36 (.inl rfl) (.inl ⟨1, ts, by simp only [evE, dSlice, dFunc, evT, reduceIte, reduceCtorEq, Nat.reduceEqDiff, Nat.reduceAdd, Nat.reduceMul, Nat.reduceSub, Nat.reduceDiv, Nat.reduceLT, Nat.reduceLeDiff, Nat.reduceBEq, Nat.reduceBNe, List.reduceReplicate, ty0, ty3, ty22, ty36, ty49, ty74, ty96, ty129, ty130, ty131, ty187, ty188], ?_⟩)
  intro b hb
  simp only [evE, dSlice, dFunc, evT, reduceIte, reduceCtorEq, Nat.reduceEqDiff, Nat.reduceAdd, Nat.reduceMul, Nat.reduceSub, Nat.reduceDiv, Nat.reduceLT, Nat.reduceLeDiff, Nat.reduceBEq, Nat.reduceBNe, List.reduceReplicate, ty0, ty3, ty22, ty36, ty49, ty74, ty96, ty129, ty130, ty131, ty187, ty188]
  refine hK1 _ ?_; clear hK1 K1
  (repeat (first | (refine aw_seq ?_; intro K hK) | refine aw_block ?_ | refine aw_region ?_ | (refine lst_x rfl rfl ?_; intro K1 hK1; simp only [undef, evE, dSlice, dFunc, evT, reduceIte, reduceCtorEq, Nat.reduceEqDiff, Nat.reduceAdd, Nat.reduceMul, Nat.reduceSub, Nat.reduceDiv, Nat.reduceLT, Nat.reduceLeDiff, Nat.reduceBEq, Nat.reduceBNe, List.reduceReplicate, ty0, ty3, ty22, ty36, ty49, ty74, ty96, ty129, ty130, ty131, ty187, ty188]; first | (refine hK1 _ ?_; clear hK1 K1) | (refine ⟨by first | omega | (simp; done) | (simp; omega), hK1 _ ?_⟩; clear hK1 K1)) | ((first | refine lst_nil ?_ | refine aw_skip ?_); refine hK _ ?_; clear hK K)))
  (refine aw_cnd ?_; intro X Y hX hY; simp only [evE, dSlice, dFunc, evT, reduceIte, reduceCtorEq, Nat.reduceEqDiff, Nat.reduceAdd, Nat.reduceMul, Nat.reduceSub, Nat.reduceDiv, Nat.reduceLT, Nat.reduceLeDiff, Nat.reduceBEq, Nat.reduceBNe, List.reduceReplicate, ty0, ty3, ty22, ty36, ty49, ty74, ty96, ty129, ty130, ty131, ty187, ty188])
  refine ⟨fun h => hX ?_, fun h => hY ?_⟩
  · have hts := hb h
    subst hts
    (repeat (first | (refine aw_seq ?_; intro K hK) | refine aw_block ?_ | refine aw_region ?_ | (refine lst_x rfl rfl ?_; intro K1 hK1; simp only [undef, evE, dSlice, dFunc, evT, reduceIte, reduceCtorEq, Nat.reduceEqDiff, Nat.reduceAdd, Nat.reduceMul, Nat.reduceSub, Nat.reduceDiv, Nat.reduceLT, Nat.reduceLeDiff, Nat.reduceBEq, Nat.reduceBNe, List.reduceReplicate, ty0, ty3, ty22, ty36, ty49, ty74, ty96, ty129, ty130, ty131, ty187, ty188]; first | (refine hK1 _ ?_; clear hK1 K1) | (refine ⟨by first | omega | (simp; done) | (simp; omega), hK1 _ ?_⟩; clear hK1 K1)) | ((first | refine lst_nil ?_ | refine aw_skip ?_); refine hK _ ?_; clear hK K)))
    refine aw_ret ?_
    simp only [ThenA]
    refine ret_le (le_nil 2 22 1 ?_) ?_
    · simp only [evE, dSlice, dFunc, evT, reduceIte, reduceCtorEq, Nat.reduceEqDiff, Nat.reduceAdd, Nat.reduceMul, Nat.reduceSub, Nat.reduceDiv, Nat.reduceLT, Nat.reduceLeDiff, Nat.reduceBEq, Nat.reduceBNe, List.reduceReplicate, ty0, ty3, ty22, ty36, ty49, ty74, ty96, ty129, ty130, ty131, ty187, ty188]
    ((try refine aw_ret ?_); (try refine lst_nil ?_); (try simp only [ThenA, InBl]); refine ret_mk (by first | exact .inl rfl | exact .inr rfl) rfl ?_; simp only [rtn, resA, resL, resV, Tryz.results87, evE, dSlice, dFunc, evT, reduceIte, reduceCtorEq, Nat.reduceEqDiff, Nat.reduceAdd, Nat.reduceMul, Nat.reduceSub, Nat.reduceDiv, Nat.reduceLT, Nat.reduceLeDiff, Nat.reduceBEq, Nat.reduceBNe, List.reduceReplicate, ty0, ty3, ty22, ty36, ty49, ty74, ty96, ty129, ty130, ty131, ty187, ty188])
  · clear hX hY X Y
    (repeat (first | (refine aw_seq ?_; intro K hK) | refine aw_block ?_ | refine aw_region ?_ | (refine lst_x rfl rfl ?_; intro K1 hK1; simp only [undef, evE, dSlice, dFunc, evT, reduceIte, reduceCtorEq, Nat.reduceEqDiff, Nat.reduceAdd, Nat.reduceMul, Nat.reduceSub, Nat.reduceDiv, Nat.reduceLT, Nat.reduceLeDiff, Nat.reduceBEq, Nat.reduceBNe, List.reduceReplicate, ty0, ty3, ty22, ty36, ty49, ty74, ty96, ty129, ty130, ty131, ty187, ty188]; first | (refine hK1 _ ?_; clear hK1 K1) | (refine ⟨by first | omega | (simp; done) | (simp; omega), hK1 _ ?_⟩; clear hK1 K1)) | ((first | refine lst_nil ?_ | refine aw_skip ?_); refine hK _ ?_; clear hK K)))
    refine aw_ret ?_
    refine ret_le (le_pick [1] rfl rfl) ?_
    (simp only [ST.pick, AV.ren, A0.ren, C.ren, Ob.ren, idx, renIds, ofTr_ren, List.getD_cons_zero, List.getD_cons_succ, List.set_cons_zero, List.set_cons_succ, List.set_nil, List.take_nil, List.take_zero, List.map_append, evE, dSlice, dFunc, evT, reduceIte, reduceCtorEq, Nat.reduceEqDiff, Nat.reduceAdd, Nat.reduceMul, Nat.reduceSub, Nat.reduceDiv, Nat.reduceLT, Nat.reduceLeDiff, Nat.reduceBEq, Nat.reduceBNe, List.reduceReplicate, ty0, ty3, ty22, ty36, ty49, ty74, ty96, ty129, ty130, ty131, ty187, ty188])
    ((try refine aw_ret ?_); (try refine lst_nil ?_); (try simp only [ThenA, InBl]); refine ret_mk (by first | exact .inl rfl | exact .inr rfl) rfl ?_; simp only [rtn, resA, resL, resV, Tryz.results87, evE, dSlice, dFunc, evT, reduceIte, reduceCtorEq, Nat.reduceEqDiff, Nat.reduceAdd, Nat.reduceMul, Nat.reduceSub, Nat.reduceDiv, Nat.reduceLT, Nat.reduceLeDiff, Nat.reduceBEq, Nat.reduceBNe, List.reduceReplicate, ty0, ty3, ty22, ty36, ty49, ty74, ty96, ty129, ty130, ty131, ty187, ty188])
end Go.Proofs.YtfjfllpcflddmaaGreat
namespace Go.Proofs.YtfjfllpcflddmaaGreat
set_option linter.unusedVariables false
set_option linter.unusedSimpArgs false
open Go.RowKit
set_option maxRecDepth 100000

theorem index_ints (xs : List Int) (x : Int) (hn : xs.length ≤ 140737488355328) : FC Tryz.prog 188 [aInts xs, .i x] [] (fun r o => o = [] ∧ ∃ n : Int, r = .i n ∧ -1 ≤ n ∧ (0 ≤ n ↔ x ∈ xs)) := by
  refine fc_intro Tryz.func188 rfl (by rw [Tryz.ntmps188]; simp) ?_
  rw [Tryz.ntmps188]
  simp only [enum, aInts]
  (repeat (first | (refine aw_seq ?_; intro K hK) | refine aw_block ?_ | refine aw_region ?_ | (refine lst_x rfl rfl ?_; intro K1 hK1; simp only [undef, evE, dSlice, dFunc, evT, reduceIte, reduceCtorEq, Nat.reduceEqDiff, Nat.reduceAdd, Nat.reduceMul, Nat.reduceSub, Nat.reduceDiv, Nat.reduceLT, Nat.reduceLeDiff, Nat.reduceBEq, Nat.reduceBNe, List.reduceReplicate, ty0, ty3, ty22, ty36, ty49, ty74, ty96, ty129, ty130, ty131, ty187, ty188]; first | (refine hK1 _ ?_; clear hK1 K1) | (refine ⟨by first | omega | (simp; done) | (simp; omega), hK1 _ ?_⟩; clear hK1 K1)) | ((first | refine lst_nil ?_ | refine aw_skip ?_); refine hK _ ?_; clear hK K)))
  refine aw_loop (fun k : Nat => { tm := [(0, .a (.c (.t 1 (tInts xs)))), (1, .i x), (7, .i xs.length), (8, .i k)], hp := [], n := 19, pin := 0 }) (fun k => k ≤ xs.length ∧ ∀ i, i < k → xs[i]? ≠ some x) (fun k => xs.length - k) 0 ?_ ?_ ?_
  · exact ⟨by omega, by intro i hi; omega⟩
  · refine le_tm ?_
    simp only [LeTm, tInts_len, evE, dSlice, dFunc, evT, reduceIte, reduceCtorEq, Nat.reduceEqDiff, Nat.reduceAdd, Nat.reduceMul, Nat.reduceSub, Nat.reduceDiv, Nat.reduceLT, Nat.reduceLeDiff, Nat.reduceBEq, Nat.reduceBNe, List.reduceReplicate, ty0, ty3, ty22, ty36, ty49, ty74, ty96, ty129, ty130, ty131, ty187, ty188]
    simp
  · rintro k ⟨hk, hno⟩ K hK
    (repeat (first | (refine aw_seq ?_; intro K hK) | refine aw_block ?_ | refine aw_region ?_ | (refine lst_x rfl rfl ?_; intro K1 hK1; simp only [undef, evE, dSlice, dFunc, evT, reduceIte, reduceCtorEq, Nat.reduceEqDiff, Nat.reduceAdd, Nat.reduceMul, Nat.reduceSub, Nat.reduceDiv, Nat.reduceLT, Nat.reduceLeDiff, Nat.reduceBEq, Nat.reduceBNe, List.reduceReplicate, ty0, ty3, ty22, ty36, ty49, ty74, ty96, ty129, ty130, ty131, ty187, ty188]; first | (refine hK1 _ ?_; clear hK1 K1) | (refine ⟨by first | omega | (simp; done) | (simp; omega), hK1 _ ?_⟩; clear hK1 K1)) | ((first | refine lst_nil ?_ | refine aw_skip ?_); refine hK _ ?_; clear hK K)))
    (refine aw_cnd ?_; intro X Y hX hY; simp only [evE, dSlice, dFunc, evT, reduceIte, reduceCtorEq, Nat.reduceEqDiff, Nat.reduceAdd, Nat.reduceMul, Nat.reduceSub, Nat.reduceDiv, Nat.reduceLT, Nat.reduceLeDiff, Nat.reduceBEq, Nat.reduceBNe, List.reduceReplicate, ty0, ty3, ty22, ty36, ty49, ty74, ty96, ty129, ty130, ty131, ty187, ty188])
    refine ⟨fun h => hX ?_, fun h => hY ?_⟩
    · have hlt : k < xs.length := by simpa using h
      clear hX hY X Y h
      (repeat (first | (refine aw_seq ?_; intro K hK) | refine aw_block ?_ | refine aw_region ?_ | (refine lst_x rfl rfl ?_; intro K1 hK1; simp only [undef, evE, dSlice, dFunc, evT, reduceIte, reduceCtorEq, Nat.reduceEqDiff, Nat.reduceAdd, Nat.reduceMul, Nat.reduceSub, Nat.reduceDiv, Nat.reduceLT, Nat.reduceLeDiff, Nat.reduceBEq, Nat.reduceBNe, List.reduceReplicate, ty0, ty3, ty22, ty36, ty49, ty74, ty96, ty129, ty130, ty131, ty187, ty188, tInts_len, tInts_get (List.getElem?_eq_getElem hlt)]; first | (refine hK1 _ ?_; clear hK1 K1) | (refine ⟨by first | omega | (simp; done) | (simp; omega), hK1 _ ?_⟩; clear hK1 K1)) | ((first | refine lst_nil ?_ | refine aw_skip ?_); refine hK _ ?_; clear hK K)))
      (refine aw_cnd ?_; intro X Y hX hY; simp only [evE, dSlice, dFunc, evT, reduceIte, reduceCtorEq, Nat.reduceEqDiff, Nat.reduceAdd, Nat.reduceMul, Nat.reduceSub, Nat.reduceDiv, Nat.reduceLT, Nat.reduceLeDiff, Nat.reduceBEq, Nat.reduceBNe, List.reduceReplicate, ty0, ty3, ty22, ty36, ty49, ty74, ty96, ty129, ty130, ty131, ty187, ty188])
      refine ⟨fun h => hX ?_, fun h => hY ?_⟩
      · clear hX hY X Y
        (repeat (first | (refine aw_seq ?_; intro K hK) | refine aw_block ?_ | refine aw_region ?_ | (refine lst_x rfl rfl ?_; intro K1 hK1; simp only [undef, evE, dSlice, dFunc, evT, reduceIte, reduceCtorEq, Nat.reduceEqDiff, Nat.reduceAdd, Nat.reduceMul, Nat.reduceSub, Nat.reduceDiv, Nat.reduceLT, Nat.reduceLeDiff, Nat.reduceBEq, Nat.reduceBNe, List.reduceReplicate, ty0, ty3, ty22, ty36, ty49, ty74, ty96, ty129, ty130, ty131, ty187, ty188]; first | (refine hK1 _ ?_; clear hK1 K1) | (refine ⟨by first | omega | (simp; done) | (simp; omega), hK1 _ ?_⟩; clear hK1 K1)) | ((first | refine lst_nil ?_ | refine aw_skip ?_); refine hK _ ?_; clear hK K)))
        ((try refine aw_ret ?_); (try refine lst_nil ?_); (try simp only [ThenA, InBl]); refine ret_mk (by first | exact .inl rfl | exact .inr rfl) rfl ?_; simp only [rtn, resA, resL, resV, Tryz.results188, evE, dSlice, dFunc, evT, reduceIte, reduceCtorEq, Nat.reduceEqDiff, Nat.reduceAdd, Nat.reduceMul, Nat.reduceSub, Nat.reduceDiv, Nat.reduceLT, Nat.reduceLeDiff, Nat.reduceBEq, Nat.reduceBNe, List.reduceReplicate, ty0, ty3, ty22, ty36, ty49, ty74, ty96, ty129, ty130, ty131, ty187, ty188])
        have hm : x ∈ xs := by rw [beq_iff_eq.1 h]; exact List.getElem_mem hlt
        exact ⟨k, rfl, by omega, by simp [hm]⟩
      · clear hX hY X Y
        (repeat (first | (refine aw_seq ?_; intro K hK) | refine aw_block ?_ | refine aw_region ?_ | (refine lst_x rfl rfl ?_; intro K1 hK1; simp only [undef, evE, dSlice, dFunc, evT, reduceIte, reduceCtorEq, Nat.reduceEqDiff, Nat.reduceAdd, Nat.reduceMul, Nat.reduceSub, Nat.reduceDiv, Nat.reduceLT, Nat.reduceLeDiff, Nat.reduceBEq, Nat.reduceBNe, List.reduceReplicate, ty0, ty3, ty22, ty36, ty49, ty74, ty96, ty129, ty130, ty131, ty187, ty188]; first | (refine hK1 _ ?_; clear hK1 K1) | (refine ⟨by first | omega | (simp; done) | (simp; omega), hK1 _ ?_⟩; clear hK1 K1)) | ((first | refine lst_nil ?_ | refine aw_skip ?_); refine hK _ ?_; clear hK K)))
        ((try refine lst_nil ?_); (try refine aw_skip ?_); try simp only [ThenA])
        refine hK _ (k + 1) ⟨by omega, fun i hi => ?_⟩ (by omega) ?_
        · by_cases e : i = k
          · subst e; rw [List.getElem?_eq_getElem hlt]; simpa using Ne.symm (beq_eq_false_iff_ne.1 h)
          · exact hno i (by omega)
        · refine le_tm ?_
          simp only [LeTm, evE, dSlice, dFunc, evT, reduceIte, reduceCtorEq, Nat.reduceEqDiff, Nat.reduceAdd, Nat.reduceMul, Nat.reduceSub, Nat.reduceDiv, Nat.reduceLT, Nat.reduceLeDiff, Nat.reduceBEq, Nat.reduceBNe, List.reduceReplicate, ty0, ty3, ty22, ty36, ty49, ty74, ty96, ty129, ty130, ty131, ty187, ty188]
          simp
    · have hge : k = xs.length := by simp at h; omega
      clear hX hY X Y
      (refine aw_exit ?_; simp only [ThenA, InBl, reduceIte, Nat.reduceEqDiff]; (first | refine hK _ ?_ | (clear hK K; refine hK _ ?_) | (clear hK K; clear hK K; refine hK _ ?_) | (clear hK K; clear hK K; clear hK K; refine hK _ ?_) | (clear hK K; clear hK K; clear hK K; clear hK K; refine hK _ ?_) | (clear hK K; clear hK K; clear hK K; clear hK K; clear hK K; refine hK _ ?_)); clear hK K)
      (repeat (first | (refine aw_seq ?_; intro K hK) | refine aw_block ?_ | refine aw_region ?_ | (refine lst_x rfl rfl ?_; intro K1 hK1; simp only [undef, evE, dSlice, dFunc, evT, reduceIte, reduceCtorEq, Nat.reduceEqDiff, Nat.reduceAdd, Nat.reduceMul, Nat.reduceSub, Nat.reduceDiv, Nat.reduceLT, Nat.reduceLeDiff, Nat.reduceBEq, Nat.reduceBNe, List.reduceReplicate, ty0, ty3, ty22, ty36, ty49, ty74, ty96, ty129, ty130, ty131, ty187, ty188]; first | (refine hK1 _ ?_; clear hK1 K1) | (refine ⟨by first | omega | (simp; done) | (simp; omega), hK1 _ ?_⟩; clear hK1 K1)) | ((first | refine lst_nil ?_ | refine aw_skip ?_); refine hK _ ?_; clear hK K)))
      ((try refine aw_ret ?_); (try refine lst_nil ?_); (try simp only [ThenA, InBl]); refine ret_mk (by first | exact .inl rfl | exact .inr rfl) rfl ?_; simp only [rtn, resA, resL, resV, Tryz.results188, evE, dSlice, dFunc, evT, reduceIte, reduceCtorEq, Nat.reduceEqDiff, Nat.reduceAdd, Nat.reduceMul, Nat.reduceSub, Nat.reduceDiv, Nat.reduceLT, Nat.reduceLeDiff, Nat.reduceBEq, Nat.reduceBNe, List.reduceReplicate, ty0, ty3, ty22, ty36, ty49, ty74, ty96, ty129, ty130, ty131, ty187, ty188])
      have hm : x ∉ xs := by
        intro hm
        obtain ⟨i, hi⟩ := List.mem_iff_getElem?.1 hm
        exact hno i (by rw [hge]; exact (List.getElem?_eq_some_iff.1 hi).1) hi
      exact ⟨-1, rfl, by omega, by simp [hm]⟩

theorem contains_ints (xs : List Int) (x : Int) (hn : xs.length ≤ 140737488355328) : FC Tryz.prog 131 [aInts xs, .i x] [] (fun r o => o = [] ∧ r = .b (decide (x ∈ xs))) := by
  refine fc_intro Tryz.func131 rfl (by rw [Tryz.ntmps131]; simp) ?_
  rw [Tryz.ntmps131]
  simp only [enum, aInts]
  (repeat (first | (refine aw_seq ?_; intro K hK) | refine aw_block ?_ | refine aw_region ?_ | (refine lst_x rfl rfl ?_; intro K1 hK1; simp only [undef, evE, dSlice, dFunc, evT, reduceIte, reduceCtorEq, Nat.reduceEqDiff, Nat.reduceAdd, Nat.reduceMul, Nat.reduceSub, Nat.reduceDiv, Nat.reduceLT, Nat.reduceLeDiff, Nat.reduceBEq, Nat.reduceBNe, List.reduceReplicate, ty0, ty3, ty22, ty36, ty49, ty74, ty96, ty129, ty130, ty131, ty187, ty188]; first | (refine hK1 _ ?_; clear hK1 K1) | (refine ⟨by first | omega | (simp; done) | (simp; omega), hK1 _ ?_⟩; clear hK1 K1)) | ((first | refine lst_nil ?_ | refine aw_skip ?_); refine hK _ ?_; clear hK K)))
  (refine lst_cons rfl ?_; intro K1 hK1; refine (stp_call0 (ids := []) (index_ints xs x hn) rfl rfl (by simp only [evE, dSlice, dFunc, evT, reduceIte, reduceCtorEq, Nat.reduceEqDiff, Nat.reduceAdd, Nat.reduceMul, Nat.reduceSub, Nat.reduceDiv, Nat.reduceLT, Nat.reduceLeDiff, Nat.reduceBEq, Nat.reduceBNe, List.reduceReplicate, ty0, ty3, ty22, ty36, ty49, ty74, ty96, ty129, ty130, ty131, ty187, ty188]) (by kernel_rfl) (by (simp only [clos, List.append_nil, AV.ren, A0.ren, C.ren, evE, dSlice, dFunc, evT, reduceIte, reduceCtorEq, Nat.reduceEqDiff, Nat.reduceAdd, Nat.reduceMul, Nat.reduceSub, Nat.reduceDiv, Nat.reduceLT, Nat.reduceLeDiff, Nat.reduceBEq, Nat.reduceBNe, List.reduceReplicate, ty0, ty3, ty22, ty36, ty49, ty74, ty96, ty129, ty130, ty131, ty187, ty188]) <;> rfl) ?_).stp)
  rintro _ _ ⟨rfl, n, rfl, hn1, hn2⟩
  (simp only [evR, aInts, aSets, ST.back, nbTm, setAll, upn, AV.up, A0.up, C.up, Ob.up, AV.nb, A0.nb, C.nb, ofTr_up, List.contains_cons, List.contains_nil, List.getD_cons_zero, List.getD_cons_succ, List.set_cons_zero, List.set_cons_succ, List.append_nil, List.nil_append, List.length_map, evE, dSlice, dFunc, evT, reduceIte, reduceCtorEq, Nat.reduceEqDiff, Nat.reduceAdd, Nat.reduceMul, Nat.reduceSub, Nat.reduceDiv, Nat.reduceLT, Nat.reduceLeDiff, Nat.reduceBEq, Nat.reduceBNe, List.reduceReplicate, ty0, ty3, ty22, ty36, ty49, ty74, ty96, ty129, ty130, ty131, ty187, ty188]; refine hK1 _ ?_; clear hK1 K1)
  (repeat (first | (refine aw_seq ?_; intro K hK) | refine aw_block ?_ | refine aw_region ?_ | (refine lst_x rfl rfl ?_; intro K1 hK1; simp only [undef, evE, dSlice, dFunc, evT, reduceIte, reduceCtorEq, Nat.reduceEqDiff, Nat.reduceAdd, Nat.reduceMul, Nat.reduceSub, Nat.reduceDiv, Nat.reduceLT, Nat.reduceLeDiff, Nat.reduceBEq, Nat.reduceBNe, List.reduceReplicate, ty0, ty3, ty22, ty36, ty49, ty74, ty96, ty129, ty130, ty131, ty187, ty188]; first | (refine hK1 _ ?_; clear hK1 K1) | (refine ⟨by first | omega | (simp; done) | (simp; omega), hK1 _ ?_⟩; clear hK1 K1)) | ((first | refine lst_nil ?_ | refine aw_skip ?_); refine hK _ ?_; clear hK K)))
  have e : decide (n ≥ 0) = decide (x ∈ xs) := by rw [Bool.eq_iff_iff, decide_eq_true_iff, decide_eq_true_iff]; exact hn2
  ((try refine aw_ret ?_); (try refine lst_nil ?_); (try simp only [ThenA, InBl]); refine ret_mk (by first | exact .inl rfl | exact .inr rfl) rfl ?_; simp only [rtn, resA, resL, resV, Tryz.results131, evE, dSlice, dFunc, evT, reduceIte, reduceCtorEq, Nat.reduceEqDiff, Nat.reduceAdd, Nat.reduceMul, Nat.reduceSub, Nat.reduceDiv, Nat.reduceLT, Nat.reduceLeDiff, Nat.reduceBEq, Nat.reduceBNe, List.reduceReplicate, ty0, ty3, ty22, ty36, ty49, ty74, ty96, ty129, ty130, ty131, ty187, ty188])
  simp only [e]

theorem indexFunc_ints (xs : List Int) (p : Int → Bool) (fn e k : Nat) (us : List Tr) (hn : xs.length ≤ 140737488355328) (hcal : callable Tryz.prog fn = true)
    (hf : ∀ x ∈ xs, FC Tryz.prog fn [.i x, .a (.c (.p 0 0))] [.r ⟨e, k, false, us.map C.ofTr⟩] (fun r o => o = [.r ⟨e, k, false, us.map C.ofTr⟩] ∧ r = .b (p x))) :
    FC Tryz.prog 187 [aInts xs, .a (.c (.f fn [0]))] [.r ⟨e, k, false, us.map C.ofTr⟩] (fun r o => o = [.r ⟨e, k, false, us.map C.ofTr⟩] ∧ ∃ n : Int, r = .i n ∧ -1 ≤ n ∧ (0 ≤ n ↔ xs.any p = true)) := by
  refine fc_intro Tryz.func187 rfl (by rw [Tryz.ntmps187]; simp) ?_
  rw [Tryz.ntmps187]
  simp only [enum, aInts]
  (repeat (first | (refine aw_seq ?_; intro K hK) | refine aw_block ?_ | refine aw_region ?_ | (refine lst_x rfl rfl ?_; intro K1 hK1; simp only [undef, evE, dSlice, dFunc, evT, reduceIte, reduceCtorEq, Nat.reduceEqDiff, Nat.reduceAdd, Nat.reduceMul, Nat.reduceSub, Nat.reduceDiv, Nat.reduceLT, Nat.reduceLeDiff, Nat.reduceBEq, Nat.reduceBNe, List.reduceReplicate, ty0, ty3, ty22, ty36, ty49, ty74, ty96, ty129, ty130, ty131, ty187, ty188]; first | (refine hK1 _ ?_; clear hK1 K1) | (refine ⟨by first | omega | (simp; done) | (simp; omega), hK1 _ ?_⟩; clear hK1 K1)) | ((first | refine lst_nil ?_ | refine aw_skip ?_); refine hK _ ?_; clear hK K)))
  refine aw_loop (fun i : Nat => { tm := [(0, .a (.c (.t 1 (tInts xs)))), (1, .a (.c (.f fn [0]))), (7, .i xs.length), (8, .i i)], hp := [.r ⟨e, k, false, us.map C.ofTr⟩], n := 19, pin := 1 }) (fun i => i ≤ xs.length ∧ ∀ j x, j < i → xs[j]? = some x → p x = false) (fun i => xs.length - i) 0 ?_ ?_ ?_
  · exact ⟨by omega, by intro i x hi; omega⟩
  · refine le_tm ?_
    simp only [LeTm, tInts_len, evE, dSlice, dFunc, evT, reduceIte, reduceCtorEq, Nat.reduceEqDiff, Nat.reduceAdd, Nat.reduceMul, Nat.reduceSub, Nat.reduceDiv, Nat.reduceLT, Nat.reduceLeDiff, Nat.reduceBEq, Nat.reduceBNe, List.reduceReplicate, ty0, ty3, ty22, ty36, ty49, ty74, ty96, ty129, ty130, ty131, ty187, ty188]
    simp
  · rintro i ⟨hk, hno⟩ K hK
    (repeat (first | (refine aw_seq ?_; intro K hK) | refine aw_block ?_ | refine aw_region ?_ | (refine lst_x rfl rfl ?_; intro K1 hK1; simp only [undef, evE, dSlice, dFunc, evT, reduceIte, reduceCtorEq, Nat.reduceEqDiff, Nat.reduceAdd, Nat.reduceMul, Nat.reduceSub, Nat.reduceDiv, Nat.reduceLT, Nat.reduceLeDiff, Nat.reduceBEq, Nat.reduceBNe, List.reduceReplicate, ty0, ty3, ty22, ty36, ty49, ty74, ty96, ty129, ty130, ty131, ty187, ty188]; first | (refine hK1 _ ?_; clear hK1 K1) | (refine ⟨by first | omega | (simp; done) | (simp; omega), hK1 _ ?_⟩; clear hK1 K1)) | ((first | refine lst_nil ?_ | refine aw_skip ?_); refine hK _ ?_; clear hK K)))
    (refine aw_cnd ?_; intro X Y hX hY; simp only [evE, dSlice, dFunc, evT, reduceIte, reduceCtorEq, Nat.reduceEqDiff, Nat.reduceAdd, Nat.reduceMul, Nat.reduceSub, Nat.reduceDiv, Nat.reduceLT, Nat.reduceLeDiff, Nat.reduceBEq, Nat.reduceBNe, List.reduceReplicate, ty0, ty3, ty22, ty36, ty49, ty74, ty96, ty129, ty130, ty131, ty187, ty188])
    refine ⟨fun h => hX ?_, fun h => hY ?_⟩
    · have hlt : i < xs.length := by simpa using h
      clear hX hY X Y h
      (repeat (first | (refine aw_seq ?_; intro K hK) | refine aw_block ?_ | refine aw_region ?_ | (refine lst_x rfl rfl ?_; intro K1 hK1; simp only [undef, evE, dSlice, dFunc, evT, reduceIte, reduceCtorEq, Nat.reduceEqDiff, Nat.reduceAdd, Nat.reduceMul, Nat.reduceSub, Nat.reduceDiv, Nat.reduceLT, Nat.reduceLeDiff, Nat.reduceBEq, Nat.reduceBNe, List.reduceReplicate, ty0, ty3, ty22, ty36, ty49, ty74, ty96, ty129, ty130, ty131, ty187, ty188, tInts_len, tInts_get (List.getElem?_eq_getElem hlt)]; first | (refine hK1 _ ?_; clear hK1 K1) | (refine ⟨by first | omega | (simp; done) | (simp; omega), hK1 _ ?_⟩; clear hK1 K1)) | ((first | refine lst_nil ?_ | refine aw_skip ?_); refine hK _ ?_; clear hK K)))
      (refine lst_cons rfl ?_; intro K1 hK1; refine stp_callσ (ids := [0]) [0] (hf xs[i] (List.getElem_mem hlt)) rfl rfl (by simp only [evE, dSlice, dFunc, evT, reduceIte, reduceCtorEq, Nat.reduceEqDiff, Nat.reduceAdd, Nat.reduceMul, Nat.reduceSub, Nat.reduceDiv, Nat.reduceLT, Nat.reduceLeDiff, Nat.reduceBEq, Nat.reduceBNe, List.reduceReplicate, ty0, ty3, ty22, ty36, ty49, ty74, ty96, ty129, ty130, ty131, ty187, ty188]) (by first | assumption | kernel_rfl) rfl rfl (by (simp only [clos, List.map_append, List.append_nil, AV.ren, A0.ren, C.ren, idx, renIds, ofTr_ren, evE, dSlice, dFunc, evT, reduceIte, reduceCtorEq, Nat.reduceEqDiff, Nat.reduceAdd, Nat.reduceMul, Nat.reduceSub, Nat.reduceDiv, Nat.reduceLT, Nat.reduceLeDiff, Nat.reduceBEq, Nat.reduceBNe, List.reduceReplicate, ty0, ty3, ty22, ty36, ty49, ty74, ty96, ty129, ty130, ty131, ty187, ty188]) <;> rfl) (by (simp only [pkh, Ob.ren, C.ren, idx, renIds, ofTr_ren, List.getD_cons_zero, List.getD_cons_succ, evE, dSlice, dFunc, evT, reduceIte, reduceCtorEq, Nat.reduceEqDiff, Nat.reduceAdd, Nat.reduceMul, Nat.reduceSub, Nat.reduceDiv, Nat.reduceLT, Nat.reduceLeDiff, Nat.reduceBEq, Nat.reduceBNe, List.reduceReplicate, ty0, ty3, ty22, ty36, ty49, ty74, ty96, ty129, ty130, ty131, ty187, ty188]) <;> rfl) ?_ ?_)
      · rintro _ _ ⟨rfl, rfl⟩; rfl
      rintro _ _ ⟨rfl, rfl⟩
      (simp only [evR, aInts, aSets, ST.back, nbTm, setAll, upn, AV.up, A0.up, C.up, Ob.up, AV.nb, A0.nb, C.nb, ofTr_up, List.contains_cons, List.contains_nil, List.getD_cons_zero, List.getD_cons_succ, List.set_cons_zero, List.set_cons_succ, List.append_nil, List.nil_append, List.length_map, evE, dSlice, dFunc, evT, reduceIte, reduceCtorEq, Nat.reduceEqDiff, Nat.reduceAdd, Nat.reduceMul, Nat.reduceSub, Nat.reduceDiv, Nat.reduceLT, Nat.reduceLeDiff, Nat.reduceBEq, Nat.reduceBNe, List.reduceReplicate, ty0, ty3, ty22, ty36, ty49, ty74, ty96, ty129, ty130, ty131, ty187, ty188]; refine hK1 _ ?_; clear hK1 K1)
      (repeat (first | (refine aw_seq ?_; intro K hK) | refine aw_block ?_ | refine aw_region ?_ | (refine lst_x rfl rfl ?_; intro K1 hK1; simp only [undef, evE, dSlice, dFunc, evT, reduceIte, reduceCtorEq, Nat.reduceEqDiff, Nat.reduceAdd, Nat.reduceMul, Nat.reduceSub, Nat.reduceDiv, Nat.reduceLT, Nat.reduceLeDiff, Nat.reduceBEq, Nat.reduceBNe, List.reduceReplicate, ty0, ty3, ty22, ty36, ty49, ty74, ty96, ty129, ty130, ty131, ty187, ty188]; first | (refine hK1 _ ?_; clear hK1 K1) | (refine ⟨by first | omega | (simp; done) | (simp; omega), hK1 _ ?_⟩; clear hK1 K1)) | ((first | refine lst_nil ?_ | refine aw_skip ?_); refine hK _ ?_; clear hK K)))
      (refine aw_cnd ?_; intro X Y hX hY; simp only [evE, dSlice, dFunc, evT, reduceIte, reduceCtorEq, Nat.reduceEqDiff, Nat.reduceAdd, Nat.reduceMul, Nat.reduceSub, Nat.reduceDiv, Nat.reduceLT, Nat.reduceLeDiff, Nat.reduceBEq, Nat.reduceBNe, List.reduceReplicate, ty0, ty3, ty22, ty36, ty49, ty74, ty96, ty129, ty130, ty131, ty187, ty188])
      refine ⟨fun h => hX ?_, fun h => hY ?_⟩
      · clear hX hY X Y
        (repeat (first | (refine aw_seq ?_; intro K hK) | refine aw_block ?_ | refine aw_region ?_ | (refine lst_x rfl rfl ?_; intro K1 hK1; simp only [undef, evE, dSlice, dFunc, evT, reduceIte, reduceCtorEq, Nat.reduceEqDiff, Nat.reduceAdd, Nat.reduceMul, Nat.reduceSub, Nat.reduceDiv, Nat.reduceLT, Nat.reduceLeDiff, Nat.reduceBEq, Nat.reduceBNe, List.reduceReplicate, ty0, ty3, ty22, ty36, ty49, ty74, ty96, ty129, ty130, ty131, ty187, ty188]; first | (refine hK1 _ ?_; clear hK1 K1) | (refine ⟨by first | omega | (simp; done) | (simp; omega), hK1 _ ?_⟩; clear hK1 K1)) | ((first | refine lst_nil ?_ | refine aw_skip ?_); refine hK _ ?_; clear hK K)))
        ((try refine aw_ret ?_); (try refine lst_nil ?_); (try simp only [ThenA, InBl]); refine ret_mk (by first | exact .inl rfl | exact .inr rfl) rfl ?_; simp only [rtn, resA, resL, resV, Tryz.results187, evE, dSlice, dFunc, evT, reduceIte, reduceCtorEq, Nat.reduceEqDiff, Nat.reduceAdd, Nat.reduceMul, Nat.reduceSub, Nat.reduceDiv, Nat.reduceLT, Nat.reduceLeDiff, Nat.reduceBEq, Nat.reduceBNe, List.reduceReplicate, ty0, ty3, ty22, ty36, ty49, ty74, ty96, ty129, ty130, ty131, ty187, ty188])
        exact ⟨i, rfl, by omega, by simp; exact ⟨_, List.getElem_mem hlt, h⟩⟩
      · clear hX hY X Y
        (repeat (first | (refine aw_seq ?_; intro K hK) | refine aw_block ?_ | refine aw_region ?_ | (refine lst_x rfl rfl ?_; intro K1 hK1; simp only [undef, evE, dSlice, dFunc, evT, reduceIte, reduceCtorEq, Nat.reduceEqDiff, Nat.reduceAdd, Nat.reduceMul, Nat.reduceSub, Nat.reduceDiv, Nat.reduceLT, Nat.reduceLeDiff, Nat.reduceBEq, Nat.reduceBNe, List.reduceReplicate, ty0, ty3, ty22, ty36, ty49, ty74, ty96, ty129, ty130, ty131, ty187, ty188]; first | (refine hK1 _ ?_; clear hK1 K1) | (refine ⟨by first | omega | (simp; done) | (simp; omega), hK1 _ ?_⟩; clear hK1 K1)) | ((first | refine lst_nil ?_ | refine aw_skip ?_); refine hK _ ?_; clear hK K)))
        ((try refine lst_nil ?_); (try refine aw_skip ?_); try simp only [ThenA])
        refine hK _ (i + 1) ⟨by omega, fun j x hj hx => ?_⟩ (by omega) ?_
        · by_cases e : j = i
          · subst e; rw [List.getElem?_eq_getElem hlt] at hx; cases hx; exact h
          · exact hno j x (by omega) hx
        · refine le_tm ?_
          simp only [LeTm, evE, dSlice, dFunc, evT, reduceIte, reduceCtorEq, Nat.reduceEqDiff, Nat.reduceAdd, Nat.reduceMul, Nat.reduceSub, Nat.reduceDiv, Nat.reduceLT, Nat.reduceLeDiff, Nat.reduceBEq, Nat.reduceBNe, List.reduceReplicate, ty0, ty3, ty22, ty36, ty49, ty74, ty96, ty129, ty130, ty131, ty187, ty188]
          simp
    · have hge : i = xs.length := by simp at h; omega
      clear hX hY X Y
      (refine aw_exit ?_; simp only [ThenA, InBl, reduceIte, Nat.reduceEqDiff]; (first | refine hK _ ?_ | (clear hK K; refine hK _ ?_) | (clear hK K; clear hK K; refine hK _ ?_) | (clear hK K; clear hK K; clear hK K; refine hK _ ?_) | (clear hK K; clear hK K; clear hK K; clear hK K; refine hK _ ?_) | (clear hK K; clear hK K; clear hK K; clear hK K; clear hK K; refine hK _ ?_)); clear hK K)
      (repeat (first | (refine aw_seq ?_; intro K hK) | refine aw_block ?_ | refine aw_region ?_ | (refine lst_x rfl rfl ?_; intro K1 hK1; simp only [undef, evE, dSlice, dFunc, evT, reduceIte, reduceCtorEq, Nat.reduceEqDiff, Nat.reduceAdd, Nat.reduceMul, Nat.reduceSub, Nat.reduceDiv, Nat.reduceLT, Nat.reduceLeDiff, Nat.reduceBEq, Nat.reduceBNe, List.reduceReplicate, ty0, ty3, ty22, ty36, ty49, ty74, ty96, ty129, ty130, ty131, ty187, ty188]; first | (refine hK1 _ ?_; clear hK1 K1) | (refine ⟨by first | omega | (simp; done) | (simp; omega), hK1 _ ?_⟩; clear hK1 K1)) | ((first | refine lst_nil ?_ | refine aw_skip ?_); refine hK _ ?_; clear hK K)))
      ((try refine aw_ret ?_); (try refine lst_nil ?_); (try simp only [ThenA, InBl]); refine ret_mk (by first | exact .inl rfl | exact .inr rfl) rfl ?_; simp only [rtn, resA, resL, resV, Tryz.results187, evE, dSlice, dFunc, evT, reduceIte, reduceCtorEq, Nat.reduceEqDiff, Nat.reduceAdd, Nat.reduceMul, Nat.reduceSub, Nat.reduceDiv, Nat.reduceLT, Nat.reduceLeDiff, Nat.reduceBEq, Nat.reduceBNe, List.reduceReplicate, ty0, ty3, ty22, ty36, ty49, ty74, ty96, ty129, ty130, ty131, ty187, ty188])
      refine ⟨-1, rfl, by omega, ?_⟩
      simp
      intro x hm
      obtain ⟨j, hj⟩ := List.mem_iff_getElem?.1 hm
      exact hno j x (by rw [hge]; exact (List.getElem?_eq_some_iff.1 hj).1) hj

theorem containsFunc_ints (xs : List Int) (p : Int → Bool) (fn e k : Nat) (us : List Tr) (hn : xs.length ≤ 140737488355328) (hcal : callable Tryz.prog fn = true)
    (hf : ∀ x ∈ xs, FC Tryz.prog fn [.i x, .a (.c (.p 0 0))] [.r ⟨e, k, false, us.map C.ofTr⟩] (fun r o => o = [.r ⟨e, k, false, us.map C.ofTr⟩] ∧ r = .b (p x))) :
    FC Tryz.prog 129 [aInts xs, .a (.c (.f fn [0]))] [.r ⟨e, k, false, us.map C.ofTr⟩] (fun r o => o = [.r ⟨e, k, false, us.map C.ofTr⟩] ∧ r = .b (xs.any p)) := by
  refine fc_intro Tryz.func129 rfl (by rw [Tryz.ntmps129]; simp) ?_
  rw [Tryz.ntmps129]
  simp only [enum, aInts]
  (repeat (first | (refine aw_seq ?_; intro K hK) | refine aw_block ?_ | refine aw_region ?_ | (refine lst_x rfl rfl ?_; intro K1 hK1; simp only [undef, evE, dSlice, dFunc, evT, reduceIte, reduceCtorEq, Nat.reduceEqDiff, Nat.reduceAdd, Nat.reduceMul, Nat.reduceSub, Nat.reduceDiv, Nat.reduceLT, Nat.reduceLeDiff, Nat.reduceBEq, Nat.reduceBNe, List.reduceReplicate, ty0, ty3, ty22, ty36, ty49, ty74, ty96, ty129, ty130, ty131, ty187, ty188]; first | (refine hK1 _ ?_; clear hK1 K1) | (refine ⟨by first | omega | (simp; done) | (simp; omega), hK1 _ ?_⟩; clear hK1 K1)) | ((first | refine lst_nil ?_ | refine aw_skip ?_); refine hK _ ?_; clear hK K)))
  (refine lst_cons rfl ?_; intro K1 hK1; refine stp_callσ (ids := []) [0] (indexFunc_ints xs p fn e k us hn hcal hf) rfl rfl (by simp only [evE, dSlice, dFunc, evT, reduceIte, reduceCtorEq, Nat.reduceEqDiff, Nat.reduceAdd, Nat.reduceMul, Nat.reduceSub, Nat.reduceDiv, Nat.reduceLT, Nat.reduceLeDiff, Nat.reduceBEq, Nat.reduceBNe, List.reduceReplicate, ty0, ty3, ty22, ty36, ty49, ty74, ty96, ty129, ty130, ty131, ty187, ty188]) (by first | assumption | kernel_rfl) rfl rfl (by (simp only [clos, List.map_append, List.append_nil, AV.ren, A0.ren, C.ren, idx, renIds, ofTr_ren, evE, dSlice, dFunc, evT, reduceIte, reduceCtorEq, Nat.reduceEqDiff, Nat.reduceAdd, Nat.reduceMul, Nat.reduceSub, Nat.reduceDiv, Nat.reduceLT, Nat.reduceLeDiff, Nat.reduceBEq, Nat.reduceBNe, List.reduceReplicate, ty0, ty3, ty22, ty36, ty49, ty74, ty96, ty129, ty130, ty131, ty187, ty188]) <;> rfl) (by (simp only [pkh, Ob.ren, C.ren, idx, renIds, ofTr_ren, List.getD_cons_zero, List.getD_cons_succ, evE, dSlice, dFunc, evT, reduceIte, reduceCtorEq, Nat.reduceEqDiff, Nat.reduceAdd, Nat.reduceMul, Nat.reduceSub, Nat.reduceDiv, Nat.reduceLT, Nat.reduceLeDiff, Nat.reduceBEq, Nat.reduceBNe, List.reduceReplicate, ty0, ty3, ty22, ty36, ty49, ty74, ty96, ty129, ty130, ty131, ty187, ty188]) <;> rfl) ?_ ?_)
  · rintro _ _ ⟨rfl, n, rfl, hn1, hn2⟩; rfl
  rintro _ _ ⟨rfl, n, rfl, hn1, hn2⟩
  (simp only [evR, aInts, aSets, ST.back, nbTm, setAll, upn, AV.up, A0.up, C.up, Ob.up, AV.nb, A0.nb, C.nb, ofTr_up, List.contains_cons, List.contains_nil, List.getD_cons_zero, List.getD_cons_succ, List.set_cons_zero, List.set_cons_succ, List.append_nil, List.nil_append, List.length_map, evE, dSlice, dFunc, evT, reduceIte, reduceCtorEq, Nat.reduceEqDiff, Nat.reduceAdd, Nat.reduceMul, Nat.reduceSub, Nat.reduceDiv, Nat.reduceLT, Nat.reduceLeDiff, Nat.reduceBEq, Nat.reduceBNe, List.reduceReplicate, ty0, ty3, ty22, ty36, ty49, ty74, ty96, ty129, ty130, ty131, ty187, ty188]; refine hK1 _ ?_; clear hK1 K1)
  (repeat (first | (refine aw_seq ?_; intro K hK) | refine aw_block ?_ | refine aw_region ?_ | (refine lst_x rfl rfl ?_; intro K1 hK1; simp only [undef, evE, dSlice, dFunc, evT, reduceIte, reduceCtorEq, Nat.reduceEqDiff, Nat.reduceAdd, Nat.reduceMul, Nat.reduceSub, Nat.reduceDiv, Nat.reduceLT, Nat.reduceLeDiff, Nat.reduceBEq, Nat.reduceBNe, List.reduceReplicate, ty0, ty3, ty22, ty36, ty49, ty74, ty96, ty129, ty130, ty131, ty187, ty188]; first | (refine hK1 _ ?_; clear hK1 K1) | (refine ⟨by first | omega | (simp; done) | (simp; omega), hK1 _ ?_⟩; clear hK1 K1)) | ((first | refine lst_nil ?_ | refine aw_skip ?_); refine hK _ ?_; clear hK K)))
  have e : decide (n ≥ 0) = xs.any p := by rw [Bool.eq_iff_iff, decide_eq_true_iff]; exact hn2
  ((try refine aw_ret ?_); (try refine lst_nil ?_); (try simp only [ThenA, InBl]); refine ret_mk (by first | exact .inl rfl | exact .inr rfl) rfl ?_; simp only [rtn, resA, resL, resV, Tryz.results129, evE, dSlice, dFunc, evT, reduceIte, reduceCtorEq, Nat.reduceEqDiff, Nat.reduceAdd, Nat.reduceMul, Nat.reduceSub, Nat.reduceDiv, Nat.reduceLT, Nat.reduceLeDiff, Nat.reduceBEq, Nat.reduceBNe, List.reduceReplicate, ty0, ty3, ty22, ty36, ty49, ty74, ty96, ty129, ty130, ty131, ty187, ty188])
  simp only [e]
theorem wmeets1 (b : List Int) (x : Int) (hb : b.length ≤ 140737488355328) : FC Tryz.prog 130 [.i x, .a (.c (.p 0 0))] [.r ⟨22, 1, false, [Tr.l 1 (tInts b)].map C.ofTr⟩] (fun r o => o = [.r ⟨22, 1, false, [Tr.l 1 (tInts b)].map C.ofTr⟩] ∧ r = .b (decide (x ∈ b))) := by
  refine fc_intro Tryz.func130 rfl (by rw [Tryz.ntmps130]; simp) ?_
  rw [Tryz.ntmps130]
  simp only [enum]
  (repeat (first | (refine aw_seq ?_; intro K hK) | refine aw_block ?_ | refine aw_region ?_ | (refine lst_x rfl rfl ?_; intro K1 hK1; simp only [undef, evE, dSlice, dFunc, evT, reduceIte, reduceCtorEq, Nat.reduceEqDiff, Nat.reduceAdd, Nat.reduceMul, Nat.reduceSub, Nat.reduceDiv, Nat.reduceLT, Nat.reduceLeDiff, Nat.reduceBEq, Nat.reduceBNe, List.reduceReplicate, ty0, ty3, ty22, ty36, ty49, ty74, ty96, ty129, ty130, ty131, ty187, ty188]; first | (refine hK1 _ ?_; clear hK1 K1) | (refine ⟨by first | omega | (simp; done) | (simp; omega), hK1 _ ?_⟩; clear hK1 K1)) | ((first | refine lst_nil ?_ | refine aw_skip ?_); refine hK _ ?_; clear hK K)))
  (refine lst_cons rfl ?_; intro K1 hK1; refine (stp_call0 (ids := []) (contains_ints b x hb) rfl rfl (by simp only [evE, dSlice, dFunc, evT, reduceIte, reduceCtorEq, Nat.reduceEqDiff, Nat.reduceAdd, Nat.reduceMul, Nat.reduceSub, Nat.reduceDiv, Nat.reduceLT, Nat.reduceLeDiff, Nat.reduceBEq, Nat.reduceBNe, List.reduceReplicate, ty0, ty3, ty22, ty36, ty49, ty74, ty96, ty129, ty130, ty131, ty187, ty188]) (by kernel_rfl) (by (simp only [clos, List.append_nil, AV.ren, A0.ren, C.ren, evE, dSlice, dFunc, evT, reduceIte, reduceCtorEq, Nat.reduceEqDiff, Nat.reduceAdd, Nat.reduceMul, Nat.reduceSub, Nat.reduceDiv, Nat.reduceLT, Nat.reduceLeDiff, Nat.reduceBEq, Nat.reduceBNe, List.reduceReplicate, ty0, ty3, ty22, ty36, ty49, ty74, ty96, ty129, ty130, ty131, ty187, ty188]) <;> rfl) ?_).stp)
  rintro _ _ ⟨rfl, rfl⟩
  (simp only [evR, aInts, aSets, ST.back, nbTm, setAll, upn, AV.up, A0.up, C.up, Ob.up, AV.nb, A0.nb, C.nb, ofTr_up, List.contains_cons, List.contains_nil, List.getD_cons_zero, List.getD_cons_succ, List.set_cons_zero, List.set_cons_succ, List.append_nil, List.nil_append, List.length_map, evE, dSlice, dFunc, evT, reduceIte, reduceCtorEq, Nat.reduceEqDiff, Nat.reduceAdd, Nat.reduceMul, Nat.reduceSub, Nat.reduceDiv, Nat.reduceLT, Nat.reduceLeDiff, Nat.reduceBEq, Nat.reduceBNe, List.reduceReplicate, ty0, ty3, ty22, ty36, ty49, ty74, ty96, ty129, ty130, ty131, ty187, ty188]; refine hK1 _ ?_; clear hK1 K1)
  (repeat (first | (refine aw_seq ?_; intro K hK) | refine aw_block ?_ | refine aw_region ?_ | (refine lst_x rfl rfl ?_; intro K1 hK1; simp only [undef, evE, dSlice, dFunc, evT, reduceIte, reduceCtorEq, Nat.reduceEqDiff, Nat.reduceAdd, Nat.reduceMul, Nat.reduceSub, Nat.reduceDiv, Nat.reduceLT, Nat.reduceLeDiff, Nat.reduceBEq, Nat.reduceBNe, List.reduceReplicate, ty0, ty3, ty22, ty36, ty49, ty74, ty96, ty129, ty130, ty131, ty187, ty188]; first | (refine hK1 _ ?_; clear hK1 K1) | (refine ⟨by first | omega | (simp; done) | (simp; omega), hK1 _ ?_⟩; clear hK1 K1)) | ((first | refine lst_nil ?_ | refine aw_skip ?_); refine hK _ ?_; clear hK K)))
  ((try refine aw_ret ?_); (try refine lst_nil ?_); (try simp only [ThenA, InBl]); refine ret_mk (by first | exact .inl rfl | exact .inr rfl) rfl ?_; simp only [rtn, resA, resL, resV, Tryz.results130, evE, dSlice, dFunc, evT, reduceIte, reduceCtorEq, Nat.reduceEqDiff, Nat.reduceAdd, Nat.reduceMul, Nat.reduceSub, Nat.reduceDiv, Nat.reduceLT, Nat.reduceLeDiff, Nat.reduceBEq, Nat.reduceBNe, List.reduceReplicate, ty0, ty3, ty22, ty36, ty49, ty74, ty96, ty129, ty130, ty131, ty187, ty188])
theorem wmeets (a b : List Int) (ha : a.length ≤ 140737488355328) (hb : b.length ≤ 140737488355328) : FC Tryz.prog 69 [aInts a, aInts b] [] (fun r o => r = .b (a.any fun x => decide (x ∈ b))) := by
  refine fc_intro Tryz.func69 rfl (by rw [Tryz.ntmps69]; simp) ?_
  rw [Tryz.ntmps69]
  simp only [enum, aInts]
  (repeat (first | (refine aw_seq ?_; intro K hK) | refine aw_block ?_ | refine aw_region ?_ | (refine lst_x rfl rfl ?_; intro K1 hK1; simp only [undef, evE, dSlice, dFunc, evT, reduceIte, reduceCtorEq, Nat.reduceEqDiff, Nat.reduceAdd, Nat.reduceMul, Nat.reduceSub, Nat.reduceDiv, Nat.reduceLT, Nat.reduceLeDiff, Nat.reduceBEq, Nat.reduceBNe, List.reduceReplicate, ty0, ty3, ty22, ty36, ty49, ty74, ty96, ty129, ty130, ty131, ty187, ty188]; first | (refine hK1 _ ?_; clear hK1 K1) | (refine ⟨by first | omega | (simp; done) | (simp; omega), hK1 _ ?_⟩; clear hK1 K1)) | ((first | refine lst_nil ?_ | refine aw_skip ?_); refine hK _ ?_; clear hK K)))
  (refine lst_cons rfl ?_; intro K1 hK1; refine stp_callσ (ids := []) [0] (containsFunc_ints a (fun x => decide (x ∈ b)) 130 22 1 [Tr.l 1 (tInts b)] ha (by kernel_rfl) (fun x _ => wmeets1 b x hb)) rfl rfl (by simp only [evE, dSlice, dFunc, evT, reduceIte, reduceCtorEq, Nat.reduceEqDiff, Nat.reduceAdd, Nat.reduceMul, Nat.reduceSub, Nat.reduceDiv, Nat.reduceLT, Nat.reduceLeDiff, Nat.reduceBEq, Nat.reduceBNe, List.reduceReplicate, ty0, ty3, ty22, ty36, ty49, ty74, ty96, ty129, ty130, ty131, ty187, ty188]) (by first | assumption | kernel_rfl) rfl rfl (by (simp only [clos, List.map_append, List.append_nil, AV.ren, A0.ren, C.ren, idx, renIds, ofTr_ren, evE, dSlice, dFunc, evT, reduceIte, reduceCtorEq, Nat.reduceEqDiff, Nat.reduceAdd, Nat.reduceMul, Nat.reduceSub, Nat.reduceDiv, Nat.reduceLT, Nat.reduceLeDiff, Nat.reduceBEq, Nat.reduceBNe, List.reduceReplicate, ty0, ty3, ty22, ty36, ty49, ty74, ty96, ty129, ty130, ty131, ty187, ty188]) <;> rfl) (by (simp only [pkh, Ob.ren, C.ren, idx, renIds, ofTr_ren, List.getD_cons_zero, List.getD_cons_succ, evE, dSlice, dFunc, evT, reduceIte, reduceCtorEq, Nat.reduceEqDiff, Nat.reduceAdd, Nat.reduceMul, Nat.reduceSub, Nat.reduceDiv, Nat.reduceLT, Nat.reduceLeDiff, Nat.reduceBEq, Nat.reduceBNe, List.reduceReplicate, ty0, ty3, ty22, ty36, ty49, ty74, ty96, ty129, ty130, ty131, ty187, ty188]) <;> rfl) ?_ ?_)
  · rintro _ _ ⟨rfl, rfl⟩; rfl
  rintro _ _ ⟨rfl, rfl⟩
  (simp only [evR, aInts, aSets, ST.back, nbTm, setAll, upn, AV.up, A0.up, C.up, Ob.up, AV.nb, A0.nb, C.nb, ofTr_up, List.contains_cons, List.contains_nil, List.getD_cons_zero, List.getD_cons_succ, List.set_cons_zero, List.set_cons_succ, List.append_nil, List.nil_append, List.length_map, evE, dSlice, dFunc, evT, reduceIte, reduceCtorEq, Nat.reduceEqDiff, Nat.reduceAdd, Nat.reduceMul, Nat.reduceSub, Nat.reduceDiv, Nat.reduceLT, Nat.reduceLeDiff, Nat.reduceBEq, Nat.reduceBNe, List.reduceReplicate, ty0, ty3, ty22, ty36, ty49, ty74, ty96, ty129, ty130, ty131, ty187, ty188]; refine hK1 _ ?_; clear hK1 K1)
  (repeat (first | (refine aw_seq ?_; intro K hK) | refine aw_block ?_ | refine aw_region ?_ | (refine lst_x rfl rfl ?_; intro K1 hK1; simp only [undef, evE, dSlice, dFunc, evT, reduceIte, reduceCtorEq, Nat.reduceEqDiff, Nat.reduceAdd, Nat.reduceMul, Nat.reduceSub, Nat.reduceDiv, Nat.reduceLT, Nat.reduceLeDiff, Nat.reduceBEq, Nat.reduceBNe, List.reduceReplicate, ty0, ty3, ty22, ty36, ty49, ty74, ty96, ty129, ty130, ty131, ty187, ty188]; first | (refine hK1 _ ?_; clear hK1 K1) | (refine ⟨by first | omega | (simp; done) | (simp; omega), hK1 _ ?_⟩; clear hK1 K1)) | ((first | refine lst_nil ?_ | refine aw_skip ?_); refine hK _ ?_; clear hK K)))
  ((try refine aw_ret ?_); (try refine lst_nil ?_); (try simp only [ThenA, InBl]); refine ret_mk (by first | exact .inl rfl | exact .inr rfl) rfl ?_; simp only [rtn, resA, resL, resV, Tryz.results69, evE, dSlice, dFunc, evT, reduceIte, reduceCtorEq, Nat.reduceEqDiff, Nat.reduceAdd, Nat.reduceMul, Nat.reduceSub, Nat.reduceDiv, Nat.reduceLT, Nat.reduceLeDiff, Nat.reduceBEq, Nat.reduceBNe, List.reduceReplicate, ty0, ty3, ty22, ty36, ty49, ty74, ty96, ty129, ty130, ty131, ty187, ty188])
end Go.Proofs.YtfjfllpcflddmaaGreat
namespace Go.Proofs.YtfjfllpcflddmaaGreat
set_option linter.unusedVariables false
set_option linter.unusedSimpArgs false
open Go.RowKit
set_option maxRecDepth 100000

theorem ascB_get {xs : List Int} (h : ∀ i a b, xs[i]? = some a → xs[i + 1]? = some b → a < b) : ascB xs = true := by
  induction xs with
  | nil => rfl
  | cons a r ih =>
    cases r with
    | nil => rfl
    | cons b r =>
      have h1 := h 0 a b rfl rfl
      have h2 := ih fun i x y hx hy => h (i + 1) x y (by simpa using hx) (by simpa using hy)
      simp [ascB, h1, h2]
theorem ascB_not {xs : List Int} {i : Nat} {a b : Int} (ha : xs[i]? = some a) (hb : xs[i + 1]? = some b) (h : b ≤ a) : ascB xs = false := by
  cases hx : ascB xs with
  | false => rfl
  | true =>
    have hp := (ascB_iff xs).1 hx
    have h1 := List.getElem?_eq_some_iff.1 ha
    have h2 := List.getElem?_eq_some_iff.1 hb
    have := List.pairwise_iff_getElem.1 hp i (i + 1) h1.1 h2.1 (by omega)
    rw [h1.2, h2.2] at this
    omega
theorem wasc (xs : List Int) (hn : xs.length ≤ 140737488355328) : FC Tryz.prog 68 [aInts xs] [] (fun r o => o = [] ∧ r = .b (ascB xs)) := by
  refine fc_intro Tryz.func68 rfl (by rw [Tryz.ntmps68]; simp) ?_
  rw [Tryz.ntmps68]
  simp only [enum, aInts]
  (repeat (first | (refine aw_seq ?_; intro K hK) | refine aw_block ?_ | refine aw_region ?_ | (refine lst_x rfl rfl ?_; intro K1 hK1; simp only [undef, evE, dSlice, dFunc, evT, reduceIte, reduceCtorEq, Nat.reduceEqDiff, Nat.reduceAdd, Nat.reduceMul, Nat.reduceSub, Nat.reduceDiv, Nat.reduceLT, Nat.reduceLeDiff, Nat.reduceBEq, Nat.reduceBNe, List.reduceReplicate, ty0, ty3, ty22, ty36, ty49, ty74, ty96, ty129, ty130, ty131, ty187, ty188]; first | (refine hK1 _ ?_; clear hK1 K1) | (refine ⟨by first | omega | (simp; done) | (simp; omega), hK1 _ ?_⟩; clear hK1 K1)) | ((first | refine lst_nil ?_ | refine aw_skip ?_); refine hK _ ?_; clear hK K)))
  refine aw_loop (fun k : Nat => { tm := [(0, .a (.c (.t 1 (tInts xs)))), (3, .i (k + 1 : Nat))], hp := [], n := 20, pin := 0 }) (fun k => k ≤ xs.length ∧ ∀ i a b, i < k → xs[i]? = some a → xs[i + 1]? = some b → a < b) (fun k => xs.length - k) 0 ?_ ?_ ?_
  · exact ⟨by omega, by intro i a b hi; omega⟩
  · refine le_tm ?_
    simp only [LeTm, evE, dSlice, dFunc, evT, reduceIte, reduceCtorEq, Nat.reduceEqDiff, Nat.reduceAdd, Nat.reduceMul, Nat.reduceSub, Nat.reduceDiv, Nat.reduceLT, Nat.reduceLeDiff, Nat.reduceBEq, Nat.reduceBNe, List.reduceReplicate, ty0, ty3, ty22, ty36, ty49, ty74, ty96, ty129, ty130, ty131, ty187, ty188]
    simp
  · rintro k ⟨hk, hno⟩ K hK
    (repeat (first | (refine aw_seq ?_; intro K hK) | refine aw_block ?_ | refine aw_region ?_ | (refine lst_x rfl rfl ?_; intro K1 hK1; simp only [undef, evE, dSlice, dFunc, evT, reduceIte, reduceCtorEq, Nat.reduceEqDiff, Nat.reduceAdd, Nat.reduceMul, Nat.reduceSub, Nat.reduceDiv, Nat.reduceLT, Nat.reduceLeDiff, Nat.reduceBEq, Nat.reduceBNe, List.reduceReplicate, ty0, ty3, ty22, ty36, ty49, ty74, ty96, ty129, ty130, ty131, ty187, ty188, tInts_len]; first | (refine hK1 _ ?_; clear hK1 K1) | (refine ⟨by first | omega | (simp; done) | (simp; omega), hK1 _ ?_⟩; clear hK1 K1)) | ((first | refine lst_nil ?_ | refine aw_skip ?_); refine hK _ ?_; clear hK K)))
    (refine aw_cnd ?_; intro X Y hX hY; simp only [evE, dSlice, dFunc, evT, reduceIte, reduceCtorEq, Nat.reduceEqDiff, Nat.reduceAdd, Nat.reduceMul, Nat.reduceSub, Nat.reduceDiv, Nat.reduceLT, Nat.reduceLeDiff, Nat.reduceBEq, Nat.reduceBNe, List.reduceReplicate, ty0, ty3, ty22, ty36, ty49, ty74, ty96, ty129, ty130, ty131, ty187, ty188])
    refine ⟨fun h => hX ?_, fun h => hY ?_⟩
    · have hlt : k + 1 < xs.length := by simp at h; omega
      clear hX hY X Y h
      have e1 : ((k + 1 : Nat) : Int) - 1 = (k : Int) := by omega
      (repeat (first | (refine aw_seq ?_; intro K hK) | refine aw_block ?_ | refine aw_region ?_ | (refine lst_x rfl rfl ?_; intro K1 hK1; simp only [undef, evE, dSlice, dFunc, evT, reduceIte, reduceCtorEq, Nat.reduceEqDiff, Nat.reduceAdd, Nat.reduceMul, Nat.reduceSub, Nat.reduceDiv, Nat.reduceLT, Nat.reduceLeDiff, Nat.reduceBEq, Nat.reduceBNe, List.reduceReplicate, ty0, ty3, ty22, ty36, ty49, ty74, ty96, ty129, ty130, ty131, ty187, ty188]; first | (refine hK1 _ ?_; clear hK1 K1) | (refine ⟨by first | omega | (simp; done) | (simp; omega), hK1 _ ?_⟩; clear hK1 K1)) | ((first | refine lst_nil ?_ | refine aw_skip ?_); refine hK _ ?_; clear hK K)))
      (refine aw_regionU 9 [(0, 0), (1, 0), (2, 0), (3, 0), (4, 1), (5, 0), (6, 0), (7, 0), (8, 1), (9, 2)] (by kernel_rfl) (by kernel_rfl) (by intro c st h; simp [ThenA, InBl, Ret] at h) ?_)
      (repeat (first | ((first | refine u_0x rfl rfl rfl ?_ | refine u_1x rfl rfl rfl ?_); intro K1 hK1; simp only [undef, evR, evE, dSlice, dFunc, evT, reduceIte, reduceCtorEq, Nat.reduceEqDiff, Nat.reduceAdd, Nat.reduceMul, Nat.reduceSub, Nat.reduceDiv, Nat.reduceLT, Nat.reduceLeDiff, Nat.reduceBEq, Nat.reduceBNe, List.reduceReplicate, ty0, ty3, ty22, ty36, ty49, ty74, ty96, ty129, ty130, ty131, ty187, ty188, e1, tInts_len, tInts_get (List.getElem?_eq_getElem hlt), tInts_get (List.getElem?_eq_getElem (Nat.lt_of_succ_lt hlt))]; first | (refine hK1 _ ?_; clear hK1 K1) | (refine ⟨by first | omega | (simp; done) | (simp; omega), hK1 _ ?_⟩; clear hK1 K1)) | (refine u_2x rfl rfl rfl rfl ?_; intro K1 hK1; simp only [undef, evR, evE, dSlice, dFunc, evT, reduceIte, reduceCtorEq, Nat.reduceEqDiff, Nat.reduceAdd, Nat.reduceMul, Nat.reduceSub, Nat.reduceDiv, Nat.reduceLT, Nat.reduceLeDiff, Nat.reduceBEq, Nat.reduceBNe, List.reduceReplicate, ty0, ty3, ty22, ty36, ty49, ty74, ty96, ty129, ty130, ty131, ty187, ty188, e1, tInts_len, tInts_get (List.getElem?_eq_getElem hlt), tInts_get (List.getElem?_eq_getElem (Nat.lt_of_succ_lt hlt))]; first | (refine hK1 _ ?_; clear hK1 K1) | (refine ⟨by first | omega | (simp; done) | (simp; omega), hK1 _ ?_⟩; clear hK1 K1)) | (refine u_nil ?_; refine hK _ ?_; clear hK K)))
      (refine aw_cnd ?_; intro X Y hX hY; simp only [evE, dSlice, dFunc, evT, reduceIte, reduceCtorEq, Nat.reduceEqDiff, Nat.reduceAdd, Nat.reduceMul, Nat.reduceSub, Nat.reduceDiv, Nat.reduceLT, Nat.reduceLeDiff, Nat.reduceBEq, Nat.reduceBNe, List.reduceReplicate, ty0, ty3, ty22, ty36, ty49, ty74, ty96, ty129, ty130, ty131, ty187, ty188])
      refine ⟨fun h => hX ?_, fun h => hY ?_⟩
      · clear hX hY X Y
        (repeat (first | (refine aw_seq ?_; intro K hK) | refine aw_block ?_ | refine aw_region ?_ | (refine lst_x rfl rfl ?_; intro K1 hK1; simp only [undef, evE, dSlice, dFunc, evT, reduceIte, reduceCtorEq, Nat.reduceEqDiff, Nat.reduceAdd, Nat.reduceMul, Nat.reduceSub, Nat.reduceDiv, Nat.reduceLT, Nat.reduceLeDiff, Nat.reduceBEq, Nat.reduceBNe, List.reduceReplicate, ty0, ty3, ty22, ty36, ty49, ty74, ty96, ty129, ty130, ty131, ty187, ty188]; first | (refine hK1 _ ?_; clear hK1 K1) | (refine ⟨by first | omega | (simp; done) | (simp; omega), hK1 _ ?_⟩; clear hK1 K1)) | ((first | refine lst_nil ?_ | refine aw_skip ?_); refine hK _ ?_; clear hK K)))
        ((try refine aw_ret ?_); (try refine lst_nil ?_); (try simp only [ThenA, InBl]); refine ret_mk (by first | exact .inl rfl | exact .inr rfl) rfl ?_; simp only [rtn, resA, resL, resV, Tryz.results68, evE, dSlice, dFunc, evT, reduceIte, reduceCtorEq, Nat.reduceEqDiff, Nat.reduceAdd, Nat.reduceMul, Nat.reduceSub, Nat.reduceDiv, Nat.reduceLT, Nat.reduceLeDiff, Nat.reduceBEq, Nat.reduceBNe, List.reduceReplicate, ty0, ty3, ty22, ty36, ty49, ty74, ty96, ty129, ty130, ty131, ty187, ty188])
        have := ascB_not (List.getElem?_eq_getElem (Nat.lt_of_succ_lt hlt)) (List.getElem?_eq_getElem hlt) (by simpa using h)
        simp [this]
      · clear hX hY X Y
        (repeat (first | (refine aw_seq ?_; intro K hK) | refine aw_block ?_ | refine aw_region ?_ | (refine lst_x rfl rfl ?_; intro K1 hK1; simp only [undef, evE, dSlice, dFunc, evT, reduceIte, reduceCtorEq, Nat.reduceEqDiff, Nat.reduceAdd, Nat.reduceMul, Nat.reduceSub, Nat.reduceDiv, Nat.reduceLT, Nat.reduceLeDiff, Nat.reduceBEq, Nat.reduceBNe, List.reduceReplicate, ty0, ty3, ty22, ty36, ty49, ty74, ty96, ty129, ty130, ty131, ty187, ty188]; first | (refine hK1 _ ?_; clear hK1 K1) | (refine ⟨by first | omega | (simp; done) | (simp; omega), hK1 _ ?_⟩; clear hK1 K1)) | ((first | refine lst_nil ?_ | refine aw_skip ?_); refine hK _ ?_; clear hK K)))
        ((try refine lst_nil ?_); (try refine aw_skip ?_); try simp only [ThenA])
        refine hK _ (k + 1) ⟨by omega, fun i a b hi ha hb => ?_⟩ (by omega) ?_
        · by_cases e : i = k
          · subst e
            rw [List.getElem?_eq_getElem (Nat.lt_of_succ_lt hlt)] at ha
            rw [List.getElem?_eq_getElem hlt] at hb
            cases ha; cases hb
            simpa using h
          · exact hno i a b (by omega) ha hb
        · refine le_tm ?_
          simp only [LeTm, evE, dSlice, dFunc, evT, reduceIte, reduceCtorEq, Nat.reduceEqDiff, Nat.reduceAdd, Nat.reduceMul, Nat.reduceSub, Nat.reduceDiv, Nat.reduceLT, Nat.reduceLeDiff, Nat.reduceBEq, Nat.reduceBNe, List.reduceReplicate, ty0, ty3, ty22, ty36, ty49, ty74, ty96, ty129, ty130, ty131, ty187, ty188]
          simp
    · have hge : xs.length ≤ k + 1 := by simp at h; omega
      clear hX hY X Y
      (refine aw_exit ?_; simp only [ThenA, InBl, reduceIte, Nat.reduceEqDiff]; (first | refine hK _ ?_ | (clear hK K; refine hK _ ?_) | (clear hK K; clear hK K; refine hK _ ?_) | (clear hK K; clear hK K; clear hK K; refine hK _ ?_) | (clear hK K; clear hK K; clear hK K; clear hK K; refine hK _ ?_) | (clear hK K; clear hK K; clear hK K; clear hK K; clear hK K; refine hK _ ?_)); clear hK K)
      (repeat (first | (refine aw_seq ?_; intro K hK) | refine aw_block ?_ | refine aw_region ?_ | (refine lst_x rfl rfl ?_; intro K1 hK1; simp only [undef, evE, dSlice, dFunc, evT, reduceIte, reduceCtorEq, Nat.reduceEqDiff, Nat.reduceAdd, Nat.reduceMul, Nat.reduceSub, Nat.reduceDiv, Nat.reduceLT, Nat.reduceLeDiff, Nat.reduceBEq, Nat.reduceBNe, List.reduceReplicate, ty0, ty3, ty22, ty36, ty49, ty74, ty96, ty129, ty130, ty131, ty187, ty188]; first | (refine hK1 _ ?_; clear hK1 K1) | (refine ⟨by first | omega | (simp; done) | (simp; omega), hK1 _ ?_⟩; clear hK1 K1)) | ((first | refine lst_nil ?_ | refine aw_skip ?_); refine hK _ ?_; clear hK K)))
      ((try refine aw_ret ?_); (try refine lst_nil ?_); (try simp only [ThenA, InBl]); refine ret_mk (by first | exact .inl rfl | exact .inr rfl) rfl ?_; simp only [rtn, resA, resL, resV, Tryz.results68, evE, dSlice, dFunc, evT, reduceIte, reduceCtorEq, Nat.reduceEqDiff, Nat.reduceAdd, Nat.reduceMul, Nat.reduceSub, Nat.reduceDiv, Nat.reduceLT, Nat.reduceLeDiff, Nat.reduceBEq, Nat.reduceBNe, List.reduceReplicate, ty0, ty3, ty22, ty36, ty49, ty74, ty96, ty129, ty130, ty131, ty187, ty188])
      have := ascB_get (xs := xs) fun i a b ha hb => hno i a b (by have := (List.getElem?_eq_some_iff.1 hb).1; omega) ha hb
      simp [this]
theorem dasc (xs : List Int) (hn : xs.length ≤ 140737488355328) : FC Tryz.prog 86 [aInts xs] [] (fun r o => o = [] ∧ r = .b (ascB xs)) := by
  refine fc_intro Tryz.func86 rfl (by rw [Tryz.ntmps86]; simp) ?_
  rw [Tryz.ntmps86]
  simp only [enum, aInts]
  (repeat (first | (refine aw_seq ?_; intro K hK) | refine aw_block ?_ | refine aw_region ?_ | (refine lst_x rfl rfl ?_; intro K1 hK1; simp only [undef, evE, dSlice, dFunc, evT, reduceIte, reduceCtorEq, Nat.reduceEqDiff, Nat.reduceAdd, Nat.reduceMul, Nat.reduceSub, Nat.reduceDiv, Nat.reduceLT, Nat.reduceLeDiff, Nat.reduceBEq, Nat.reduceBNe, List.reduceReplicate, ty0, ty3, ty22, ty36, ty49, ty74, ty96, ty129, ty130, ty131, ty187, ty188]; first | (refine hK1 _ ?_; clear hK1 K1) | (refine ⟨by first | omega | (simp; done) | (simp; omega), hK1 _ ?_⟩; clear hK1 K1)) | ((first | refine lst_nil ?_ | refine aw_skip ?_); refine hK _ ?_; clear hK K)))
  refine aw_loop (fun k : Nat => { tm := [(0, .a (.c (.t 1 (tInts xs)))), (3, .i (k + 1 : Nat))], hp := [], n := 20, pin := 0 }) (fun k => k ≤ xs.length ∧ ∀ i a b, i < k → xs[i]? = some a → xs[i + 1]? = some b → a < b) (fun k => xs.length - k) 0 ?_ ?_ ?_
  · exact ⟨by omega, by intro i a b hi; omega⟩
  · refine le_tm ?_
    simp only [LeTm, evE, dSlice, dFunc, evT, reduceIte, reduceCtorEq, Nat.reduceEqDiff, Nat.reduceAdd, Nat.reduceMul, Nat.reduceSub, Nat.reduceDiv, Nat.reduceLT, Nat.reduceLeDiff, Nat.reduceBEq, Nat.reduceBNe, List.reduceReplicate, ty0, ty3, ty22, ty36, ty49, ty74, ty96, ty129, ty130, ty131, ty187, ty188]
    simp
  · rintro k ⟨hk, hno⟩ K hK
    (repeat (first | (refine aw_seq ?_; intro K hK) | refine aw_block ?_ | refine aw_region ?_ | (refine lst_x rfl rfl ?_; intro K1 hK1; simp only [undef, evE, dSlice, dFunc, evT, reduceIte, reduceCtorEq, Nat.reduceEqDiff, Nat.reduceAdd, Nat.reduceMul, Nat.reduceSub, Nat.reduceDiv, Nat.reduceLT, Nat.reduceLeDiff, Nat.reduceBEq, Nat.reduceBNe, List.reduceReplicate, ty0, ty3, ty22, ty36, ty49, ty74, ty96, ty129, ty130, ty131, ty187, ty188, tInts_len]; first | (refine hK1 _ ?_; clear hK1 K1) | (refine ⟨by first | omega | (simp; done) | (simp; omega), hK1 _ ?_⟩; clear hK1 K1)) | ((first | refine lst_nil ?_ | refine aw_skip ?_); refine hK _ ?_; clear hK K)))
    (refine aw_cnd ?_; intro X Y hX hY; simp only [evE, dSlice, dFunc, evT, reduceIte, reduceCtorEq, Nat.reduceEqDiff, Nat.reduceAdd, Nat.reduceMul, Nat.reduceSub, Nat.reduceDiv, Nat.reduceLT, Nat.reduceLeDiff, Nat.reduceBEq, Nat.reduceBNe, List.reduceReplicate, ty0, ty3, ty22, ty36, ty49, ty74, ty96, ty129, ty130, ty131, ty187, ty188])
    refine ⟨fun h => hX ?_, fun h => hY ?_⟩
    · have hlt : k + 1 < xs.length := by simp at h; omega
      clear hX hY X Y h
      have e1 : ((k + 1 : Nat) : Int) - 1 = (k : Int) := by omega
      (repeat (first | (refine aw_seq ?_; intro K hK) | refine aw_block ?_ | refine aw_region ?_ | (refine lst_x rfl rfl ?_; intro K1 hK1; simp only [undef, evE, dSlice, dFunc, evT, reduceIte, reduceCtorEq, Nat.reduceEqDiff, Nat.reduceAdd, Nat.reduceMul, Nat.reduceSub, Nat.reduceDiv, Nat.reduceLT, Nat.reduceLeDiff, Nat.reduceBEq, Nat.reduceBNe, List.reduceReplicate, ty0, ty3, ty22, ty36, ty49, ty74, ty96, ty129, ty130, ty131, ty187, ty188]; first | (refine hK1 _ ?_; clear hK1 K1) | (refine ⟨by first | omega | (simp; done) | (simp; omega), hK1 _ ?_⟩; clear hK1 K1)) | ((first | refine lst_nil ?_ | refine aw_skip ?_); refine hK _ ?_; clear hK K)))
      (refine aw_regionU 9 [(0, 0), (1, 0), (2, 0), (3, 0), (4, 1), (5, 0), (6, 0), (7, 0), (8, 1), (9, 2)] (by kernel_rfl) (by kernel_rfl) (by intro c st h; simp [ThenA, InBl, Ret] at h) ?_)
      (repeat (first | ((first | refine u_0x rfl rfl rfl ?_ | refine u_1x rfl rfl rfl ?_); intro K1 hK1; simp only [undef, evR, evE, dSlice, dFunc, evT, reduceIte, reduceCtorEq, Nat.reduceEqDiff, Nat.reduceAdd, Nat.reduceMul, Nat.reduceSub, Nat.reduceDiv, Nat.reduceLT, Nat.reduceLeDiff, Nat.reduceBEq, Nat.reduceBNe, List.reduceReplicate, ty0, ty3, ty22, ty36, ty49, ty74, ty96, ty129, ty130, ty131, ty187, ty188, e1, tInts_len, tInts_get (List.getElem?_eq_getElem hlt), tInts_get (List.getElem?_eq_getElem (Nat.lt_of_succ_lt hlt))]; first | (refine hK1 _ ?_; clear hK1 K1) | (refine ⟨by first | omega | (simp; done) | (simp; omega), hK1 _ ?_⟩; clear hK1 K1)) | (refine u_2x rfl rfl rfl rfl ?_; intro K1 hK1; simp only [undef, evR, evE, dSlice, dFunc, evT, reduceIte, reduceCtorEq, Nat.reduceEqDiff, Nat.reduceAdd, Nat.reduceMul, Nat.reduceSub, Nat.reduceDiv, Nat.reduceLT, Nat.reduceLeDiff, Nat.reduceBEq, Nat.reduceBNe, List.reduceReplicate, ty0, ty3, ty22, ty36, ty49, ty74, ty96, ty129, ty130, ty131, ty187, ty188, e1, tInts_len, tInts_get (List.getElem?_eq_getElem hlt), tInts_get (List.getElem?_eq_getElem (Nat.lt_of_succ_lt hlt))]; first | (refine hK1 _ ?_; clear hK1 K1) | (refine ⟨by first | omega | (simp; done) | (simp; omega), hK1 _ ?_⟩; clear hK1 K1)) | (refine u_nil ?_; refine hK _ ?_; clear hK K)))
      (refine aw_cnd ?_; intro X Y hX hY; simp only [evE, dSlice, dFunc, evT, reduceIte, reduceCtorEq, Nat.reduceEqDiff, Nat.reduceAdd, Nat.reduceMul, Nat.reduceSub, Nat.reduceDiv, Nat.reduceLT, Nat.reduceLeDiff, Nat.reduceBEq, Nat.reduceBNe, List.reduceReplicate, ty0, ty3, ty22, ty36, ty49, ty74, ty96, ty129, ty130, ty131, ty187, ty188])
      refine ⟨fun h => hX ?_, fun h => hY ?_⟩
      · clear hX hY X Y
        (repeat (first | (refine aw_seq ?_; intro K hK) | refine aw_block ?_ | refine aw_region ?_ | (refine lst_x rfl rfl ?_; intro K1 hK1; simp only [undef, evE, dSlice, dFunc, evT, reduceIte, reduceCtorEq, Nat.reduceEqDiff, Nat.reduceAdd, Nat.reduceMul, Nat.reduceSub, Nat.reduceDiv, Nat.reduceLT, Nat.reduceLeDiff, Nat.reduceBEq, Nat.reduceBNe, List.reduceReplicate, ty0, ty3, ty22, ty36, ty49, ty74, ty96, ty129, ty130, ty131, ty187, ty188]; first | (refine hK1 _ ?_; clear hK1 K1) | (refine ⟨by first | omega | (simp; done) | (simp; omega), hK1 _ ?_⟩; clear hK1 K1)) | ((first | refine lst_nil ?_ | refine aw_skip ?_); refine hK _ ?_; clear hK K)))
        ((try refine aw_ret ?_); (try refine lst_nil ?_); (try simp only [ThenA, InBl]); refine ret_mk (by first | exact .inl rfl | exact .inr rfl) rfl ?_; simp only [rtn, resA, resL, resV, Tryz.results86, evE, dSlice, dFunc, evT, reduceIte, reduceCtorEq, Nat.reduceEqDiff, Nat.reduceAdd, Nat.reduceMul, Nat.reduceSub, Nat.reduceDiv, Nat.reduceLT, Nat.reduceLeDiff, Nat.reduceBEq, Nat.reduceBNe, List.reduceReplicate, ty0, ty3, ty22, ty36, ty49, ty74, ty96, ty129, ty130, ty131, ty187, ty188])
        have := ascB_not (List.getElem?_eq_getElem (Nat.lt_of_succ_lt hlt)) (List.getElem?_eq_getElem hlt) (by simpa using h)
        simp [this]
      · clear hX hY X Y
        (repeat (first | (refine aw_seq ?_; intro K hK) | refine aw_block ?_ | refine aw_region ?_ | (refine lst_x rfl rfl ?_; intro K1 hK1; simp only [undef, evE, dSlice, dFunc, evT, reduceIte, reduceCtorEq, Nat.reduceEqDiff, Nat.reduceAdd, Nat.reduceMul, Nat.reduceSub, Nat.reduceDiv, Nat.reduceLT, Nat.reduceLeDiff, Nat.reduceBEq, Nat.reduceBNe, List.reduceReplicate, ty0, ty3, ty22, ty36, ty49, ty74, ty96, ty129, ty130, ty131, ty187, ty188]; first | (refine hK1 _ ?_; clear hK1 K1) | (refine ⟨by first | omega | (simp; done) | (simp; omega), hK1 _ ?_⟩; clear hK1 K1)) | ((first | refine lst_nil ?_ | refine aw_skip ?_); refine hK _ ?_; clear hK K)))
        ((try refine lst_nil ?_); (try refine aw_skip ?_); try simp only [ThenA])
        refine hK _ (k + 1) ⟨by omega, fun i a b hi ha hb => ?_⟩ (by omega) ?_
        · by_cases e : i = k
          · subst e
            rw [List.getElem?_eq_getElem (Nat.lt_of_succ_lt hlt)] at ha
            rw [List.getElem?_eq_getElem hlt] at hb
            cases ha; cases hb
            simpa using h
          · exact hno i a b (by omega) ha hb
        · refine le_tm ?_
          simp only [LeTm, evE, dSlice, dFunc, evT, reduceIte, reduceCtorEq, Nat.reduceEqDiff, Nat.reduceAdd, Nat.reduceMul, Nat.reduceSub, Nat.reduceDiv, Nat.reduceLT, Nat.reduceLeDiff, Nat.reduceBEq, Nat.reduceBNe, List.reduceReplicate, ty0, ty3, ty22, ty36, ty49, ty74, ty96, ty129, ty130, ty131, ty187, ty188]
          simp
    · have hge : xs.length ≤ k + 1 := by simp at h; omega
      clear hX hY X Y
      (refine aw_exit ?_; simp only [ThenA, InBl, reduceIte, Nat.reduceEqDiff]; (first | refine hK _ ?_ | (clear hK K; refine hK _ ?_) | (clear hK K; clear hK K; refine hK _ ?_) | (clear hK K; clear hK K; clear hK K; refine hK _ ?_) | (clear hK K; clear hK K; clear hK K; clear hK K; refine hK _ ?_) | (clear hK K; clear hK K; clear hK K; clear hK K; clear hK K; refine hK _ ?_)); clear hK K)
      (repeat (first | (refine aw_seq ?_; intro K hK) | refine aw_block ?_ | refine aw_region ?_ | (refine lst_x rfl rfl ?_; intro K1 hK1; simp only [undef, evE, dSlice, dFunc, evT, reduceIte, reduceCtorEq, Nat.reduceEqDiff, Nat.reduceAdd, Nat.reduceMul, Nat.reduceSub, Nat.reduceDiv, Nat.reduceLT, Nat.reduceLeDiff, Nat.reduceBEq, Nat.reduceBNe, List.reduceReplicate, ty0, ty3, ty22, ty36, ty49, ty74, ty96, ty129, ty130, ty131, ty187, ty188]; first | (refine hK1 _ ?_; clear hK1 K1) | (refine ⟨by first | omega | (simp; done) | (simp; omega), hK1 _ ?_⟩; clear hK1 K1)) | ((first | refine lst_nil ?_ | refine aw_skip ?_); refine hK _ ?_; clear hK K)))
      ((try refine aw_ret ?_); (try refine lst_nil ?_); (try simp only [ThenA, InBl]); refine ret_mk (by first | exact .inl rfl | exact .inr rfl) rfl ?_; simp only [rtn, resA, resL, resV, Tryz.results86, evE, dSlice, dFunc, evT, reduceIte, reduceCtorEq, Nat.reduceEqDiff, Nat.reduceAdd, Nat.reduceMul, Nat.reduceSub, Nat.reduceDiv, Nat.reduceLT, Nat.reduceLeDiff, Nat.reduceBEq, Nat.reduceBNe, List.reduceReplicate, ty0, ty3, ty22, ty36, ty49, ty74, ty96, ty129, ty130, ty131, ty187, ty188])
      have := ascB_get (xs := xs) fun i a b ha hb => hno i a b (by have := (List.getElem?_eq_some_iff.1 hb).1; omega) ha hb
      simp [this]
theorem rising_fc (xs : List Int) (hn : xs.length ≤ 140737488355328) : FC Tryz.prog 65 [aInts xs] [] (fun r o => o = [] ∧ r = .b (ascB xs)) := by
  refine fc_intro Tryz.func65 rfl (by rw [Tryz.ntmps65]; simp) ?_
  rw [Tryz.ntmps65]
  simp only [enum, aInts]
  (repeat (first | (refine aw_seq ?_; intro K hK) | refine aw_block ?_ | refine aw_region ?_ | (refine lst_x rfl rfl ?_; intro K1 hK1; simp only [undef, evE, dSlice, dFunc, evT, reduceIte, reduceCtorEq, Nat.reduceEqDiff, Nat.reduceAdd, Nat.reduceMul, Nat.reduceSub, Nat.reduceDiv, Nat.reduceLT, Nat.reduceLeDiff, Nat.reduceBEq, Nat.reduceBNe, List.reduceReplicate, ty0, ty3, ty22, ty36, ty49, ty74, ty96, ty129, ty130, ty131, ty187, ty188]; first | (refine hK1 _ ?_; clear hK1 K1) | (refine ⟨by first | omega | (simp; done) | (simp; omega), hK1 _ ?_⟩; clear hK1 K1)) | ((first | refine lst_nil ?_ | refine aw_skip ?_); refine hK _ ?_; clear hK K)))
  refine aw_loop (fun k : Nat => { tm := [(0, .a (.c (.t 1 (tInts xs)))), (3, .i (k + 1 : Nat))], hp := [], n := 20, pin := 0 }) (fun k => k ≤ xs.length ∧ ∀ i a b, i < k → xs[i]? = some a → xs[i + 1]? = some b → a < b) (fun k => xs.length - k) 0 ?_ ?_ ?_
  · exact ⟨by omega, by intro i a b hi; omega⟩
  · refine le_tm ?_
    simp only [LeTm, evE, dSlice, dFunc, evT, reduceIte, reduceCtorEq, Nat.reduceEqDiff, Nat.reduceAdd, Nat.reduceMul, Nat.reduceSub, Nat.reduceDiv, Nat.reduceLT, Nat.reduceLeDiff, Nat.reduceBEq, Nat.reduceBNe, List.reduceReplicate, ty0, ty3, ty22, ty36, ty49, ty74, ty96, ty129, ty130, ty131, ty187, ty188]
    simp
  · rintro k ⟨hk, hno⟩ K hK
    (repeat (first | (refine aw_seq ?_; intro K hK) | refine aw_block ?_ | refine aw_region ?_ | (refine lst_x rfl rfl ?_; intro K1 hK1; simp only [undef, evE, dSlice, dFunc, evT, reduceIte, reduceCtorEq, Nat.reduceEqDiff, Nat.reduceAdd, Nat.reduceMul, Nat.reduceSub, Nat.reduceDiv, Nat.reduceLT, Nat.reduceLeDiff, Nat.reduceBEq, Nat.reduceBNe, List.reduceReplicate, ty0, ty3, ty22, ty36, ty49, ty74, ty96, ty129, ty130, ty131, ty187, ty188, tInts_len]; first | (refine hK1 _ ?_; clear hK1 K1) | (refine ⟨by first | omega | (simp; done) | (simp; omega), hK1 _ ?_⟩; clear hK1 K1)) | ((first | refine lst_nil ?_ | refine aw_skip ?_); refine hK _ ?_; clear hK K)))
    (refine aw_cnd ?_; intro X Y hX hY; simp only [evE, dSlice, dFunc, evT, reduceIte, reduceCtorEq, Nat.reduceEqDiff, Nat.reduceAdd, Nat.reduceMul, Nat.reduceSub, Nat.reduceDiv, Nat.reduceLT, Nat.reduceLeDiff, Nat.reduceBEq, Nat.reduceBNe, List.reduceReplicate, ty0, ty3, ty22, ty36, ty49, ty74, ty96, ty129, ty130, ty131, ty187, ty188])
    refine ⟨fun h => hX ?_, fun h => hY ?_⟩
    · have hlt : k + 1 < xs.length := by simp at h; omega
      clear hX hY X Y h
      have e1 : ((k + 1 : Nat) : Int) - 1 = (k : Int) := by omega
      (repeat (first | (refine aw_seq ?_; intro K hK) | refine aw_block ?_ | refine aw_region ?_ | (refine lst_x rfl rfl ?_; intro K1 hK1; simp only [undef, evE, dSlice, dFunc, evT, reduceIte, reduceCtorEq, Nat.reduceEqDiff, Nat.reduceAdd, Nat.reduceMul, Nat.reduceSub, Nat.reduceDiv, Nat.reduceLT, Nat.reduceLeDiff, Nat.reduceBEq, Nat.reduceBNe, List.reduceReplicate, ty0, ty3, ty22, ty36, ty49, ty74, ty96, ty129, ty130, ty131, ty187, ty188]; first | (refine hK1 _ ?_; clear hK1 K1) | (refine ⟨by first | omega | (simp; done) | (simp; omega), hK1 _ ?_⟩; clear hK1 K1)) | ((first | refine lst_nil ?_ | refine aw_skip ?_); refine hK _ ?_; clear hK K)))
      (refine aw_regionU 9 [(0, 0), (1, 0), (2, 0), (3, 0), (4, 1), (5, 0), (6, 0), (7, 0), (8, 1), (9, 2)] (by kernel_rfl) (by kernel_rfl) (by intro c st h; simp [ThenA, InBl, Ret] at h) ?_)
      (repeat (first | ((first | refine u_0x rfl rfl rfl ?_ | refine u_1x rfl rfl rfl ?_); intro K1 hK1; simp only [undef, evR, evE, dSlice, dFunc, evT, reduceIte, reduceCtorEq, Nat.reduceEqDiff, Nat.reduceAdd, Nat.reduceMul, Nat.reduceSub, Nat.reduceDiv, Nat.reduceLT, Nat.reduceLeDiff, Nat.reduceBEq, Nat.reduceBNe, List.reduceReplicate, ty0, ty3, ty22, ty36, ty49, ty74, ty96, ty129, ty130, ty131, ty187, ty188, e1, tInts_len, tInts_get (List.getElem?_eq_getElem hlt), tInts_get (List.getElem?_eq_getElem (Nat.lt_of_succ_lt hlt))]; first | (refine hK1 _ ?_; clear hK1 K1) | (refine ⟨by first | omega | (simp; done) | (simp; omega), hK1 _ ?_⟩; clear hK1 K1)) | (refine u_2x rfl rfl rfl rfl ?_; intro K1 hK1; simp only [undef, evR, evE, dSlice, dFunc, evT, reduceIte, reduceCtorEq, Nat.reduceEqDiff, Nat.reduceAdd, Nat.reduceMul, Nat.reduceSub, Nat.reduceDiv, Nat.reduceLT, Nat.reduceLeDiff, Nat.reduceBEq, Nat.reduceBNe, List.reduceReplicate, ty0, ty3, ty22, ty36, ty49, ty74, ty96, ty129, ty130, ty131, ty187, ty188, e1, tInts_len, tInts_get (List.getElem?_eq_getElem hlt), tInts_get (List.getElem?_eq_getElem (Nat.lt_of_succ_lt hlt))]; first | (refine hK1 _ ?_; clear hK1 K1) | (refine ⟨by first | omega | (simp; done) | (simp; omega), hK1 _ ?_⟩; clear hK1 K1)) | (refine u_nil ?_; refine hK _ ?_; clear hK K)))
      (refine aw_cnd ?_; intro X Y hX hY; simp only [evE, dSlice, dFunc, evT, reduceIte, reduceCtorEq, Nat.reduceEqDiff, Nat.reduceAdd, Nat.reduceMul, Nat.reduceSub, Nat.reduceDiv, Nat.reduceLT, Nat.reduceLeDiff, Nat.reduceBEq, Nat.reduceBNe, List.reduceReplicate, ty0, ty3, ty22, ty36, ty49, ty74, ty96, ty129, ty130, ty131, ty187, ty188])
      refine ⟨fun h => hX ?_, fun h => hY ?_⟩
      · clear hX hY X Y
        (repeat (first | (refine aw_seq ?_; intro K hK) | refine aw_block ?_ | refine aw_region ?_ | (refine lst_x rfl rfl ?_; intro K1 hK1; simp only [undef, evE, dSlice, dFunc, evT, reduceIte, reduceCtorEq, Nat.reduceEqDiff, Nat.reduceAdd, Nat.reduceMul, Nat.reduceSub, Nat.reduceDiv, Nat.reduceLT, Nat.reduceLeDiff, Nat.reduceBEq, Nat.reduceBNe, List.reduceReplicate, ty0, ty3, ty22, ty36, ty49, ty74, ty96, ty129, ty130, ty131, ty187, ty188]; first | (refine hK1 _ ?_; clear hK1 K1) | (refine ⟨by first | omega | (simp; done) | (simp; omega), hK1 _ ?_⟩; clear hK1 K1)) | ((first | refine lst_nil ?_ | refine aw_skip ?_); refine hK _ ?_; clear hK K)))
        ((try refine aw_ret ?_); (try refine lst_nil ?_); (try simp only [ThenA, InBl]); refine ret_mk (by first | exact .inl rfl | exact .inr rfl) rfl ?_; simp only [rtn, resA, resL, resV, Tryz.results65, evE, dSlice, dFunc, evT, reduceIte, reduceCtorEq, Nat.reduceEqDiff, Nat.reduceAdd, Nat.reduceMul, Nat.reduceSub, Nat.reduceDiv, Nat.reduceLT, Nat.reduceLeDiff, Nat.reduceBEq, Nat.reduceBNe, List.reduceReplicate, ty0, ty3, ty22, ty36, ty49, ty74, ty96, ty129, ty130, ty131, ty187, ty188])
        have := ascB_not (List.getElem?_eq_getElem (Nat.lt_of_succ_lt hlt)) (List.getElem?_eq_getElem hlt) (by simpa using h)
        simp [this]
      · clear hX hY X Y
        (repeat (first | (refine aw_seq ?_; intro K hK) | refine aw_block ?_ | refine aw_region ?_ | (refine lst_x rfl rfl ?_; intro K1 hK1; simp only [undef, evE, dSlice, dFunc, evT, reduceIte, reduceCtorEq, Nat.reduceEqDiff, Nat.reduceAdd, Nat.reduceMul, Nat.reduceSub, Nat.reduceDiv, Nat.reduceLT, Nat.reduceLeDiff, Nat.reduceBEq, Nat.reduceBNe, List.reduceReplicate, ty0, ty3, ty22, ty36, ty49, ty74, ty96, ty129, ty130, ty131, ty187, ty188]; first | (refine hK1 _ ?_; clear hK1 K1) | (refine ⟨by first | omega | (simp; done) | (simp; omega), hK1 _ ?_⟩; clear hK1 K1)) | ((first | refine lst_nil ?_ | refine aw_skip ?_); refine hK _ ?_; clear hK K)))
        ((try refine lst_nil ?_); (try refine aw_skip ?_); try simp only [ThenA])
        refine hK _ (k + 1) ⟨by omega, fun i a b hi ha hb => ?_⟩ (by omega) ?_
        · by_cases e : i = k
          · subst e
            rw [List.getElem?_eq_getElem (Nat.lt_of_succ_lt hlt)] at ha
            rw [List.getElem?_eq_getElem hlt] at hb
            cases ha; cases hb
            simpa using h
          · exact hno i a b (by omega) ha hb
        · refine le_tm ?_
          simp only [LeTm, evE, dSlice, dFunc, evT, reduceIte, reduceCtorEq, Nat.reduceEqDiff, Nat.reduceAdd, Nat.reduceMul, Nat.reduceSub, Nat.reduceDiv, Nat.reduceLT, Nat.reduceLeDiff, Nat.reduceBEq, Nat.reduceBNe, List.reduceReplicate, ty0, ty3, ty22, ty36, ty49, ty74, ty96, ty129, ty130, ty131, ty187, ty188]
          simp
    · have hge : xs.length ≤ k + 1 := by simp at h; omega
      clear hX hY X Y
      (refine aw_exit ?_; simp only [ThenA, InBl, reduceIte, Nat.reduceEqDiff]; (first | refine hK _ ?_ | (clear hK K; refine hK _ ?_) | (clear hK K; clear hK K; refine hK _ ?_) | (clear hK K; clear hK K; clear hK K; refine hK _ ?_) | (clear hK K; clear hK K; clear hK K; clear hK K; refine hK _ ?_) | (clear hK K; clear hK K; clear hK K; clear hK K; clear hK K; refine hK _ ?_)); clear hK K)
      (repeat (first | (refine aw_seq ?_; intro K hK) | refine aw_block ?_ | refine aw_region ?_ | (refine lst_x rfl rfl ?_; intro K1 hK1; simp only [undef, evE, dSlice, dFunc, evT, reduceIte, reduceCtorEq, Nat.reduceEqDiff, Nat.reduceAdd, Nat.reduceMul, Nat.reduceSub, Nat.reduceDiv, Nat.reduceLT, Nat.reduceLeDiff, Nat.reduceBEq, Nat.reduceBNe, List.reduceReplicate, ty0, ty3, ty22, ty36, ty49, ty74, ty96, ty129, ty130, ty131, ty187, ty188]; first | (refine hK1 _ ?_; clear hK1 K1) | (refine ⟨by first | omega | (simp; done) | (simp; omega), hK1 _ ?_⟩; clear hK1 K1)) | ((first | refine lst_nil ?_ | refine aw_skip ?_); refine hK _ ?_; clear hK K)))
      ((try refine aw_ret ?_); (try refine lst_nil ?_); (try simp only [ThenA, InBl]); refine ret_mk (by first | exact .inl rfl | exact .inr rfl) rfl ?_; simp only [rtn, resA, resL, resV, Tryz.results65, evE, dSlice, dFunc, evT, reduceIte, reduceCtorEq, Nat.reduceEqDiff, Nat.reduceAdd, Nat.reduceMul, Nat.reduceSub, Nat.reduceDiv, Nat.reduceLT, Nat.reduceLeDiff, Nat.reduceBEq, Nat.reduceBNe, List.reduceReplicate, ty0, ty3, ty22, ty36, ty49, ty74, ty96, ty129, ty130, ty131, ty187, ty188])
      have := ascB_get (xs := xs) fun i a b ha hb => hno i a b (by have := (List.getElem?_eq_some_iff.1 hb).1; omega) ha hb
      simp [this]
end Go.Proofs.YtfjfllpcflddmaaGreat
