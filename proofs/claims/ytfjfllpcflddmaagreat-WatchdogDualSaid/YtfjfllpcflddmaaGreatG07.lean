/- Minimal transversals: the program's and the reference's. -/
import Derived.Test.YtfjfllpcflddmaaGreatG03
import Derived.Test.YtfjfllpcflddmaaGreatG06
import Derived.Test.YtfjfllpcflddmaaGreatAm28
namespace Go.Proofs.YtfjfllpcflddmaaGreat
set_option linter.unusedVariables false
set_option linter.unusedSimpArgs false
open Go.RowKit
set_option maxRecDepth 100000

theorem meetsT_fc (a b : List Int) (ha : a.length ≤ 140737488355328) (hb : b.length ≤ 140737488355328) : FC Tryz.prog 69 [aInts a, aInts b] [] (fun r o => o = [] ∧ r = .b (meetsB a b)) :=
  (wmeets a b ha hb).drop.mono (by rintro r o ⟨rfl, r0, o0, rfl, rfl⟩; exact ⟨rfl, rfl⟩)
theorem tvNext_take (out : List (List Int)) (s : List Int) {j : Nat} (h : j < out.length) : tvNext (out.take (j + 1)) s = tvNext (out.take j) s ++ (if meetsB out[j] s then [out[j]] else s.map fun e => addI e out[j]) := by
  unfold tvNext
  rw [List.take_succ_eq_append_getElem h, List.flatMap_append]; simp
theorem tvNext_b {out : List (List Int)} {s : List Int} {k : Nat} (h : ∀ t ∈ out, Asc t ∧ t.length ≤ k) : ∀ t ∈ tvNext out s, Asc t ∧ t.length ≤ k + 1 := by
  intro t ht
  refine ⟨tvNext_asc (fun q hq => (h q hq).1) t ht, ?_⟩
  simp only [tvNext, List.mem_flatMap] at ht
  obtain ⟨q, hq, ht⟩ := ht
  have hl := (h q hq).2
  split at ht
  · simp at ht; subst ht; omega
  · simp only [List.mem_map] at ht
    obtain ⟨e, _, rfl⟩ := ht
    have := addI_len e q; omega
/-- what the rounds keep -/
structure TvG (L : List (List Int)) (k : Nat) (out : List (List Int)) : Prop where
  hk : k ≤ L.length
  go : tvGo (L.drop k) out = tvR L
  len : out.length ≤ 1024
  el : ∀ t ∈ out, Asc t ∧ t.length ≤ k
theorem TvG.start {L : List (List Int)} (h : L.all ascB = true) : TvG L 0 [[]] := ⟨by omega, by simp [tvR, h], by simp, by simp [Asc]⟩
theorem TvG.full {L : List (List Int)} {k : Nat} {out : List (List Int)} (h : TvG L k out) (hlt : k < L.length) (hb : (minR (tvNext out L[k])).length > 1024) : tvR L = ([], 10) := by
  have := h.go
  rw [drop_get hlt, tvGo, if_pos hb] at this
  exact this.symm
theorem TvG.next {L : List (List Int)} {k : Nat} {out : List (List Int)} (h : TvG L k out) (hlt : k < L.length) (hb : ¬ (minR (tvNext out L[k])).length > 1024) : TvG L (k + 1) (minR (tvNext out L[k])) := by
  have := h.go
  rw [drop_get hlt, tvGo, if_neg hb] at this
  exact ⟨by omega, this, by omega, fun t ht => tvNext_b h.el t (minR_sub ht)⟩
theorem TvG.end_ {L : List (List Int)} {k : Nat} {out : List (List Int)} (h : TvG L k out) (hge : L.length ≤ k) : tvR L = (out, 0) := by
  have := h.go
  rw [List.drop_eq_nil_of_le hge, tvGo] at this
  exact this.symm
theorem tvNext_pre {out : List (List Int)} {s : List Int} {j : Nat} (hs : s.length ≤ 900) (ho : out.length ≤ 1024) : (tvNext (out.take j) s).length ≤ 921600 := by
  have h1 := tvNext_len (out := out.take j) (k := 900) hs (by omega)
  have h2 : (out.take j).length ≤ 1024 := by simp; omega
  have : (out.take j).length * 900 ≤ 1024 * 900 := Nat.mul_le_mul_right _ h2
  omega
def aTv (p : List (List Int) × Int) : AV := .tup [.c (.t 1 (tSets p.1)), .c (.v (.int .i64 p.2))]
theorem fz_nil : Fz [C.v (.slice none 0 0)] (tSets [[]]) := ⟨.inr ⟨rfl, 1, rfl⟩, trivial⟩
set_option maxHeartbeats 2000000 in
theorem wtv_fc (L : List (List Int)) (hn : L.length ≤ 900) (hb : ∀ x ∈ L, x.length ≤ 900) : FC Tryz.prog 24 [aSets L] [] (fun r o => o = [] ∧ r = aTv (tvR L)) := by
  refine fc_intro Tryz.func24 rfl (by rw [Tryz.ntmps24]; simp) ?_
  rw [Tryz.ntmps24]
  simp only [enum, aSets]
  (repeat (first | (refine aw_seq ?_; intro K hK) | refine aw_block ?_ | refine aw_region ?_ | (refine lst_x rfl rfl ?_; intro K1 hK1; simp only [undef, evE, dSlice, dFunc, evT, reduceIte, reduceCtorEq, Nat.reduceEqDiff, Nat.reduceAdd, Nat.reduceMul, Nat.reduceSub, Nat.reduceDiv, Nat.reduceLT, Nat.reduceLeDiff, Nat.reduceBEq, Nat.reduceBNe, List.reduceReplicate, ty0, ty1, ty3, ty4, ty22, ty36, ty39, ty68, ty69, ty70, tSets_len]; first | (refine hK1 _ ?_; clear hK1 K1) | (refine ⟨by first | omega | (simp; done) | (simp; omega), hK1 _ ?_⟩; clear hK1 K1)) | ((first | refine lst_nil ?_ | refine aw_skip ?_); refine hK _ ?_; clear hK K)))
  refine aw_loop (fun k : Nat => { tm := [(0, .a (.c (.t 1 (tSets L)))), (14, .a (.c (.t 1 (tSets L)))), (15, .i L.length), (16, .i k)], hp := [], n := 65, pin := 0 }) (fun k => k ≤ L.length ∧ ∀ i x, i < k → L[i]? = some x → ascB x = true) (fun k => L.length - k) 0 ?_ ?_ ?_
  · exact ⟨by omega, by intro i x hi; omega⟩
  · (refine le_tm ?_; simp only [LeTm, evE, dSlice, dFunc, evT, reduceIte, reduceCtorEq, Nat.reduceEqDiff, Nat.reduceAdd, Nat.reduceMul, Nat.reduceSub, Nat.reduceDiv, Nat.reduceLT, Nat.reduceLeDiff, Nat.reduceBEq, Nat.reduceBNe, List.reduceReplicate, ty0, ty1, ty3, ty4, ty22, ty36, ty39, ty68, ty69, ty70]; try simp)
  · rintro k ⟨hk, hno⟩ K hK
    (repeat (first | (refine aw_seq ?_; intro K hK) | refine aw_block ?_ | refine aw_region ?_ | (refine lst_x rfl rfl ?_; intro K1 hK1; simp only [undef, evE, dSlice, dFunc, evT, reduceIte, reduceCtorEq, Nat.reduceEqDiff, Nat.reduceAdd, Nat.reduceMul, Nat.reduceSub, Nat.reduceDiv, Nat.reduceLT, Nat.reduceLeDiff, Nat.reduceBEq, Nat.reduceBNe, List.reduceReplicate, ty0, ty1, ty3, ty4, ty22, ty36, ty39, ty68, ty69, ty70]; first | (refine hK1 _ ?_; clear hK1 K1) | (refine ⟨by first | omega | (simp; done) | (simp; omega), hK1 _ ?_⟩; clear hK1 K1)) | ((first | refine lst_nil ?_ | refine aw_skip ?_); refine hK _ ?_; clear hK K)))
    (refine aw_cnd ?_; intro X Y hX hY; simp only [evE, dSlice, dFunc, evT, reduceIte, reduceCtorEq, Nat.reduceEqDiff, Nat.reduceAdd, Nat.reduceMul, Nat.reduceSub, Nat.reduceDiv, Nat.reduceLT, Nat.reduceLeDiff, Nat.reduceBEq, Nat.reduceBNe, List.reduceReplicate, ty0, ty1, ty3, ty4, ty22, ty36, ty39, ty68, ty69, ty70])
    refine ⟨fun h => hX ?_, fun h => hY ?_⟩
    · have hlt : k < L.length := by simpa using h
      clear hX hY X Y h
      (repeat (first | (refine aw_seq ?_; intro K hK) | refine aw_block ?_ | refine aw_region ?_ | (refine lst_x rfl rfl ?_; intro K1 hK1; simp only [undef, evE, dSlice, dFunc, evT, reduceIte, reduceCtorEq, Nat.reduceEqDiff, Nat.reduceAdd, Nat.reduceMul, Nat.reduceSub, Nat.reduceDiv, Nat.reduceLT, Nat.reduceLeDiff, Nat.reduceBEq, Nat.reduceBNe, List.reduceReplicate, ty0, ty1, ty3, ty4, ty22, ty36, ty39, ty68, ty69, ty70, tSets_len, tSets_get (List.getElem?_eq_getElem hlt)]; first | (refine hK1 _ ?_; clear hK1 K1) | (refine ⟨by first | omega | (simp; done) | (simp; omega), hK1 _ ?_⟩; clear hK1 K1)) | ((first | refine lst_nil ?_ | refine aw_skip ?_); refine hK _ ?_; clear hK K)))
      (refine lst_cons rfl ?_; intro K1 hK1; refine (stp_call0 (ids := []) (wasc L[k] (Nat.le_trans (hb _ (List.getElem_mem hlt)) (by omega))) rfl rfl (by simp only [evE, dSlice, dFunc, evT, reduceIte, reduceCtorEq, Nat.reduceEqDiff, Nat.reduceAdd, Nat.reduceMul, Nat.reduceSub, Nat.reduceDiv, Nat.reduceLT, Nat.reduceLeDiff, Nat.reduceBEq, Nat.reduceBNe, List.reduceReplicate, ty0, ty1, ty3, ty4, ty22, ty36, ty39, ty68, ty69, ty70]) (by kernel_rfl) (by (simp only [clos, List.append_nil, AV.ren, A0.ren, C.ren, evE, dSlice, dFunc, evT, reduceIte, reduceCtorEq, Nat.reduceEqDiff, Nat.reduceAdd, Nat.reduceMul, Nat.reduceSub, Nat.reduceDiv, Nat.reduceLT, Nat.reduceLeDiff, Nat.reduceBEq, Nat.reduceBNe, List.reduceReplicate, ty0, ty1, ty3, ty4, ty22, ty36, ty39, ty68, ty69, ty70]) <;> rfl) ?_).stp)
      rintro _ _ ⟨rfl, rfl⟩
      (simp only [evR, aInts, aSets, ST.back, nbTm, setAll, upn, AV.up, A0.up, C.up, Ob.up, AV.nb, A0.nb, C.nb, ofTr_up, List.contains_cons, List.contains_nil, List.getD_cons_zero, List.getD_cons_succ, List.set_cons_zero, List.set_cons_succ, List.append_nil, List.nil_append, List.length_map, evE, dSlice, dFunc, evT, reduceIte, reduceCtorEq, Nat.reduceEqDiff, Nat.reduceAdd, Nat.reduceMul, Nat.reduceSub, Nat.reduceDiv, Nat.reduceLT, Nat.reduceLeDiff, Nat.reduceBEq, Nat.reduceBNe, List.reduceReplicate, ty0, ty1, ty3, ty4, ty22, ty36, ty39, ty68, ty69, ty70]; refine hK1 _ ?_; clear hK1 K1)
      (repeat (first | (refine aw_seq ?_; intro K hK) | refine aw_block ?_ | refine aw_region ?_ | (refine lst_x rfl rfl ?_; intro K1 hK1; simp only [undef, evE, dSlice, dFunc, evT, reduceIte, reduceCtorEq, Nat.reduceEqDiff, Nat.reduceAdd, Nat.reduceMul, Nat.reduceSub, Nat.reduceDiv, Nat.reduceLT, Nat.reduceLeDiff, Nat.reduceBEq, Nat.reduceBNe, List.reduceReplicate, ty0, ty1, ty3, ty4, ty22, ty36, ty39, ty68, ty69, ty70]; first | (refine hK1 _ ?_; clear hK1 K1) | (refine ⟨by first | omega | (simp; done) | (simp; omega), hK1 _ ?_⟩; clear hK1 K1)) | ((first | refine lst_nil ?_ | refine aw_skip ?_); refine hK _ ?_; clear hK K)))
      (refine aw_cnd ?_; intro X Y hX hY; simp only [evE, dSlice, dFunc, evT, reduceIte, reduceCtorEq, Nat.reduceEqDiff, Nat.reduceAdd, Nat.reduceMul, Nat.reduceSub, Nat.reduceDiv, Nat.reduceLT, Nat.reduceLeDiff, Nat.reduceBEq, Nat.reduceBNe, List.reduceReplicate, ty0, ty1, ty3, ty4, ty22, ty36, ty39, ty68, ty69, ty70])
      refine ⟨fun h => hX ?_, fun h => hY ?_⟩
      · clear hX hY X Y
        have h1 : ascB L[k] = false := by simpa using h
        have h2 : L.all ascB = false := by
          rw [List.all_eq_false]
          exact ⟨L[k], List.getElem_mem hlt, by simp [h1]⟩
        (repeat (first | (refine aw_seq ?_; intro K hK) | refine aw_block ?_ | refine aw_region ?_ | (refine lst_x rfl rfl ?_; intro K1 hK1; simp only [undef, evE, dSlice, dFunc, evT, reduceIte, reduceCtorEq, Nat.reduceEqDiff, Nat.reduceAdd, Nat.reduceMul, Nat.reduceSub, Nat.reduceDiv, Nat.reduceLT, Nat.reduceLeDiff, Nat.reduceBEq, Nat.reduceBNe, List.reduceReplicate, ty0, ty1, ty3, ty4, ty22, ty36, ty39, ty68, ty69, ty70]; first | (refine hK1 _ ?_; clear hK1 K1) | (refine ⟨by first | omega | (simp; done) | (simp; omega), hK1 _ ?_⟩; clear hK1 K1)) | ((first | refine lst_nil ?_ | refine aw_skip ?_); refine hK _ ?_; clear hK K)))
        refine aw_ret ?_
        simp only [ThenA, InBl]
        refine ret_le (le_nilt 2 1 ?_) ?_
        · simp only [evE, dSlice, dFunc, evT, reduceIte, reduceCtorEq, Nat.reduceEqDiff, Nat.reduceAdd, Nat.reduceMul, Nat.reduceSub, Nat.reduceDiv, Nat.reduceLT, Nat.reduceLeDiff, Nat.reduceBEq, Nat.reduceBNe, List.reduceReplicate, ty0, ty1, ty3, ty4, ty22, ty36, ty39, ty68, ty69, ty70]
        ((try refine aw_ret ?_); (try refine lst_nil ?_); (try simp only [ThenA, InBl]); refine ret_mk (by first | exact .inl rfl | exact .inr rfl) rfl ?_; simp only [rtn, resA, resL, resV, Tryz.results24, evE, dSlice, dFunc, evT, reduceIte, reduceCtorEq, Nat.reduceEqDiff, Nat.reduceAdd, Nat.reduceMul, Nat.reduceSub, Nat.reduceDiv, Nat.reduceLT, Nat.reduceLeDiff, Nat.reduceBEq, Nat.reduceBNe, List.reduceReplicate, ty0, ty1, ty3, ty4, ty22, ty36, ty39, ty68, ty69, ty70])
        simp [tvR, h2, tSets, aTv]
      · clear hX hY X Y
        have h1 : ascB L[k] = true := by simpa using h
        (repeat (first | (refine aw_seq ?_; intro K hK) | refine aw_block ?_ | refine aw_region ?_ | (refine lst_x rfl rfl ?_; intro K1 hK1; simp only [undef, evE, dSlice, dFunc, evT, reduceIte, reduceCtorEq, Nat.reduceEqDiff, Nat.reduceAdd, Nat.reduceMul, Nat.reduceSub, Nat.reduceDiv, Nat.reduceLT, Nat.reduceLeDiff, Nat.reduceBEq, Nat.reduceBNe, List.reduceReplicate, ty0, ty1, ty3, ty4, ty22, ty36, ty39, ty68, ty69, ty70]; first | (refine hK1 _ ?_; clear hK1 K1) | (refine ⟨by first | omega | (simp; done) | (simp; omega), hK1 _ ?_⟩; clear hK1 K1)) | ((first | refine lst_nil ?_ | refine aw_skip ?_); refine hK _ ?_; clear hK K)))
        ((try refine lst_nil ?_); (try refine aw_skip ?_); try simp only [ThenA])
        refine hK _ (k + 1) ⟨by omega, fun i x hi hx => ?_⟩ (by omega) ?_
        · by_cases e : i = k
          · subst e; rw [List.getElem?_eq_getElem hlt] at hx; cases hx; exact h1
          · exact hno i x (by omega) hx
        · (refine le_tm ?_; simp only [LeTm, evE, dSlice, dFunc, evT, reduceIte, reduceCtorEq, Nat.reduceEqDiff, Nat.reduceAdd, Nat.reduceMul, Nat.reduceSub, Nat.reduceDiv, Nat.reduceLT, Nat.reduceLeDiff, Nat.reduceBEq, Nat.reduceBNe, List.reduceReplicate, ty0, ty1, ty3, ty4, ty22, ty36, ty39, ty68, ty69, ty70]; try simp)
    · have hge : k = L.length := by simp at h; omega
      clear hX hY X Y
      have hall : L.all ascB = true := by
        rw [List.all_eq_true]
        intro s hs
        obtain ⟨i, hi⟩ := List.mem_iff_getElem?.1 hs
        exact hno i s (by rw [hge]; exact (List.getElem?_eq_some_iff.1 hi).1) hi
      clear hno
      (refine aw_exit ?_; simp only [ThenA, InBl, reduceIte, Nat.reduceEqDiff]; (first | refine hK _ ?_ | (clear hK K; refine hK _ ?_) | (clear hK K; clear hK K; refine hK _ ?_) | (clear hK K; clear hK K; clear hK K; refine hK _ ?_) | (clear hK K; clear hK K; clear hK K; clear hK K; refine hK _ ?_) | (clear hK K; clear hK K; clear hK K; clear hK K; clear hK K; refine hK _ ?_)); clear hK K)
      (repeat (first | (refine aw_seq ?_; intro K hK) | refine aw_block ?_ | refine aw_region ?_ | (refine lst_x rfl rfl ?_; intro K1 hK1; simp only [undef, evE, dSlice, dFunc, evT, reduceIte, reduceCtorEq, Nat.reduceEqDiff, Nat.reduceAdd, Nat.reduceMul, Nat.reduceSub, Nat.reduceDiv, Nat.reduceLT, Nat.reduceLeDiff, Nat.reduceBEq, Nat.reduceBNe, List.reduceReplicate, ty0, ty1, ty3, ty4, ty22, ty36, ty39, ty68, ty69, ty70, tSets_len, List.set_cons_zero, List.set_cons_succ]; first | (refine hK1 _ ?_; clear hK1 K1) | (refine ⟨by first | omega | (simp; done) | (simp; omega), hK1 _ ?_⟩; clear hK1 K1)) | ((first | refine lst_nil ?_ | refine aw_skip ?_); refine hK _ ?_; clear hK K)))
      (refine aw_le (le_frz (r := ⟨22, 1, true, [C.v (.slice none 0 0)]⟩) 0 (tSets [[]]) rfl fz_nil (show 0 < (1 : Nat) by omega)) ?_; simp only [ST.frz, A0.frz, AV.frz, C.frz, Nat.le_refl, List.set_cons_zero, List.set_cons_succ, evE, dSlice, dFunc, evT, reduceIte, reduceCtorEq, Nat.reduceEqDiff, Nat.reduceAdd, Nat.reduceMul, Nat.reduceSub, Nat.reduceDiv, Nat.reduceLT, Nat.reduceLeDiff, Nat.reduceBEq, Nat.reduceBNe, List.reduceReplicate, ty0, ty1, ty3, ty4, ty22, ty36, ty39, ty68, ty69, ty70, tSets_len, List.take_length])
      refine aw_le (le_pick [] rfl rfl) ?_
      (simp only [ST.pick, AV.ren, A0.ren, C.ren, Ob.ren, idx, renIds, ofTr_ren, List.getD_cons_zero, List.getD_cons_succ, List.set_cons_zero, List.set_cons_succ, List.set_nil, List.take_nil, List.take_zero, List.map_append, evE, dSlice, dFunc, evT, reduceIte, reduceCtorEq, Nat.reduceEqDiff, Nat.reduceAdd, Nat.reduceMul, Nat.reduceSub, Nat.reduceDiv, Nat.reduceLT, Nat.reduceLeDiff, Nat.reduceBEq, Nat.reduceBNe, List.reduceReplicate, ty0, ty1, ty3, ty4, ty22, ty36, ty39, ty68, ty69, ty70])
      refine aw_loop (fun p : Nat × List (List Int) => { tm := [(6, .a (.c (.t 1 (tSets p.2)))), (25, .a (.c (.t 1 (tSets L)))), (26, .i L.length), (27, .i p.1)], hp := [], n := 65, pin := 0 }) (fun p => TvG L p.1 p.2) (fun p => L.length - p.1) (0, [[]]) ?_ ?_ ?_
      · exact TvG.start hall
      · (refine le_tm ?_; simp only [LeTm, evE, dSlice, dFunc, evT, reduceIte, reduceCtorEq, Nat.reduceEqDiff, Nat.reduceAdd, Nat.reduceMul, Nat.reduceSub, Nat.reduceDiv, Nat.reduceLT, Nat.reduceLeDiff, Nat.reduceBEq, Nat.reduceBNe, List.reduceReplicate, ty0, ty1, ty3, ty4, ty22, ty36, ty39, ty68, ty69, ty70, tSets, List.take_succ_cons, List.take_zero]; try simp)
      · rintro ⟨k, out⟩ hG K hK
        simp only at hG ⊢
        have hGk := hG.hk
        have hGl := hG.len
        (repeat (first | (refine aw_seq ?_; intro K hK) | refine aw_block ?_ | refine aw_region ?_ | (refine lst_x rfl rfl ?_; intro K1 hK1; simp only [undef, evE, dSlice, dFunc, evT, reduceIte, reduceCtorEq, Nat.reduceEqDiff, Nat.reduceAdd, Nat.reduceMul, Nat.reduceSub, Nat.reduceDiv, Nat.reduceLT, Nat.reduceLeDiff, Nat.reduceBEq, Nat.reduceBNe, List.reduceReplicate, ty0, ty1, ty3, ty4, ty22, ty36, ty39, ty68, ty69, ty70]; first | (refine hK1 _ ?_; clear hK1 K1) | (refine ⟨by first | omega | (simp; done) | (simp; omega), hK1 _ ?_⟩; clear hK1 K1)) | ((first | refine lst_nil ?_ | refine aw_skip ?_); refine hK _ ?_; clear hK K)))
        (refine aw_cnd ?_; intro X Y hX hY; simp only [evE, dSlice, dFunc, evT, reduceIte, reduceCtorEq, Nat.reduceEqDiff, Nat.reduceAdd, Nat.reduceMul, Nat.reduceSub, Nat.reduceDiv, Nat.reduceLT, Nat.reduceLeDiff, Nat.reduceBEq, Nat.reduceBNe, List.reduceReplicate, ty0, ty1, ty3, ty4, ty22, ty36, ty39, ty68, ty69, ty70])
        refine ⟨fun h => hX ?_, fun h => hY ?_⟩
        · have hlt : k < L.length := by simpa using h
          clear hX hY X Y h
          have hbk := hb _ (List.getElem_mem hlt)
          have hpre := @tvNext_pre out L[k]
          (repeat (first | (refine aw_seq ?_; intro K hK) | refine aw_block ?_ | refine aw_region ?_ | (refine lst_x rfl rfl ?_; intro K1 hK1; simp only [undef, evE, dSlice, dFunc, evT, reduceIte, reduceCtorEq, Nat.reduceEqDiff, Nat.reduceAdd, Nat.reduceMul, Nat.reduceSub, Nat.reduceDiv, Nat.reduceLT, Nat.reduceLeDiff, Nat.reduceBEq, Nat.reduceBNe, List.reduceReplicate, ty0, ty1, ty3, ty4, ty22, ty36, ty39, ty68, ty69, ty70, tSets_len, tSets_get (List.getElem?_eq_getElem hlt)]; first | (refine hK1 _ ?_; clear hK1 K1) | (refine ⟨by first | omega | (simp; done) | (simp; omega), hK1 _ ?_⟩; clear hK1 K1)) | ((first | refine lst_nil ?_ | refine aw_skip ?_); refine hK _ ?_; clear hK K)))
          refine aw_le (le_nil 9 22 1 ?_) ?_
          · simp only [evE, dSlice, dFunc, evT, reduceIte, reduceCtorEq, Nat.reduceEqDiff, Nat.reduceAdd, Nat.reduceMul, Nat.reduceSub, Nat.reduceDiv, Nat.reduceLT, Nat.reduceLeDiff, Nat.reduceBEq, Nat.reduceBNe, List.reduceReplicate, ty0, ty1, ty3, ty4, ty22, ty36, ty39, ty68, ty69, ty70]
          have hfull := hG.full hlt
          have hnext := hG.next hlt
          have hel := hG.el
          have hnb := tvNext_b (s := L[k]) hel
          generalize hS : L[k] = s at *
          refine aw_loop (fun j : Nat => { tm := [(8, .a (.c (.t 1 (tInts s)))), (9, .a (.c (.s 0 (tvNext (out.take j) s).length))), (25, .a (.c (.t 1 (tSets L)))), (26, .i L.length), (27, .i k), (31, .a (.c (.t 1 (tSets out)))), (32, .i out.length), (33, .i j)], hp := [.r ⟨22, 1, true, cSets (tvNext (out.take j) s)⟩], n := 65, pin := 0 }) (fun j => j ≤ out.length) (fun j => out.length - j) 0 ?_ ?_ ?_
          · omega
          · (refine le_tm ?_; simp only [LeTm, evE, dSlice, dFunc, evT, reduceIte, reduceCtorEq, Nat.reduceEqDiff, Nat.reduceAdd, Nat.reduceMul, Nat.reduceSub, Nat.reduceDiv, Nat.reduceLT, Nat.reduceLeDiff, Nat.reduceBEq, Nat.reduceBNe, List.reduceReplicate, ty0, ty1, ty3, ty4, ty22, ty36, ty39, ty68, ty69, ty70, List.take_zero, tvNext, List.flatMap_nil, cSets, List.map_nil]; try simp)
          · rintro j hj K hK
            (repeat (first | (refine aw_seq ?_; intro K hK) | refine aw_block ?_ | refine aw_region ?_ | (refine lst_x rfl rfl ?_; intro K1 hK1; simp only [undef, evE, dSlice, dFunc, evT, reduceIte, reduceCtorEq, Nat.reduceEqDiff, Nat.reduceAdd, Nat.reduceMul, Nat.reduceSub, Nat.reduceDiv, Nat.reduceLT, Nat.reduceLeDiff, Nat.reduceBEq, Nat.reduceBNe, List.reduceReplicate, ty0, ty1, ty3, ty4, ty22, ty36, ty39, ty68, ty69, ty70]; first | (refine hK1 _ ?_; clear hK1 K1) | (refine ⟨by first | omega | (simp; done) | (simp; omega), hK1 _ ?_⟩; clear hK1 K1)) | ((first | refine lst_nil ?_ | refine aw_skip ?_); refine hK _ ?_; clear hK K)))
            (refine aw_cnd ?_; intro X Y hX hY; simp only [evE, dSlice, dFunc, evT, reduceIte, reduceCtorEq, Nat.reduceEqDiff, Nat.reduceAdd, Nat.reduceMul, Nat.reduceSub, Nat.reduceDiv, Nat.reduceLT, Nat.reduceLeDiff, Nat.reduceBEq, Nat.reduceBNe, List.reduceReplicate, ty0, ty1, ty3, ty4, ty22, ty36, ty39, ty68, ty69, ty70])
            refine ⟨fun h => hX ?_, fun h => hY ?_⟩
            · have hlj : j < out.length := by simpa using h
              clear hX hY X Y h
              have hnx := tvNext_take out s hlj
              have htl := hel _ (List.getElem_mem hlj)
              have hNl := @hpre j (by omega) hGl
              generalize hN : tvNext (out.take j) s = N at *
              have hlc := List.take_of_length_le (Nat.le_of_eq (cSets_len N))
              (repeat (first | (refine aw_seq ?_; intro K hK) | refine aw_block ?_ | refine aw_region ?_ | (refine lst_x rfl rfl ?_; intro K1 hK1; simp only [undef, evE, dSlice, dFunc, evT, reduceIte, reduceCtorEq, Nat.reduceEqDiff, Nat.reduceAdd, Nat.reduceMul, Nat.reduceSub, Nat.reduceDiv, Nat.reduceLT, Nat.reduceLeDiff, Nat.reduceBEq, Nat.reduceBNe, List.reduceReplicate, ty0, ty1, ty3, ty4, ty22, ty36, ty39, ty68, ty69, ty70, tSets_len, tSets_get (List.getElem?_eq_getElem hlj)]; first | (refine hK1 _ ?_; clear hK1 K1) | (refine ⟨by first | omega | (simp; done) | (simp; omega), hK1 _ ?_⟩; clear hK1 K1)) | ((first | refine lst_nil ?_ | refine aw_skip ?_); refine hK _ ?_; clear hK K)))
              (refine lst_cons rfl ?_; intro K1 hK1; refine (stp_call0 (ids := []) (meetsT_fc out[j] s (by omega) (by omega)) rfl rfl (by simp only [evE, dSlice, dFunc, evT, reduceIte, reduceCtorEq, Nat.reduceEqDiff, Nat.reduceAdd, Nat.reduceMul, Nat.reduceSub, Nat.reduceDiv, Nat.reduceLT, Nat.reduceLeDiff, Nat.reduceBEq, Nat.reduceBNe, List.reduceReplicate, ty0, ty1, ty3, ty4, ty22, ty36, ty39, ty68, ty69, ty70]) (by kernel_rfl) (by (simp only [clos, List.append_nil, AV.ren, A0.ren, C.ren, evE, dSlice, dFunc, evT, reduceIte, reduceCtorEq, Nat.reduceEqDiff, Nat.reduceAdd, Nat.reduceMul, Nat.reduceSub, Nat.reduceDiv, Nat.reduceLT, Nat.reduceLeDiff, Nat.reduceBEq, Nat.reduceBNe, List.reduceReplicate, ty0, ty1, ty3, ty4, ty22, ty36, ty39, ty68, ty69, ty70]) <;> rfl) ?_).stp)
              rintro _ _ ⟨rfl, rfl⟩
              (simp only [evR, aInts, aSets, cSets_up, ST.back, nbTm, setAll, upn, AV.up, A0.up, C.up, Ob.up, AV.nb, A0.nb, C.nb, ofTr_up, List.contains_cons, List.contains_nil, List.getD_cons_zero, List.getD_cons_succ, List.set_cons_zero, List.set_cons_succ, List.append_nil, List.nil_append, List.length_map, evE, dSlice, dFunc, evT, reduceIte, reduceCtorEq, Nat.reduceEqDiff, Nat.reduceAdd, Nat.reduceMul, Nat.reduceSub, Nat.reduceDiv, Nat.reduceLT, Nat.reduceLeDiff, Nat.reduceBEq, Nat.reduceBNe, List.reduceReplicate, ty0, ty1, ty3, ty4, ty22, ty36, ty39, ty68, ty69, ty70]; refine hK1 _ ?_; clear hK1 K1)
              (repeat (first | (refine aw_seq ?_; intro K hK) | refine aw_block ?_ | refine aw_region ?_ | (refine lst_x rfl rfl ?_; intro K1 hK1; simp only [undef, evE, dSlice, dFunc, evT, reduceIte, reduceCtorEq, Nat.reduceEqDiff, Nat.reduceAdd, Nat.reduceMul, Nat.reduceSub, Nat.reduceDiv, Nat.reduceLT, Nat.reduceLeDiff, Nat.reduceBEq, Nat.reduceBNe, List.reduceReplicate, ty0, ty1, ty3, ty4, ty22, ty36, ty39, ty68, ty69, ty70]; first | (refine hK1 _ ?_; clear hK1 K1) | (refine ⟨by first | omega | (simp; done) | (simp; omega), hK1 _ ?_⟩; clear hK1 K1)) | ((first | refine lst_nil ?_ | refine aw_skip ?_); refine hK _ ?_; clear hK K)))
              (refine aw_cnd ?_; intro X Y hX hY; simp only [evE, dSlice, dFunc, evT, reduceIte, reduceCtorEq, Nat.reduceEqDiff, Nat.reduceAdd, Nat.reduceMul, Nat.reduceSub, Nat.reduceDiv, Nat.reduceLT, Nat.reduceLeDiff, Nat.reduceBEq, Nat.reduceBNe, List.reduceReplicate, ty0, ty1, ty3, ty4, ty22, ty36, ty39, ty68, ty69, ty70])
              refine ⟨fun h => hX ?_, fun h => hY ?_⟩
              · clear hX hY X Y
                rw [if_pos h] at hnx
                have e2 : (N ++ [out[j]]).length = N.length + 1 := by simp
                (repeat (first | (refine aw_seq ?_; intro K hK) | refine aw_block ?_ | refine aw_region ?_ | (refine lst_x rfl rfl ?_; intro K1 hK1; simp only [undef, evE, dSlice, dFunc, evT, reduceIte, reduceCtorEq, Nat.reduceEqDiff, Nat.reduceAdd, Nat.reduceMul, Nat.reduceSub, Nat.reduceDiv, Nat.reduceLT, Nat.reduceLeDiff, Nat.reduceBEq, Nat.reduceBNe, List.reduceReplicate, ty0, ty1, ty3, ty4, ty22, ty36, ty39, ty68, ty69, ty70, List.set_cons_zero, List.set_cons_succ, List.take_succ_cons, List.take_zero, List.drop_zero, List.length_take, List.length_drop, List.length_append, tSets_len, tSets_take, tSets_drop, tSets_c, cSets_len, cSets_one, cSets_snoc, cSets_app, cSets_take, cSets_drop, hlc, List.take_length]; first | (refine hK1 _ ?_; clear hK1 K1) | (refine ⟨by first | omega | (simp; done) | (simp; omega), hK1 _ ?_⟩; clear hK1 K1)) | ((first | refine lst_nil ?_ | refine aw_skip ?_); refine hK _ ?_; clear hK K)))
                (refine aw_exit ?_; simp only [ThenA, InBl, reduceIte, Nat.reduceEqDiff]; (first | refine hK _ ?_ | (clear hK K; refine hK _ ?_) | (clear hK K; clear hK K; refine hK _ ?_) | (clear hK K; clear hK K; clear hK K; refine hK _ ?_) | (clear hK K; clear hK K; clear hK K; clear hK K; refine hK _ ?_) | (clear hK K; clear hK K; clear hK K; clear hK K; clear hK K; refine hK _ ?_)); clear hK K)
                (repeat (first | (refine aw_seq ?_; intro K hK) | refine aw_block ?_ | refine aw_region ?_ | (refine lst_x rfl rfl ?_; intro K1 hK1; simp only [undef, evE, dSlice, dFunc, evT, reduceIte, reduceCtorEq, Nat.reduceEqDiff, Nat.reduceAdd, Nat.reduceMul, Nat.reduceSub, Nat.reduceDiv, Nat.reduceLT, Nat.reduceLeDiff, Nat.reduceBEq, Nat.reduceBNe, List.reduceReplicate, ty0, ty1, ty3, ty4, ty22, ty36, ty39, ty68, ty69, ty70]; first | (refine hK1 _ ?_; clear hK1 K1) | (refine ⟨by first | omega | (simp; done) | (simp; omega), hK1 _ ?_⟩; clear hK1 K1)) | ((first | refine lst_nil ?_ | refine aw_skip ?_); refine hK _ ?_; clear hK K)))
                ((try refine lst_nil ?_); (try refine aw_skip ?_); try simp only [ThenA])
                refine hK _ (j + 1) (by omega) (by omega) ?_
                refine Le.trans (le_pick [2] rfl rfl) ?_
                (simp only [ST.pick, AV.ren, A0.ren, C.ren, Ob.ren, idx, renIds, ofTr_ren, List.getD_cons_zero, List.getD_cons_succ, List.set_cons_zero, List.set_cons_succ, List.set_nil, List.take_nil, List.take_zero, List.map_append, evE, dSlice, dFunc, evT, reduceIte, reduceCtorEq, Nat.reduceEqDiff, Nat.reduceAdd, Nat.reduceMul, Nat.reduceSub, Nat.reduceDiv, Nat.reduceLT, Nat.reduceLeDiff, Nat.reduceBEq, Nat.reduceBNe, List.reduceReplicate, ty0, ty1, ty3, ty4, ty22, ty36, ty39, ty68, ty69, ty70])
                simp only [cSets_ren, hnx, e2]
                (refine le_tm ?_; simp only [LeTm, evE, dSlice, dFunc, evT, reduceIte, reduceCtorEq, Nat.reduceEqDiff, Nat.reduceAdd, Nat.reduceMul, Nat.reduceSub, Nat.reduceDiv, Nat.reduceLT, Nat.reduceLeDiff, Nat.reduceBEq, Nat.reduceBNe, List.reduceReplicate, ty0, ty1, ty3, ty4, ty22, ty36, ty39, ty68, ty69, ty70]; try simp)
              · clear hX hY X Y
                rw [if_neg (by rw [h]; simp)] at hnx
                (repeat (first | (refine aw_seq ?_; intro K hK) | refine aw_block ?_ | refine aw_region ?_ | (refine lst_x rfl rfl ?_; intro K1 hK1; simp only [undef, evE, dSlice, dFunc, evT, reduceIte, reduceCtorEq, Nat.reduceEqDiff, Nat.reduceAdd, Nat.reduceMul, Nat.reduceSub, Nat.reduceDiv, Nat.reduceLT, Nat.reduceLeDiff, Nat.reduceBEq, Nat.reduceBNe, List.reduceReplicate, ty0, ty1, ty3, ty4, ty22, ty36, ty39, ty68, ty69, ty70, tInts_len]; first | (refine hK1 _ ?_; clear hK1 K1) | (refine ⟨by first | omega | (simp; done) | (simp; omega), hK1 _ ?_⟩; clear hK1 K1)) | ((first | refine lst_nil ?_ | refine aw_skip ?_); refine hK _ ?_; clear hK K)))
                refine aw_loop (fun i : Nat => { tm := [(8, .a (.c (.t 1 (tInts s)))), (9, .a (.c (.s 0 (N ++ (s.take i).map fun e => addI e out[j]).length))), (11, .a (.c (.t 1 (tInts out[j])))), (25, .a (.c (.t 1 (tSets L)))), (26, .i L.length), (27, .i k), (31, .a (.c (.t 1 (tSets out)))), (32, .i out.length), (33, .i j), (44, .a (.c (.t 1 (tInts s)))), (45, .i s.length), (46, .i i)], hp := [.r ⟨22, 1, true, cSets (N ++ (s.take i).map fun e => addI e out[j])⟩], n := 65, pin := 0 }) (fun i => i ≤ s.length) (fun i => s.length - i) 0 ?_ ?_ ?_
                · omega
                · simp only [List.take_zero, List.map_nil, List.append_nil]
                  (refine le_tm ?_; simp only [LeTm, evE, dSlice, dFunc, evT, reduceIte, reduceCtorEq, Nat.reduceEqDiff, Nat.reduceAdd, Nat.reduceMul, Nat.reduceSub, Nat.reduceDiv, Nat.reduceLT, Nat.reduceLeDiff, Nat.reduceBEq, Nat.reduceBNe, List.reduceReplicate, ty0, ty1, ty3, ty4, ty22, ty36, ty39, ty68, ty69, ty70]; try simp)
                · rintro i hi K hK
                  (repeat (first | (refine aw_seq ?_; intro K hK) | refine aw_block ?_ | refine aw_region ?_ | (refine lst_x rfl rfl ?_; intro K1 hK1; simp only [undef, evE, dSlice, dFunc, evT, reduceIte, reduceCtorEq, Nat.reduceEqDiff, Nat.reduceAdd, Nat.reduceMul, Nat.reduceSub, Nat.reduceDiv, Nat.reduceLT, Nat.reduceLeDiff, Nat.reduceBEq, Nat.reduceBNe, List.reduceReplicate, ty0, ty1, ty3, ty4, ty22, ty36, ty39, ty68, ty69, ty70]; first | (refine hK1 _ ?_; clear hK1 K1) | (refine ⟨by first | omega | (simp; done) | (simp; omega), hK1 _ ?_⟩; clear hK1 K1)) | ((first | refine lst_nil ?_ | refine aw_skip ?_); refine hK _ ?_; clear hK K)))
                  (refine aw_cnd ?_; intro X Y hX hY; simp only [evE, dSlice, dFunc, evT, reduceIte, reduceCtorEq, Nat.reduceEqDiff, Nat.reduceAdd, Nat.reduceMul, Nat.reduceSub, Nat.reduceDiv, Nat.reduceLT, Nat.reduceLeDiff, Nat.reduceBEq, Nat.reduceBNe, List.reduceReplicate, ty0, ty1, ty3, ty4, ty22, ty36, ty39, ty68, ty69, ty70])
                  refine ⟨fun h => hX ?_, fun h => hY ?_⟩
                  · have hli : i < s.length := by simpa using h
                    clear hX hY X Y h
                    have e1 : N ++ (s.take (i + 1)).map (fun e => addI e out[j]) = N ++ (s.take i).map (fun e => addI e out[j]) ++ [addI s[i] out[j]] := by
                      rw [List.take_succ_eq_append_getElem hli, List.map_append, List.map_cons, List.map_nil, List.append_assoc]
                    have hQl : (N ++ (s.take i).map (fun e => addI e out[j])).length ≤ 931600 := by simp; omega
                    generalize hQ : N ++ (s.take i).map (fun e => addI e out[j]) = Q at *
                    have hlc := List.take_of_length_le (Nat.le_of_eq (cSets_len Q))
                    have e2 : (Q ++ [addI s[i] out[j]]).length = Q.length + 1 := by simp
                    (repeat (first | (refine aw_seq ?_; intro K hK) | refine aw_block ?_ | refine aw_region ?_ | (refine lst_x rfl rfl ?_; intro K1 hK1; simp only [undef, evE, dSlice, dFunc, evT, reduceIte, reduceCtorEq, Nat.reduceEqDiff, Nat.reduceAdd, Nat.reduceMul, Nat.reduceSub, Nat.reduceDiv, Nat.reduceLT, Nat.reduceLeDiff, Nat.reduceBEq, Nat.reduceBNe, List.reduceReplicate, ty0, ty1, ty3, ty4, ty22, ty36, ty39, ty68, ty69, ty70, tInts_len, tInts_get (List.getElem?_eq_getElem hli)]; first | (refine hK1 _ ?_; clear hK1 K1) | (refine ⟨by first | omega | (simp; done) | (simp; omega), hK1 _ ?_⟩; clear hK1 K1)) | ((first | refine lst_nil ?_ | refine aw_skip ?_); refine hK _ ?_; clear hK K)))
                    (refine lst_cons rfl ?_; intro K1 hK1; refine (stp_call0 (ids := []) (with_fc out[j] s[i] htl.1 (by omega)) rfl rfl (by simp only [evE, dSlice, dFunc, evT, reduceIte, reduceCtorEq, Nat.reduceEqDiff, Nat.reduceAdd, Nat.reduceMul, Nat.reduceSub, Nat.reduceDiv, Nat.reduceLT, Nat.reduceLeDiff, Nat.reduceBEq, Nat.reduceBNe, List.reduceReplicate, ty0, ty1, ty3, ty4, ty22, ty36, ty39, ty68, ty69, ty70]) (by kernel_rfl) (by (simp only [clos, List.append_nil, AV.ren, A0.ren, C.ren, evE, dSlice, dFunc, evT, reduceIte, reduceCtorEq, Nat.reduceEqDiff, Nat.reduceAdd, Nat.reduceMul, Nat.reduceSub, Nat.reduceDiv, Nat.reduceLT, Nat.reduceLeDiff, Nat.reduceBEq, Nat.reduceBNe, List.reduceReplicate, ty0, ty1, ty3, ty4, ty22, ty36, ty39, ty68, ty69, ty70]) <;> rfl) ?_).stp)
                    rintro _ _ ⟨rfl, rfl⟩
                    (simp only [evR, aInts, aSets, cSets_up, ST.back, nbTm, setAll, upn, AV.up, A0.up, C.up, Ob.up, AV.nb, A0.nb, C.nb, ofTr_up, List.contains_cons, List.contains_nil, List.getD_cons_zero, List.getD_cons_succ, List.set_cons_zero, List.set_cons_succ, List.append_nil, List.nil_append, List.length_map, evE, dSlice, dFunc, evT, reduceIte, reduceCtorEq, Nat.reduceEqDiff, Nat.reduceAdd, Nat.reduceMul, Nat.reduceSub, Nat.reduceDiv, Nat.reduceLT, Nat.reduceLeDiff, Nat.reduceBEq, Nat.reduceBNe, List.reduceReplicate, ty0, ty1, ty3, ty4, ty22, ty36, ty39, ty68, ty69, ty70]; refine hK1 _ ?_; clear hK1 K1)
                    (repeat (first | (refine aw_seq ?_; intro K hK) | refine aw_block ?_ | refine aw_region ?_ | (refine lst_x rfl rfl ?_; intro K1 hK1; simp only [undef, evE, dSlice, dFunc, evT, reduceIte, reduceCtorEq, Nat.reduceEqDiff, Nat.reduceAdd, Nat.reduceMul, Nat.reduceSub, Nat.reduceDiv, Nat.reduceLT, Nat.reduceLeDiff, Nat.reduceBEq, Nat.reduceBNe, List.reduceReplicate, ty0, ty1, ty3, ty4, ty22, ty36, ty39, ty68, ty69, ty70, List.set_cons_zero, List.set_cons_succ, List.take_succ_cons, List.take_zero, List.drop_zero, List.length_take, List.length_drop, List.length_append, tSets_len, tSets_take, tSets_drop, tSets_c, cSets_len, cSets_one, cSets_snoc, cSets_app, cSets_take, cSets_drop, hlc, List.take_length]; first | (refine hK1 _ ?_; clear hK1 K1) | (refine ⟨by first | omega | (simp; done) | (simp; omega), hK1 _ ?_⟩; clear hK1 K1)) | ((first | refine lst_nil ?_ | refine aw_skip ?_); refine hK _ ?_; clear hK K)))
                    ((try refine lst_nil ?_); (try refine aw_skip ?_); try simp only [ThenA])
                    refine hK _ (i + 1) (by omega) (by omega) ?_
                    refine Le.trans (le_pick [2] rfl rfl) ?_
                    (simp only [ST.pick, AV.ren, A0.ren, C.ren, Ob.ren, idx, renIds, ofTr_ren, List.getD_cons_zero, List.getD_cons_succ, List.set_cons_zero, List.set_cons_succ, List.set_nil, List.take_nil, List.take_zero, List.map_append, evE, dSlice, dFunc, evT, reduceIte, reduceCtorEq, Nat.reduceEqDiff, Nat.reduceAdd, Nat.reduceMul, Nat.reduceSub, Nat.reduceDiv, Nat.reduceLT, Nat.reduceLeDiff, Nat.reduceBEq, Nat.reduceBNe, List.reduceReplicate, ty0, ty1, ty3, ty4, ty22, ty36, ty39, ty68, ty69, ty70])
                    simp only [cSets_ren, e1, e2]
                    (refine le_tm ?_; simp only [LeTm, evE, dSlice, dFunc, evT, reduceIte, reduceCtorEq, Nat.reduceEqDiff, Nat.reduceAdd, Nat.reduceMul, Nat.reduceSub, Nat.reduceDiv, Nat.reduceLT, Nat.reduceLeDiff, Nat.reduceBEq, Nat.reduceBNe, List.reduceReplicate, ty0, ty1, ty3, ty4, ty22, ty36, ty39, ty68, ty69, ty70]; try simp)
                  · have hge : i = s.length := by simp at h; omega
                    clear hX hY X Y
                    have e : s.take i = s := by rw [hge, List.take_length]
                    rw [e, ← hnx]
                    (refine aw_exit ?_; simp only [ThenA, InBl, reduceIte, Nat.reduceEqDiff]; (first | refine hK _ ?_ | (clear hK K; refine hK _ ?_) | (clear hK K; clear hK K; refine hK _ ?_) | (clear hK K; clear hK K; clear hK K; refine hK _ ?_) | (clear hK K; clear hK K; clear hK K; clear hK K; refine hK _ ?_) | (clear hK K; clear hK K; clear hK K; clear hK K; clear hK K; refine hK _ ?_)); clear hK K)
                    (repeat (first | (refine aw_seq ?_; intro K hK) | refine aw_block ?_ | refine aw_region ?_ | (refine lst_x rfl rfl ?_; intro K1 hK1; simp only [undef, evE, dSlice, dFunc, evT, reduceIte, reduceCtorEq, Nat.reduceEqDiff, Nat.reduceAdd, Nat.reduceMul, Nat.reduceSub, Nat.reduceDiv, Nat.reduceLT, Nat.reduceLeDiff, Nat.reduceBEq, Nat.reduceBNe, List.reduceReplicate, ty0, ty1, ty3, ty4, ty22, ty36, ty39, ty68, ty69, ty70]; first | (refine hK1 _ ?_; clear hK1 K1) | (refine ⟨by first | omega | (simp; done) | (simp; omega), hK1 _ ?_⟩; clear hK1 K1)) | ((first | refine lst_nil ?_ | refine aw_skip ?_); refine hK _ ?_; clear hK K)))
                    ((try refine lst_nil ?_); (try refine aw_skip ?_); try simp only [ThenA])
                    refine hK _ (j + 1) (by omega) (by omega) ?_
                    (refine le_tm ?_; simp only [LeTm, evE, dSlice, dFunc, evT, reduceIte, reduceCtorEq, Nat.reduceEqDiff, Nat.reduceAdd, Nat.reduceMul, Nat.reduceSub, Nat.reduceDiv, Nat.reduceLT, Nat.reduceLeDiff, Nat.reduceBEq, Nat.reduceBNe, List.reduceReplicate, ty0, ty1, ty3, ty4, ty22, ty36, ty39, ty68, ty69, ty70]; try simp)
            · have hge : j = out.length := by simp at h; omega
              clear hX hY X Y
              have hNl := @hpre j (by omega) hGl
              have e : out.take j = out := by rw [hge, List.take_length]
              rw [e] at hNl ⊢
              generalize hN : tvNext out s = N at *
              (refine aw_exit ?_; simp only [ThenA, InBl, reduceIte, Nat.reduceEqDiff]; (first | refine hK _ ?_ | (clear hK K; refine hK _ ?_) | (clear hK K; clear hK K; refine hK _ ?_) | (clear hK K; clear hK K; clear hK K; refine hK _ ?_) | (clear hK K; clear hK K; clear hK K; clear hK K; refine hK _ ?_) | (clear hK K; clear hK K; clear hK K; clear hK K; clear hK K; refine hK _ ?_)); clear hK K)
              (refine aw_le (le_frz (r := ⟨22, 1, true, cSets N⟩) 0 (tSets N) rfl (fz_cs _) (show 0 < (1 : Nat) by omega)) ?_; simp only [ST.frz, A0.frz, AV.frz, C.frz, Nat.le_refl, List.set_cons_zero, List.set_cons_succ, evE, dSlice, dFunc, evT, reduceIte, reduceCtorEq, Nat.reduceEqDiff, Nat.reduceAdd, Nat.reduceMul, Nat.reduceSub, Nat.reduceDiv, Nat.reduceLT, Nat.reduceLeDiff, Nat.reduceBEq, Nat.reduceBNe, List.reduceReplicate, ty0, ty1, ty3, ty4, ty22, ty36, ty39, ty68, ty69, ty70, tSets_len, tSets_take, List.take_length])
              refine aw_le (le_pick [] rfl rfl) ?_
              (simp only [ST.pick, AV.ren, A0.ren, C.ren, Ob.ren, idx, renIds, ofTr_ren, List.getD_cons_zero, List.getD_cons_succ, List.set_cons_zero, List.set_cons_succ, List.set_nil, List.take_nil, List.take_zero, List.map_append, evE, dSlice, dFunc, evT, reduceIte, reduceCtorEq, Nat.reduceEqDiff, Nat.reduceAdd, Nat.reduceMul, Nat.reduceSub, Nat.reduceDiv, Nat.reduceLT, Nat.reduceLeDiff, Nat.reduceBEq, Nat.reduceBNe, List.reduceReplicate, ty0, ty1, ty3, ty4, ty22, ty36, ty39, ty68, ty69, ty70])
              (repeat (first | (refine aw_seq ?_; intro K hK) | refine aw_block ?_ | refine aw_region ?_ | (refine lst_x rfl rfl ?_; intro K1 hK1; simp only [undef, evE, dSlice, dFunc, evT, reduceIte, reduceCtorEq, Nat.reduceEqDiff, Nat.reduceAdd, Nat.reduceMul, Nat.reduceSub, Nat.reduceDiv, Nat.reduceLT, Nat.reduceLeDiff, Nat.reduceBEq, Nat.reduceBNe, List.reduceReplicate, ty0, ty1, ty3, ty4, ty22, ty36, ty39, ty68, ty69, ty70]; first | (refine hK1 _ ?_; clear hK1 K1) | (refine ⟨by first | omega | (simp; done) | (simp; omega), hK1 _ ?_⟩; clear hK1 K1)) | ((first | refine lst_nil ?_ | refine aw_skip ?_); refine hK _ ?_; clear hK K)))
              (refine lst_cons rfl ?_; intro K1 hK1; refine (stp_call0 (ids := []) (dminT_fc N (by omega) (fun x hx => Nat.le_trans (hnb x hx).2 (by omega))) rfl rfl (by simp only [evE, dSlice, dFunc, evT, reduceIte, reduceCtorEq, Nat.reduceEqDiff, Nat.reduceAdd, Nat.reduceMul, Nat.reduceSub, Nat.reduceDiv, Nat.reduceLT, Nat.reduceLeDiff, Nat.reduceBEq, Nat.reduceBNe, List.reduceReplicate, ty0, ty1, ty3, ty4, ty22, ty36, ty39, ty68, ty69, ty70]) (by kernel_rfl) (by (simp only [clos, List.append_nil, AV.ren, A0.ren, C.ren, evE, dSlice, dFunc, evT, reduceIte, reduceCtorEq, Nat.reduceEqDiff, Nat.reduceAdd, Nat.reduceMul, Nat.reduceSub, Nat.reduceDiv, Nat.reduceLT, Nat.reduceLeDiff, Nat.reduceBEq, Nat.reduceBNe, List.reduceReplicate, ty0, ty1, ty3, ty4, ty22, ty36, ty39, ty68, ty69, ty70]) <;> rfl) ?_).stp)
              rintro _ _ ⟨rfl, rfl⟩
              (simp only [evR, aInts, aSets, ST.back, nbTm, setAll, upn, AV.up, A0.up, C.up, Ob.up, AV.nb, A0.nb, C.nb, ofTr_up, List.contains_cons, List.contains_nil, List.getD_cons_zero, List.getD_cons_succ, List.set_cons_zero, List.set_cons_succ, List.append_nil, List.nil_append, List.length_map, evE, dSlice, dFunc, evT, reduceIte, reduceCtorEq, Nat.reduceEqDiff, Nat.reduceAdd, Nat.reduceMul, Nat.reduceSub, Nat.reduceDiv, Nat.reduceLT, Nat.reduceLeDiff, Nat.reduceBEq, Nat.reduceBNe, List.reduceReplicate, ty0, ty1, ty3, ty4, ty22, ty36, ty39, ty68, ty69, ty70]; refine hK1 _ ?_; clear hK1 K1)
              (repeat (first | (refine aw_seq ?_; intro K hK) | refine aw_block ?_ | refine aw_region ?_ | (refine lst_x rfl rfl ?_; intro K1 hK1; simp only [undef, evE, dSlice, dFunc, evT, reduceIte, reduceCtorEq, Nat.reduceEqDiff, Nat.reduceAdd, Nat.reduceMul, Nat.reduceSub, Nat.reduceDiv, Nat.reduceLT, Nat.reduceLeDiff, Nat.reduceBEq, Nat.reduceBNe, List.reduceReplicate, ty0, ty1, ty3, ty4, ty22, ty36, ty39, ty68, ty69, ty70, tSets_len]; first | (refine hK1 _ ?_; clear hK1 K1) | (refine ⟨by first | omega | (simp; done) | (simp; omega), hK1 _ ?_⟩; clear hK1 K1)) | ((first | refine lst_nil ?_ | refine aw_skip ?_); refine hK _ ?_; clear hK K)))
              (refine aw_cnd ?_; intro X Y hX hY; simp only [evE, dSlice, dFunc, evT, reduceIte, reduceCtorEq, Nat.reduceEqDiff, Nat.reduceAdd, Nat.reduceMul, Nat.reduceSub, Nat.reduceDiv, Nat.reduceLT, Nat.reduceLeDiff, Nat.reduceBEq, Nat.reduceBNe, List.reduceReplicate, ty0, ty1, ty3, ty4, ty22, ty36, ty39, ty68, ty69, ty70])
              refine ⟨fun h => hX ?_, fun h => hY ?_⟩
              · clear hX hY X Y
                have h1 : (minR N).length > 1024 := by simp at h; omega
                (repeat (first | (refine aw_seq ?_; intro K hK) | refine aw_block ?_ | refine aw_region ?_ | (refine lst_x rfl rfl ?_; intro K1 hK1; simp only [undef, evE, dSlice, dFunc, evT, reduceIte, reduceCtorEq, Nat.reduceEqDiff, Nat.reduceAdd, Nat.reduceMul, Nat.reduceSub, Nat.reduceDiv, Nat.reduceLT, Nat.reduceLeDiff, Nat.reduceBEq, Nat.reduceBNe, List.reduceReplicate, ty0, ty1, ty3, ty4, ty22, ty36, ty39, ty68, ty69, ty70]; first | (refine hK1 _ ?_; clear hK1 K1) | (refine ⟨by first | omega | (simp; done) | (simp; omega), hK1 _ ?_⟩; clear hK1 K1)) | ((first | refine lst_nil ?_ | refine aw_skip ?_); refine hK _ ?_; clear hK K)))
                refine aw_ret ?_
                simp only [ThenA, InBl]
                refine ret_le (le_nilt 2 1 ?_) ?_
                · simp only [evE, dSlice, dFunc, evT, reduceIte, reduceCtorEq, Nat.reduceEqDiff, Nat.reduceAdd, Nat.reduceMul, Nat.reduceSub, Nat.reduceDiv, Nat.reduceLT, Nat.reduceLeDiff, Nat.reduceBEq, Nat.reduceBNe, List.reduceReplicate, ty0, ty1, ty3, ty4, ty22, ty36, ty39, ty68, ty69, ty70]
                ((try refine aw_ret ?_); (try refine lst_nil ?_); (try simp only [ThenA, InBl]); refine ret_mk (by first | exact .inl rfl | exact .inr rfl) rfl ?_; simp only [rtn, resA, resL, resV, Tryz.results24, evE, dSlice, dFunc, evT, reduceIte, reduceCtorEq, Nat.reduceEqDiff, Nat.reduceAdd, Nat.reduceMul, Nat.reduceSub, Nat.reduceDiv, Nat.reduceLT, Nat.reduceLeDiff, Nat.reduceBEq, Nat.reduceBNe, List.reduceReplicate, ty0, ty1, ty3, ty4, ty22, ty36, ty39, ty68, ty69, ty70])
                rw [hfull h1]
                simp [aTv, tSets]
              · clear hX hY X Y
                have h1 : ¬ (minR N).length > 1024 := by simp at h; omega
                (repeat (first | (refine aw_seq ?_; intro K hK) | refine aw_block ?_ | refine aw_region ?_ | (refine lst_x rfl rfl ?_; intro K1 hK1; simp only [undef, evE, dSlice, dFunc, evT, reduceIte, reduceCtorEq, Nat.reduceEqDiff, Nat.reduceAdd, Nat.reduceMul, Nat.reduceSub, Nat.reduceDiv, Nat.reduceLT, Nat.reduceLeDiff, Nat.reduceBEq, Nat.reduceBNe, List.reduceReplicate, ty0, ty1, ty3, ty4, ty22, ty36, ty39, ty68, ty69, ty70]; first | (refine hK1 _ ?_; clear hK1 K1) | (refine ⟨by first | omega | (simp; done) | (simp; omega), hK1 _ ?_⟩; clear hK1 K1)) | ((first | refine lst_nil ?_ | refine aw_skip ?_); refine hK _ ?_; clear hK K)))
                ((try refine lst_nil ?_); (try refine aw_skip ?_); try simp only [ThenA])
                refine hK _ (k + 1, minR N) (hnext h1) (by simp only; omega) ?_
                (refine le_tm ?_; simp only [LeTm, evE, dSlice, dFunc, evT, reduceIte, reduceCtorEq, Nat.reduceEqDiff, Nat.reduceAdd, Nat.reduceMul, Nat.reduceSub, Nat.reduceDiv, Nat.reduceLT, Nat.reduceLeDiff, Nat.reduceBEq, Nat.reduceBNe, List.reduceReplicate, ty0, ty1, ty3, ty4, ty22, ty36, ty39, ty68, ty69, ty70]; try simp)
        · have hge : L.length ≤ k := by simpa using h
          clear hX hY X Y
          (refine aw_exit ?_; simp only [ThenA, InBl, reduceIte, Nat.reduceEqDiff]; (first | refine hK _ ?_ | (clear hK K; refine hK _ ?_) | (clear hK K; clear hK K; refine hK _ ?_) | (clear hK K; clear hK K; clear hK K; refine hK _ ?_) | (clear hK K; clear hK K; clear hK K; clear hK K; refine hK _ ?_) | (clear hK K; clear hK K; clear hK K; clear hK K; clear hK K; refine hK _ ?_)); clear hK K)
          (repeat (first | (refine aw_seq ?_; intro K hK) | refine aw_block ?_ | refine aw_region ?_ | (refine lst_x rfl rfl ?_; intro K1 hK1; simp only [undef, evE, dSlice, dFunc, evT, reduceIte, reduceCtorEq, Nat.reduceEqDiff, Nat.reduceAdd, Nat.reduceMul, Nat.reduceSub, Nat.reduceDiv, Nat.reduceLT, Nat.reduceLeDiff, Nat.reduceBEq, Nat.reduceBNe, List.reduceReplicate, ty0, ty1, ty3, ty4, ty22, ty36, ty39, ty68, ty69, ty70]; first | (refine hK1 _ ?_; clear hK1 K1) | (refine ⟨by first | omega | (simp; done) | (simp; omega), hK1 _ ?_⟩; clear hK1 K1)) | ((first | refine lst_nil ?_ | refine aw_skip ?_); refine hK _ ?_; clear hK K)))
          ((try refine aw_ret ?_); (try refine lst_nil ?_); (try simp only [ThenA, InBl]); refine ret_mk (by first | exact .inl rfl | exact .inr rfl) rfl ?_; simp only [rtn, resA, resL, resV, Tryz.results24, evE, dSlice, dFunc, evT, reduceIte, reduceCtorEq, Nat.reduceEqDiff, Nat.reduceAdd, Nat.reduceMul, Nat.reduceSub, Nat.reduceDiv, Nat.reduceLT, Nat.reduceLeDiff, Nat.reduceBEq, Nat.reduceBNe, List.reduceReplicate, ty0, ty1, ty3, ty4, ty22, ty36, ty39, ty68, ty69, ty70])
          rw [hG.end_ hge]
          rfl
end Go.Proofs.YtfjfllpcflddmaaGreat
