/- The tape, by the machine: New, Next; Add. -/
import Derived.Test.YtfjfllpcflddmaaGreatME
import Derived.Test.YtfjfllpcflddmaaGreatMD
import Derived.Test.YtfjfllpcflddmaaGreatMF
import Derived.Test.YtfjfllpcflddmaaGreatTs1
namespace Go.Proofs.YtfjfllpcflddmaaGreat
set_option linter.unusedVariables false
set_option linter.unusedSimpArgs false
open Go.RowKit
set_option maxRecDepth 100000

theorem tmod_b (v n : Int) (hn : 1 ≤ n) : -n < v.tmod n ∧ v.tmod n < n := by
  by_cases h : 0 ≤ v
  · rw [Int.tmod_eq_emod_of_nonneg h]
    have h1 := Int.emod_nonneg v (show n ≠ 0 by omega)
    exact ⟨by omega, Int.emod_lt_of_pos _ (by omega)⟩
  · have h1 : v.tmod n = -((-v).tmod n) := by rw [Int.neg_tmod]; omega
    have h2 := Int.emod_nonneg (-v) (show n ≠ 0 by omega)
    have h3 := Int.emod_lt_of_pos (-v) (show 0 < n by omega)
    rw [h1, Int.tmod_eq_emod_of_nonneg (show 0 ≤ -v by omega)]
    omega

/-- a tape: its numbers, and how many have been taken -/
def tape (T : List Int) (a : Nat) : Ob := .r ⟨71, 2, false, [.t 1 (tInts T), .v (.int .i64 a)]⟩
/-- what a tape must be -/
structure TpOk (T : List Int) : Prop where
  len : T.length ≤ 9223372036854775807
  in_ : ∀ x ∈ T, in64 x
theorem new_fc (T : List Int) : FC Tryz.prog 12 [aInts T] [] (fun r o => r = .a (.c (.p 0 0)) ∧ o = [tape T 0]) := by
  refine fc_intro Tryz.func12 rfl (by rw [Tryz.ntmps12]; simp) ?_
  rw [Tryz.ntmps12]
  simp only [enum, aInts]
  (repeat (first | (refine aw_seq ?_; intro K hK) | refine aw_block ?_ | refine aw_region ?_ | (refine lst_x rfl rfl ?_; intro K1 hK1; simp only [undef, evE, dSlice, dFunc, evT, reduceIte, reduceCtorEq, Nat.reduceEqDiff, Nat.reduceAdd, Nat.reduceMul, Nat.reduceSub, Nat.reduceDiv, Nat.reduceLT, Nat.reduceLeDiff, Nat.reduceBEq, Nat.reduceBNe, List.reduceReplicate, ty0, ty1, ty3, ty22, ty26, ty71, List.set_cons_zero, List.set_cons_succ]; first | (refine hK1 _ ?_; clear hK1 K1) | (refine ⟨by first | omega | (simp; done) | (simp; omega), hK1 _ ?_⟩; clear hK1 K1)) | ((first | refine lst_nil ?_ | refine aw_skip ?_); refine hK _ ?_; clear hK K)))
  ((try refine aw_ret ?_); (try refine lst_nil ?_); (try simp only [ThenA, InBl]); refine ret_mk (by first | exact .inl rfl | exact .inr rfl) rfl ?_; simp only [rtn, resA, resL, resV, Tryz.results12, evE, dSlice, dFunc, evT, reduceIte, reduceCtorEq, Nat.reduceEqDiff, Nat.reduceAdd, Nat.reduceMul, Nat.reduceSub, Nat.reduceDiv, Nat.reduceLT, Nat.reduceLeDiff, Nat.reduceBEq, Nat.reduceBNe, List.reduceReplicate, ty0, ty1, ty3, ty22, ty26, ty71])
  rfl

theorem next_fc (T : List Int) (a : Nat) (n : Int) (hT : TpOk T) (ha : a ≤ 1000000000) (hn : n ≤ 1000000000) :
    FC Tryz.prog 33 [.a (.c (.p 0 0)), .i n] [tape T a] (fun r o => o = [tape T (a + 1)] ∧ ∃ v : Nat, r = .i v ∧ ((v : Int) < n ∨ v = 0)) := by
  refine fc_intro Tryz.func33 rfl (by rw [Tryz.ntmps33]; simp) ?_
  rw [Tryz.ntmps33]
  simp only [enum, tape]
  have hl := hT.len
  (repeat (first | (refine aw_seq ?_; intro K hK) | refine aw_block ?_ | refine aw_region ?_ | (refine lst_x rfl rfl ?_; intro K1 hK1; simp only [undef, evE, dSlice, dFunc, evT, reduceIte, reduceCtorEq, Nat.reduceEqDiff, Nat.reduceAdd, Nat.reduceMul, Nat.reduceSub, Nat.reduceDiv, Nat.reduceLT, Nat.reduceLeDiff, Nat.reduceBEq, Nat.reduceBNe, List.reduceReplicate, ty0, ty1, ty3, ty22, ty26, ty71]; first | (refine hK1 _ ?_; clear hK1 K1) | (refine ⟨by first | omega | (simp; done) | (simp; omega), hK1 _ ?_⟩; clear hK1 K1)) | ((first | refine lst_nil ?_ | refine aw_skip ?_); refine hK _ ?_; clear hK K)))
  (refine aw_regionU 9 [(0, 0), (1, 0), (2, 0), (3, 1), (4, 0), (5, 0), (6, 0), (7, 1), (8, 0), (9, 2)] (by kernel_rfl) (by kernel_rfl) (by intro c st h; simp [ThenA, InBl, Ret] at h) ?_)
  (repeat (first | ((first | refine u_0x rfl rfl rfl ?_ | refine u_1x rfl rfl rfl ?_); intro K1 hK1; simp only [undef, evR, evE, dSlice, dFunc, evT, reduceIte, reduceCtorEq, Nat.reduceEqDiff, Nat.reduceAdd, Nat.reduceMul, Nat.reduceSub, Nat.reduceDiv, Nat.reduceLT, Nat.reduceLeDiff, Nat.reduceBEq, Nat.reduceBNe, List.reduceReplicate, ty0, ty1, ty3, ty22, ty26, ty71, tInts_len]; first | (refine hK1 _ ?_; clear hK1 K1) | (refine ⟨by first | omega | (simp; done) | (simp; omega), hK1 _ ?_⟩; clear hK1 K1)) | (refine u_2x rfl rfl rfl rfl ?_; intro K1 hK1; simp only [undef, evR, evE, dSlice, dFunc, evT, reduceIte, reduceCtorEq, Nat.reduceEqDiff, Nat.reduceAdd, Nat.reduceMul, Nat.reduceSub, Nat.reduceDiv, Nat.reduceLT, Nat.reduceLeDiff, Nat.reduceBEq, Nat.reduceBNe, List.reduceReplicate, ty0, ty1, ty3, ty22, ty26, ty71, tInts_len]; first | (refine hK1 _ ?_; clear hK1 K1) | (refine ⟨by first | omega | (simp; done) | (simp; omega), hK1 _ ?_⟩; clear hK1 K1)) | (refine u_nil ?_; refine hK _ ?_; clear hK K)))
  (refine aw_cnd ?_; intro X Y hX hY; simp only [evE, dSlice, dFunc, evT, reduceIte, reduceCtorEq, Nat.reduceEqDiff, Nat.reduceAdd, Nat.reduceMul, Nat.reduceSub, Nat.reduceDiv, Nat.reduceLT, Nat.reduceLeDiff, Nat.reduceBEq, Nat.reduceBNe, List.reduceReplicate, ty0, ty1, ty3, ty22, ty26, ty71])
  refine ⟨fun h => hX ?_, fun h => hY ?_⟩
  · have hlt : a < T.length := by simpa using h
    have hv := hT.in_ _ (List.getElem_mem hlt)
    simp only [in64] at hv
    clear hX hY X Y h
    (refine aw_regionU 10 [(0, 0), (1, 0), (2, 0), (3, 1), (4, 0), (5, 0), (6, 0), (7, 1), (8, 0), (9, 1), (10, 2)] (by kernel_rfl) (by kernel_rfl) (by intro c st h; simp [ThenA, InBl, Ret] at h) ?_)
    (repeat (first | ((first | refine u_0x rfl rfl rfl ?_ | refine u_1x rfl rfl rfl ?_); intro K1 hK1; simp only [undef, evR, evE, dSlice, dFunc, evT, reduceIte, reduceCtorEq, Nat.reduceEqDiff, Nat.reduceAdd, Nat.reduceMul, Nat.reduceSub, Nat.reduceDiv, Nat.reduceLT, Nat.reduceLeDiff, Nat.reduceBEq, Nat.reduceBNe, List.reduceReplicate, ty0, ty1, ty3, ty22, ty26, ty71, tInts_len, tInts_get (List.getElem?_eq_getElem hlt)]; first | (refine hK1 _ ?_; clear hK1 K1) | (refine ⟨by first | omega | (simp; done) | (simp; omega), hK1 _ ?_⟩; clear hK1 K1)) | (refine u_2x rfl rfl rfl rfl ?_; intro K1 hK1; simp only [undef, evR, evE, dSlice, dFunc, evT, reduceIte, reduceCtorEq, Nat.reduceEqDiff, Nat.reduceAdd, Nat.reduceMul, Nat.reduceSub, Nat.reduceDiv, Nat.reduceLT, Nat.reduceLeDiff, Nat.reduceBEq, Nat.reduceBNe, List.reduceReplicate, ty0, ty1, ty3, ty22, ty26, ty71, tInts_len, tInts_get (List.getElem?_eq_getElem hlt)]; first | (refine hK1 _ ?_; clear hK1 K1) | (refine ⟨by first | omega | (simp; done) | (simp; omega), hK1 _ ?_⟩; clear hK1 K1)) | (refine u_nil ?_; refine hK _ ?_; clear hK K)))
    (repeat (first | (refine aw_seq ?_; intro K hK) | refine aw_block ?_ | refine aw_region ?_ | (refine lst_x rfl rfl ?_; intro K1 hK1; simp only [undef, evE, dSlice, dFunc, evT, reduceIte, reduceCtorEq, Nat.reduceEqDiff, Nat.reduceAdd, Nat.reduceMul, Nat.reduceSub, Nat.reduceDiv, Nat.reduceLT, Nat.reduceLeDiff, Nat.reduceBEq, Nat.reduceBNe, List.reduceReplicate, ty0, ty1, ty3, ty22, ty26, ty71, List.set_cons_zero, List.set_cons_succ]; first | (refine hK1 _ ?_; clear hK1 K1) | (refine ⟨by first | omega | (simp; done) | (simp; omega), hK1 _ ?_⟩; clear hK1 K1)) | ((first | refine lst_nil ?_ | refine aw_skip ?_); refine hK _ ?_; clear hK K)))
    (refine aw_cnd ?_; intro X Y hX hY; simp only [evE, dSlice, dFunc, evT, reduceIte, reduceCtorEq, Nat.reduceEqDiff, Nat.reduceAdd, Nat.reduceMul, Nat.reduceSub, Nat.reduceDiv, Nat.reduceLT, Nat.reduceLeDiff, Nat.reduceBEq, Nat.reduceBNe, List.reduceReplicate, ty0, ty1, ty3, ty22, ty26, ty71])
    refine ⟨fun h => hX ?_, fun h => hY ?_⟩
    · clear hX hY X Y
      (repeat (first | (refine aw_seq ?_; intro K hK) | refine aw_block ?_ | refine aw_region ?_ | (refine lst_x rfl rfl ?_; intro K1 hK1; simp only [undef, evE, dSlice, dFunc, evT, reduceIte, reduceCtorEq, Nat.reduceEqDiff, Nat.reduceAdd, Nat.reduceMul, Nat.reduceSub, Nat.reduceDiv, Nat.reduceLT, Nat.reduceLeDiff, Nat.reduceBEq, Nat.reduceBNe, List.reduceReplicate, ty0, ty1, ty3, ty22, ty26, ty71]; first | (refine hK1 _ ?_; clear hK1 K1) | (refine ⟨by first | omega | (simp; done) | (simp; omega), hK1 _ ?_⟩; clear hK1 K1)) | ((first | refine lst_nil ?_ | refine aw_skip ?_); refine hK _ ?_; clear hK K)))
      ((try refine aw_ret ?_); (try refine lst_nil ?_); (try simp only [ThenA, InBl]); refine ret_mk (by first | exact .inl rfl | exact .inr rfl) rfl ?_; simp only [rtn, resA, resL, resV, Tryz.results33, evE, dSlice, dFunc, evT, reduceIte, reduceCtorEq, Nat.reduceEqDiff, Nat.reduceAdd, Nat.reduceMul, Nat.reduceSub, Nat.reduceDiv, Nat.reduceLT, Nat.reduceLeDiff, Nat.reduceBEq, Nat.reduceBNe, List.reduceReplicate, ty0, ty1, ty3, ty22, ty26, ty71])
      exact ⟨rfl, 0, rfl, .inr rfl⟩
    · have hn1 : 1 ≤ n := by simp at h; omega
      have hb := tmod_b (T[a]) n hn1
      clear hX hY X Y
      (repeat (first | (refine aw_seq ?_; intro K hK) | refine aw_block ?_ | refine aw_region ?_ | (refine lst_x rfl rfl ?_; intro K1 hK1; simp only [undef, evE, dSlice, dFunc, evT, reduceIte, reduceCtorEq, Nat.reduceEqDiff, Nat.reduceAdd, Nat.reduceMul, Nat.reduceSub, Nat.reduceDiv, Nat.reduceLT, Nat.reduceLeDiff, Nat.reduceBEq, Nat.reduceBNe, List.reduceReplicate, ty0, ty1, ty3, ty22, ty26, ty71]; first | (refine hK1 _ ?_; clear hK1 K1) | (refine ⟨by first | omega | (simp; done) | (simp; omega), hK1 _ ?_⟩; clear hK1 K1)) | ((first | refine lst_nil ?_ | refine aw_skip ?_); refine hK _ ?_; clear hK K)))
      (refine aw_cnd ?_; intro X Y hX hY; simp only [evE, dSlice, dFunc, evT, reduceIte, reduceCtorEq, Nat.reduceEqDiff, Nat.reduceAdd, Nat.reduceMul, Nat.reduceSub, Nat.reduceDiv, Nat.reduceLT, Nat.reduceLeDiff, Nat.reduceBEq, Nat.reduceBNe, List.reduceReplicate, ty0, ty1, ty3, ty22, ty26, ty71])
      refine ⟨fun h => hX ?_, fun h => hY ?_⟩
      · clear hX hY X Y
        have h1 : Int.tmod (T[a]) n < 0 := by simpa using h
        (repeat (first | (refine aw_seq ?_; intro K hK) | refine aw_block ?_ | refine aw_region ?_ | (refine lst_x rfl rfl ?_; intro K1 hK1; simp only [undef, evE, dSlice, dFunc, evT, reduceIte, reduceCtorEq, Nat.reduceEqDiff, Nat.reduceAdd, Nat.reduceMul, Nat.reduceSub, Nat.reduceDiv, Nat.reduceLT, Nat.reduceLeDiff, Nat.reduceBEq, Nat.reduceBNe, List.reduceReplicate, ty0, ty1, ty3, ty22, ty26, ty71]; first | (refine hK1 _ ?_; clear hK1 K1) | (refine ⟨by first | omega | (simp; done) | (simp; omega), hK1 _ ?_⟩; clear hK1 K1)) | ((first | refine lst_nil ?_ | refine aw_skip ?_); refine hK _ ?_; clear hK K)))
        ((try refine aw_ret ?_); (try refine lst_nil ?_); (try simp only [ThenA, InBl]); refine ret_mk (by first | exact .inl rfl | exact .inr rfl) rfl ?_; simp only [rtn, resA, resL, resV, Tryz.results33, evE, dSlice, dFunc, evT, reduceIte, reduceCtorEq, Nat.reduceEqDiff, Nat.reduceAdd, Nat.reduceMul, Nat.reduceSub, Nat.reduceDiv, Nat.reduceLT, Nat.reduceLeDiff, Nat.reduceBEq, Nat.reduceBNe, List.reduceReplicate, ty0, ty1, ty3, ty22, ty26, ty71])
        exact ⟨rfl, (Int.tmod (T[a]) n + n).toNat, by rw [Int.toNat_of_nonneg (by omega)], .inl (by omega)⟩
      · clear hX hY X Y
        have h1 : 0 ≤ Int.tmod (T[a]) n := by simpa using h
        (repeat (first | (refine aw_seq ?_; intro K hK) | refine aw_block ?_ | refine aw_region ?_ | (refine lst_x rfl rfl ?_; intro K1 hK1; simp only [undef, evE, dSlice, dFunc, evT, reduceIte, reduceCtorEq, Nat.reduceEqDiff, Nat.reduceAdd, Nat.reduceMul, Nat.reduceSub, Nat.reduceDiv, Nat.reduceLT, Nat.reduceLeDiff, Nat.reduceBEq, Nat.reduceBNe, List.reduceReplicate, ty0, ty1, ty3, ty22, ty26, ty71]; first | (refine hK1 _ ?_; clear hK1 K1) | (refine ⟨by first | omega | (simp; done) | (simp; omega), hK1 _ ?_⟩; clear hK1 K1)) | ((first | refine lst_nil ?_ | refine aw_skip ?_); refine hK _ ?_; clear hK K)))
        ((try refine aw_ret ?_); (try refine lst_nil ?_); (try simp only [ThenA, InBl]); refine ret_mk (by first | exact .inl rfl | exact .inr rfl) rfl ?_; simp only [rtn, resA, resL, resV, Tryz.results33, evE, dSlice, dFunc, evT, reduceIte, reduceCtorEq, Nat.reduceEqDiff, Nat.reduceAdd, Nat.reduceMul, Nat.reduceSub, Nat.reduceDiv, Nat.reduceLT, Nat.reduceLeDiff, Nat.reduceBEq, Nat.reduceBNe, List.reduceReplicate, ty0, ty1, ty3, ty22, ty26, ty71])
        exact ⟨rfl, (Int.tmod (T[a]) n).toNat, by rw [Int.toNat_of_nonneg (by omega)], .inl (by omega)⟩
  · clear hX hY X Y h
    (repeat (first | (refine aw_seq ?_; intro K hK) | refine aw_block ?_ | refine aw_region ?_ | (refine lst_x rfl rfl ?_; intro K1 hK1; simp only [undef, evE, dSlice, dFunc, evT, reduceIte, reduceCtorEq, Nat.reduceEqDiff, Nat.reduceAdd, Nat.reduceMul, Nat.reduceSub, Nat.reduceDiv, Nat.reduceLT, Nat.reduceLeDiff, Nat.reduceBEq, Nat.reduceBNe, List.reduceReplicate, ty0, ty1, ty3, ty22, ty26, ty71, List.set_cons_zero, List.set_cons_succ]; first | (refine hK1 _ ?_; clear hK1 K1) | (refine ⟨by first | omega | (simp; done) | (simp; omega), hK1 _ ?_⟩; clear hK1 K1)) | ((first | refine lst_nil ?_ | refine aw_skip ?_); refine hK _ ?_; clear hK K)))
    (refine aw_cnd ?_; intro X Y hX hY; simp only [evE, dSlice, dFunc, evT, reduceIte, reduceCtorEq, Nat.reduceEqDiff, Nat.reduceAdd, Nat.reduceMul, Nat.reduceSub, Nat.reduceDiv, Nat.reduceLT, Nat.reduceLeDiff, Nat.reduceBEq, Nat.reduceBNe, List.reduceReplicate, ty0, ty1, ty3, ty22, ty26, ty71])
    refine ⟨fun h => hX ?_, fun h => hY ?_⟩
    · clear hX hY X Y
      (repeat (first | (refine aw_seq ?_; intro K hK) | refine aw_block ?_ | refine aw_region ?_ | (refine lst_x rfl rfl ?_; intro K1 hK1; simp only [undef, evE, dSlice, dFunc, evT, reduceIte, reduceCtorEq, Nat.reduceEqDiff, Nat.reduceAdd, Nat.reduceMul, Nat.reduceSub, Nat.reduceDiv, Nat.reduceLT, Nat.reduceLeDiff, Nat.reduceBEq, Nat.reduceBNe, List.reduceReplicate, ty0, ty1, ty3, ty22, ty26, ty71]; first | (refine hK1 _ ?_; clear hK1 K1) | (refine ⟨by first | omega | (simp; done) | (simp; omega), hK1 _ ?_⟩; clear hK1 K1)) | ((first | refine lst_nil ?_ | refine aw_skip ?_); refine hK _ ?_; clear hK K)))
      ((try refine aw_ret ?_); (try refine lst_nil ?_); (try simp only [ThenA, InBl]); refine ret_mk (by first | exact .inl rfl | exact .inr rfl) rfl ?_; simp only [rtn, resA, resL, resV, Tryz.results33, evE, dSlice, dFunc, evT, reduceIte, reduceCtorEq, Nat.reduceEqDiff, Nat.reduceAdd, Nat.reduceMul, Nat.reduceSub, Nat.reduceDiv, Nat.reduceLT, Nat.reduceLeDiff, Nat.reduceBEq, Nat.reduceBNe, List.reduceReplicate, ty0, ty1, ty3, ty22, ty26, ty71])
      exact ⟨rfl, 0, rfl, .inr rfl⟩
    · have hn1 : 1 ≤ n := by simp at h; omega
      have hb := tmod_b (5 * (a : Int) + 3) n hn1
      clear hX hY X Y
      (repeat (first | (refine aw_seq ?_; intro K hK) | refine aw_block ?_ | refine aw_region ?_ | (refine lst_x rfl rfl ?_; intro K1 hK1; simp only [undef, evE, dSlice, dFunc, evT, reduceIte, reduceCtorEq, Nat.reduceEqDiff, Nat.reduceAdd, Nat.reduceMul, Nat.reduceSub, Nat.reduceDiv, Nat.reduceLT, Nat.reduceLeDiff, Nat.reduceBEq, Nat.reduceBNe, List.reduceReplicate, ty0, ty1, ty3, ty22, ty26, ty71]; first | (refine hK1 _ ?_; clear hK1 K1) | (refine ⟨by first | omega | (simp; done) | (simp; omega), hK1 _ ?_⟩; clear hK1 K1)) | ((first | refine lst_nil ?_ | refine aw_skip ?_); refine hK _ ?_; clear hK K)))
      (refine aw_cnd ?_; intro X Y hX hY; simp only [evE, dSlice, dFunc, evT, reduceIte, reduceCtorEq, Nat.reduceEqDiff, Nat.reduceAdd, Nat.reduceMul, Nat.reduceSub, Nat.reduceDiv, Nat.reduceLT, Nat.reduceLeDiff, Nat.reduceBEq, Nat.reduceBNe, List.reduceReplicate, ty0, ty1, ty3, ty22, ty26, ty71])
      refine ⟨fun h => hX ?_, fun h => hY ?_⟩
      · clear hX hY X Y
        have h1 : Int.tmod (5 * (a : Int) + 3) n < 0 := by simpa using h
        (repeat (first | (refine aw_seq ?_; intro K hK) | refine aw_block ?_ | refine aw_region ?_ | (refine lst_x rfl rfl ?_; intro K1 hK1; simp only [undef, evE, dSlice, dFunc, evT, reduceIte, reduceCtorEq, Nat.reduceEqDiff, Nat.reduceAdd, Nat.reduceMul, Nat.reduceSub, Nat.reduceDiv, Nat.reduceLT, Nat.reduceLeDiff, Nat.reduceBEq, Nat.reduceBNe, List.reduceReplicate, ty0, ty1, ty3, ty22, ty26, ty71]; first | (refine hK1 _ ?_; clear hK1 K1) | (refine ⟨by first | omega | (simp; done) | (simp; omega), hK1 _ ?_⟩; clear hK1 K1)) | ((first | refine lst_nil ?_ | refine aw_skip ?_); refine hK _ ?_; clear hK K)))
        ((try refine aw_ret ?_); (try refine lst_nil ?_); (try simp only [ThenA, InBl]); refine ret_mk (by first | exact .inl rfl | exact .inr rfl) rfl ?_; simp only [rtn, resA, resL, resV, Tryz.results33, evE, dSlice, dFunc, evT, reduceIte, reduceCtorEq, Nat.reduceEqDiff, Nat.reduceAdd, Nat.reduceMul, Nat.reduceSub, Nat.reduceDiv, Nat.reduceLT, Nat.reduceLeDiff, Nat.reduceBEq, Nat.reduceBNe, List.reduceReplicate, ty0, ty1, ty3, ty22, ty26, ty71])
        exact ⟨rfl, (Int.tmod (5 * (a : Int) + 3) n + n).toNat, by rw [Int.toNat_of_nonneg (by omega)], .inl (by omega)⟩
      · clear hX hY X Y
        have h1 : 0 ≤ Int.tmod (5 * (a : Int) + 3) n := by simpa using h
        (repeat (first | (refine aw_seq ?_; intro K hK) | refine aw_block ?_ | refine aw_region ?_ | (refine lst_x rfl rfl ?_; intro K1 hK1; simp only [undef, evE, dSlice, dFunc, evT, reduceIte, reduceCtorEq, Nat.reduceEqDiff, Nat.reduceAdd, Nat.reduceMul, Nat.reduceSub, Nat.reduceDiv, Nat.reduceLT, Nat.reduceLeDiff, Nat.reduceBEq, Nat.reduceBNe, List.reduceReplicate, ty0, ty1, ty3, ty22, ty26, ty71]; first | (refine hK1 _ ?_; clear hK1 K1) | (refine ⟨by first | omega | (simp; done) | (simp; omega), hK1 _ ?_⟩; clear hK1 K1)) | ((first | refine lst_nil ?_ | refine aw_skip ?_); refine hK _ ?_; clear hK K)))
        ((try refine aw_ret ?_); (try refine lst_nil ?_); (try simp only [ThenA, InBl]); refine ret_mk (by first | exact .inl rfl | exact .inr rfl) rfl ?_; simp only [rtn, resA, resL, resV, Tryz.results33, evE, dSlice, dFunc, evT, reduceIte, reduceCtorEq, Nat.reduceEqDiff, Nat.reduceAdd, Nat.reduceMul, Nat.reduceSub, Nat.reduceDiv, Nat.reduceLT, Nat.reduceLeDiff, Nat.reduceBEq, Nat.reduceBNe, List.reduceReplicate, ty0, ty1, ty3, ty22, ty26, ty71])
        exact ⟨rfl, (Int.tmod (5 * (a : Int) + 3) n).toNat, by rw [Int.toNat_of_nonneg (by omega)], .inl (by omega)⟩

/-! rows of numbers -/
def cInts (xs : List Int) : List C := xs.map fun x => C.v (.int .i64 x)
def rInts (xs : List Int) : Ob := .r ⟨3, 1, true, cInts xs⟩
theorem cInts_len (xs : List Int) : (cInts xs).length = xs.length := by simp [cInts]
theorem cInts_get {xs : List Int} {i : Nat} {x : Int} (h : xs[i]? = some x) : (cInts xs)[i]? = some (.v (.int .i64 x)) := by simp [cInts, h]
theorem cInts_take (xs : List Int) (n : Nat) : (cInts xs).take n = cInts (xs.take n) := by simp [cInts, List.map_take]
theorem cInts_drop (xs : List Int) (n : Nat) : (cInts xs).drop n = cInts (xs.drop n) := by simp [cInts, List.map_drop]
theorem cInts_app (xs ys : List Int) : cInts xs ++ cInts ys = cInts (xs ++ ys) := by simp [cInts]
theorem cInts_one (xs : List Int) : (cInts xs).all C.one = true := by simp [cInts, C.one]
theorem cInts_snoc (xs : List Int) (x : Int) : cInts xs ++ [.v (.int .i64 x)] = cInts (xs ++ [x]) := by simp [cInts]
theorem cInts_ren (f : List Nat) (L : List Int) : (cInts L).map (C.ren f) = cInts L := by simp [cInts, C.ren, Function.comp_def]
theorem cInts_up (f : Nat → Nat) (L : List Int) : (cInts L).map (C.up f) = cInts L := by simp [cInts, C.up, Function.comp_def]
theorem tInts_take (xs : List Int) (n : Nat) : (tInts xs).take n = tInts (xs.take n) := by simp [tInts, List.map_take]
theorem tInts_drop (xs : List Int) (n : Nat) : (tInts xs).drop n = tInts (xs.drop n) := by simp [tInts, List.map_drop]
theorem tInts_c (xs : List Int) : (tInts xs).map C.ofTr = cInts xs := tInts_of xs
theorem fz_c (L : List Int) : Fz (cInts L) (tInts L) := by unfold cInts tInts; exact Fz.map fun x _ => .inl rfl
theorem addI_at {x : Int} : ∀ {xs : List Int} {k : Nat}, k ≤ xs.length → (∀ i y, i < k → xs[i]? = some y → y < x) → (∀ y, xs[k]? = some y → x < y) → addI x xs = xs.take k ++ x :: xs.drop k
  | [], k, hk, _, _ => by simp at hk; subst hk; rfl
  | y :: ys, 0, _, _, h2 => by
    have := h2 y rfl
    simp only [addI, List.take_zero, List.drop_zero, List.nil_append]
    rw [if_neg (by omega), if_neg (by omega)]
  | y :: ys, k + 1, hk, h1, h2 => by
    have := h1 0 y (by omega) rfl
    simp only [addI, List.take_succ_cons, List.drop_succ_cons, List.cons_append]
    rw [if_pos this, addI_at (by simpa using hk) (fun i z hi hz => h1 (i + 1) z (by omega) hz) (fun z hz => h2 z hz)]
theorem addI_has {x : Int} : ∀ {xs : List Int} {k : Nat}, (∀ i y, i < k → xs[i]? = some y → y < x) → xs[k]? = some x → addI x xs = xs
  | [], k, _, h => by simp at h
  | y :: ys, 0, _, h => by simp at h; simp [addI, h]
  | y :: ys, k + 1, h1, h => by
    have := h1 0 y (by omega) rfl
    simp only [addI]
    rw [if_pos this, addI_has (fun i z hi hz => h1 (i + 1) z (by omega) hz) h]

/-- Add, at a frozen list -/
theorem addT_fc (xs : List Int) (x : Int) (hn : xs.length ≤ 100000000) : FC Tryz.prog 63 [aInts xs, .i x] [] (fun r o => o = [] ∧ r = aInts (addI x xs)) := by
  refine fc_intro Tryz.func63 rfl (by rw [Tryz.ntmps63]; simp) ?_
  rw [Tryz.ntmps63]
  simp only [enum, aInts]
  (repeat (first | (refine aw_seq ?_; intro K hK) | refine aw_block ?_ | refine aw_region ?_ | (refine lst_x rfl rfl ?_; intro K1 hK1; simp only [undef, evE, dSlice, dFunc, evT, reduceIte, reduceCtorEq, Nat.reduceEqDiff, Nat.reduceAdd, Nat.reduceMul, Nat.reduceSub, Nat.reduceDiv, Nat.reduceLT, Nat.reduceLeDiff, Nat.reduceBEq, Nat.reduceBNe, List.reduceReplicate, ty0, ty1, ty3, ty22, ty26, ty71]; first | (refine hK1 _ ?_; clear hK1 K1) | (refine ⟨by first | omega | (simp; done) | (simp; omega), hK1 _ ?_⟩; clear hK1 K1)) | ((first | refine lst_nil ?_ | refine aw_skip ?_); refine hK _ ?_; clear hK K)))
  refine aw_loop (fun k : Nat => { tm := [(0, .a (.c (.t 1 (tInts xs)))), (1, .i x), (5, .i k)], hp := [], n := 48, pin := 0 }) (fun k => k ≤ xs.length ∧ ∀ i y, i < k → xs[i]? = some y → y < x) (fun k => xs.length - k) 0 ?_ ?_ ?_
  · exact ⟨by omega, by intro i y hi; omega⟩
  · (refine le_tm ?_; simp only [LeTm, evE, dSlice, dFunc, evT, reduceIte, reduceCtorEq, Nat.reduceEqDiff, Nat.reduceAdd, Nat.reduceMul, Nat.reduceSub, Nat.reduceDiv, Nat.reduceLT, Nat.reduceLeDiff, Nat.reduceBEq, Nat.reduceBNe, List.reduceReplicate, ty0, ty1, ty3, ty22, ty26, ty71]; try simp)
  · rintro k ⟨hk, he⟩ K hK
    have fin : ∀ y, (∀ z, xs[k]? = some z → x < z) → y = tInts (xs.take k ++ [x] ++ xs.drop k) → y = tInts (addI x xs) := by
      intro y h1 h2
      rw [h2, addI_at hk he h1]; simp
    have hlen : (xs.take k ++ [x] ++ xs.drop k).length = k + 1 + (xs.length - k) := by simp; omega
    have hlen2 : (xs.take k).length = k := by simp; omega
    have hlen3 : (xs.take k ++ [x]).length = k + 1 := by simp; omega
    by_cases hlt : k < xs.length
    · have hl1 : decide ((k : Int) < (xs.length : Int)) = true := by simpa using hlt
      (repeat (first | (refine aw_seq ?_; intro K hK) | refine aw_block ?_ | refine aw_region ?_ | (refine lst_x rfl rfl ?_; intro K1 hK1; simp only [undef, evE, dSlice, dFunc, evT, reduceIte, reduceCtorEq, Nat.reduceEqDiff, Nat.reduceAdd, Nat.reduceMul, Nat.reduceSub, Nat.reduceDiv, Nat.reduceLT, Nat.reduceLeDiff, Nat.reduceBEq, Nat.reduceBNe, List.reduceReplicate, ty0, ty1, ty3, ty22, ty26, ty71, hl1, tInts_len, tInts_get (List.getElem?_eq_getElem hlt)]; first | (refine hK1 _ ?_; clear hK1 K1) | (refine ⟨by first | omega | (simp; done) | (simp; omega), hK1 _ ?_⟩; clear hK1 K1)) | ((first | refine lst_nil ?_ | refine aw_skip ?_); refine hK _ ?_; clear hK K)))
      (refine aw_cnd ?_; intro X Y hX hY; simp only [evE, dSlice, dFunc, evT, reduceIte, reduceCtorEq, Nat.reduceEqDiff, Nat.reduceAdd, Nat.reduceMul, Nat.reduceSub, Nat.reduceDiv, Nat.reduceLT, Nat.reduceLeDiff, Nat.reduceBEq, Nat.reduceBNe, List.reduceReplicate, ty0, ty1, ty3, ty22, ty26, ty71])
      refine ⟨fun h => hX ?_, fun h => hY ?_⟩
      · clear hX hY X Y
        (repeat (first | (refine aw_seq ?_; intro K hK) | refine aw_block ?_ | refine aw_region ?_ | (refine lst_x rfl rfl ?_; intro K1 hK1; simp only [undef, evE, dSlice, dFunc, evT, reduceIte, reduceCtorEq, Nat.reduceEqDiff, Nat.reduceAdd, Nat.reduceMul, Nat.reduceSub, Nat.reduceDiv, Nat.reduceLT, Nat.reduceLeDiff, Nat.reduceBEq, Nat.reduceBNe, List.reduceReplicate, ty0, ty1, ty3, ty22, ty26, ty71]; first | (refine hK1 _ ?_; clear hK1 K1) | (refine ⟨by first | omega | (simp; done) | (simp; omega), hK1 _ ?_⟩; clear hK1 K1)) | ((first | refine lst_nil ?_ | refine aw_skip ?_); refine hK _ ?_; clear hK K)))
        ((try refine lst_nil ?_); (try refine aw_skip ?_); try simp only [ThenA])
        refine hK _ (k + 1) ⟨by omega, fun i y hi hy => ?_⟩ (by omega) ?_
        · by_cases e : i = k
          · subst e; rw [List.getElem?_eq_getElem hlt] at hy; cases hy; simpa using h
          · exact he i y (by omega) hy
        · (refine le_tm ?_; simp only [LeTm, evE, dSlice, dFunc, evT, reduceIte, reduceCtorEq, Nat.reduceEqDiff, Nat.reduceAdd, Nat.reduceMul, Nat.reduceSub, Nat.reduceDiv, Nat.reduceLT, Nat.reduceLeDiff, Nat.reduceBEq, Nat.reduceBNe, List.reduceReplicate, ty0, ty1, ty3, ty22, ty26, ty71]; try simp)
      · have hle : x ≤ xs[k] := by simpa using h
        clear hX hY X Y
        (refine aw_exit ?_; simp only [ThenA, InBl, reduceIte, Nat.reduceEqDiff]; (first | refine hK _ ?_ | (clear hK K; refine hK _ ?_) | (clear hK K; clear hK K; refine hK _ ?_) | (clear hK K; clear hK K; clear hK K; refine hK _ ?_) | (clear hK K; clear hK K; clear hK K; clear hK K; refine hK _ ?_) | (clear hK K; clear hK K; clear hK K; clear hK K; clear hK K; refine hK _ ?_)); clear hK K)
        (repeat (first | (refine aw_seq ?_; intro K hK) | refine aw_block ?_ | refine aw_region ?_ | (refine lst_x rfl rfl ?_; intro K1 hK1; simp only [undef, evE, dSlice, dFunc, evT, reduceIte, reduceCtorEq, Nat.reduceEqDiff, Nat.reduceAdd, Nat.reduceMul, Nat.reduceSub, Nat.reduceDiv, Nat.reduceLT, Nat.reduceLeDiff, Nat.reduceBEq, Nat.reduceBNe, List.reduceReplicate, ty0, ty1, ty3, ty22, ty26, ty71, hl1, tInts_len, tInts_get (List.getElem?_eq_getElem hlt)]; first | (refine hK1 _ ?_; clear hK1 K1) | (refine ⟨by first | omega | (simp; done) | (simp; omega), hK1 _ ?_⟩; clear hK1 K1)) | ((first | refine lst_nil ?_ | refine aw_skip ?_); refine hK _ ?_; clear hK K)))
        (refine aw_cnd ?_; intro X Y hX hY; simp only [evE, dSlice, dFunc, evT, reduceIte, reduceCtorEq, Nat.reduceEqDiff, Nat.reduceAdd, Nat.reduceMul, Nat.reduceSub, Nat.reduceDiv, Nat.reduceLT, Nat.reduceLeDiff, Nat.reduceBEq, Nat.reduceBNe, List.reduceReplicate, ty0, ty1, ty3, ty22, ty26, ty71])
        refine ⟨fun h => hX ?_, fun h => hY ?_⟩
        · clear hX hY X Y
          (repeat (first | (refine aw_seq ?_; intro K hK) | refine aw_block ?_ | refine aw_region ?_ | (refine lst_x rfl rfl ?_; intro K1 hK1; simp only [undef, evE, dSlice, dFunc, evT, reduceIte, reduceCtorEq, Nat.reduceEqDiff, Nat.reduceAdd, Nat.reduceMul, Nat.reduceSub, Nat.reduceDiv, Nat.reduceLT, Nat.reduceLeDiff, Nat.reduceBEq, Nat.reduceBNe, List.reduceReplicate, ty0, ty1, ty3, ty22, ty26, ty71]; first | (refine hK1 _ ?_; clear hK1 K1) | (refine ⟨by first | omega | (simp; done) | (simp; omega), hK1 _ ?_⟩; clear hK1 K1)) | ((first | refine lst_nil ?_ | refine aw_skip ?_); refine hK _ ?_; clear hK K)))
          ((try refine aw_ret ?_); (try refine lst_nil ?_); (try simp only [ThenA, InBl]); refine ret_mk (by first | exact .inl rfl | exact .inr rfl) rfl ?_; simp only [rtn, resA, resL, resV, Tryz.results63, evE, dSlice, dFunc, evT, reduceIte, reduceCtorEq, Nat.reduceEqDiff, Nat.reduceAdd, Nat.reduceMul, Nat.reduceSub, Nat.reduceDiv, Nat.reduceLT, Nat.reduceLeDiff, Nat.reduceBEq, Nat.reduceBNe, List.reduceReplicate, ty0, ty1, ty3, ty22, ty26, ty71])
          rw [addI_has he (by rw [List.getElem?_eq_getElem hlt]; simpa using h)]
        · have hne : x < xs[k] := by simp at h; omega
          clear hX hY X Y
          (repeat (first | (refine aw_seq ?_; intro K hK) | refine aw_block ?_ | refine aw_region ?_ | (refine lst_x rfl rfl ?_; intro K1 hK1; simp only [undef, evE, dSlice, dFunc, evT, reduceIte, reduceCtorEq, Nat.reduceEqDiff, Nat.reduceAdd, Nat.reduceMul, Nat.reduceSub, Nat.reduceDiv, Nat.reduceLT, Nat.reduceLeDiff, Nat.reduceBEq, Nat.reduceBNe, List.reduceReplicate, ty0, ty1, ty3, ty22, ty26, ty71, List.set_cons_zero, List.set_cons_succ, List.take_succ_cons, List.take_zero, List.drop_zero, List.length_take, List.length_drop, List.length_append, tInts_len, tInts_take, tInts_drop, tInts_c, cInts_len, cInts_one, cInts_snoc, cInts_app, cInts_take, cInts_drop, Nat.min_eq_left hk, List.take_of_length_le (Nat.le_of_eq hlen2), List.take_of_length_le (Nat.le_of_eq hlen3)]; first | (refine hK1 _ ?_; clear hK1 K1) | (refine ⟨by first | omega | (simp; done) | (simp; omega), hK1 _ ?_⟩; clear hK1 K1)) | ((first | refine lst_nil ?_ | refine aw_skip ?_); refine hK _ ?_; clear hK K)))
          ((try refine aw_ret ?_); (try simp only [ThenA, InBl]); refine ret_le (le_frz (r := ⟨3, 1, true, cInts (xs.take k ++ [x] ++ xs.drop k)⟩) 4 (tInts (xs.take k ++ [x] ++ xs.drop k)) rfl (fz_c _) (show 0 < (1 : Nat) by omega)) ?_; refine ret_le (le_pick [] rfl rfl) ?_; simp only [ST.frz, A0.frz, AV.frz, C.frz, Nat.le_refl, List.set_cons_zero, List.set_cons_succ, evE, dSlice, dFunc, evT, reduceIte, reduceCtorEq, Nat.reduceEqDiff, Nat.reduceAdd, Nat.reduceMul, Nat.reduceSub, Nat.reduceDiv, Nat.reduceLT, Nat.reduceLeDiff, Nat.reduceBEq, Nat.reduceBNe, List.reduceReplicate, ty0, ty1, ty3, ty22, ty26, ty71, tInts_len, hlen, Nat.le_refl, tInts_take, List.take_of_length_le (Nat.le_of_eq hlen)]; (simp only [ST.pick, AV.ren, A0.ren, C.ren, Ob.ren, idx, renIds, ofTr_ren, List.getD_cons_zero, List.getD_cons_succ, List.set_cons_zero, List.set_cons_succ, List.set_nil, List.take_nil, List.take_zero, List.map_append, evE, dSlice, dFunc, evT, reduceIte, reduceCtorEq, Nat.reduceEqDiff, Nat.reduceAdd, Nat.reduceMul, Nat.reduceSub, Nat.reduceDiv, Nat.reduceLT, Nat.reduceLeDiff, Nat.reduceBEq, Nat.reduceBNe, List.reduceReplicate, ty0, ty1, ty3, ty22, ty26, ty71]); ((try refine aw_ret ?_); (try refine lst_nil ?_); (try simp only [ThenA, InBl]); refine ret_mk (by first | exact .inl rfl | exact .inr rfl) rfl ?_; simp only [rtn, resA, resL, resV, Tryz.results63, evE, dSlice, dFunc, evT, reduceIte, reduceCtorEq, Nat.reduceEqDiff, Nat.reduceAdd, Nat.reduceMul, Nat.reduceSub, Nat.reduceDiv, Nat.reduceLT, Nat.reduceLeDiff, Nat.reduceBEq, Nat.reduceBNe, List.reduceReplicate, ty0, ty1, ty3, ty22, ty26, ty71, true_and, and_true, tInts_len, hlen, Nat.le_refl, tInts_take, List.take_of_length_le (Nat.le_of_eq hlen)]))
          rw [fin _ (fun z hz => by rw [List.getElem?_eq_getElem hlt] at hz; cases hz; exact hne) rfl]
    · have hl1 : decide ((k : Int) < (xs.length : Int)) = false := by simpa using hlt
      (repeat (first | (refine aw_seq ?_; intro K hK) | refine aw_block ?_ | refine aw_region ?_ | (refine lst_x rfl rfl ?_; intro K1 hK1; simp only [undef, evE, dSlice, dFunc, evT, reduceIte, reduceCtorEq, Nat.reduceEqDiff, Nat.reduceAdd, Nat.reduceMul, Nat.reduceSub, Nat.reduceDiv, Nat.reduceLT, Nat.reduceLeDiff, Nat.reduceBEq, Nat.reduceBNe, List.reduceReplicate, ty0, ty1, ty3, ty22, ty26, ty71, hl1, tInts_len]; first | (refine hK1 _ ?_; clear hK1 K1) | (refine ⟨by first | omega | (simp; done) | (simp; omega), hK1 _ ?_⟩; clear hK1 K1)) | ((first | refine lst_nil ?_ | refine aw_skip ?_); refine hK _ ?_; clear hK K)))
      (refine aw_cnd ?_; intro X Y hX hY; simp only [evE, dSlice, dFunc, evT, reduceIte, reduceCtorEq, Nat.reduceEqDiff, Nat.reduceAdd, Nat.reduceMul, Nat.reduceSub, Nat.reduceDiv, Nat.reduceLT, Nat.reduceLeDiff, Nat.reduceBEq, Nat.reduceBNe, List.reduceReplicate, ty0, ty1, ty3, ty22, ty26, ty71])
      refine hY ?_
      clear hX hY X Y
      (refine aw_exit ?_; simp only [ThenA, InBl, reduceIte, Nat.reduceEqDiff]; (first | refine hK _ ?_ | (clear hK K; refine hK _ ?_) | (clear hK K; clear hK K; refine hK _ ?_) | (clear hK K; clear hK K; clear hK K; refine hK _ ?_) | (clear hK K; clear hK K; clear hK K; clear hK K; refine hK _ ?_) | (clear hK K; clear hK K; clear hK K; clear hK K; clear hK K; refine hK _ ?_)); clear hK K)
      (repeat (first | (refine aw_seq ?_; intro K hK) | refine aw_block ?_ | refine aw_region ?_ | (refine lst_x rfl rfl ?_; intro K1 hK1; simp only [undef, evE, dSlice, dFunc, evT, reduceIte, reduceCtorEq, Nat.reduceEqDiff, Nat.reduceAdd, Nat.reduceMul, Nat.reduceSub, Nat.reduceDiv, Nat.reduceLT, Nat.reduceLeDiff, Nat.reduceBEq, Nat.reduceBNe, List.reduceReplicate, ty0, ty1, ty3, ty22, ty26, ty71, hl1, tInts_len]; first | (refine hK1 _ ?_; clear hK1 K1) | (refine ⟨by first | omega | (simp; done) | (simp; omega), hK1 _ ?_⟩; clear hK1 K1)) | ((first | refine lst_nil ?_ | refine aw_skip ?_); refine hK _ ?_; clear hK K)))
      (refine aw_cnd ?_; intro X Y hX hY; simp only [evE, dSlice, dFunc, evT, reduceIte, reduceCtorEq, Nat.reduceEqDiff, Nat.reduceAdd, Nat.reduceMul, Nat.reduceSub, Nat.reduceDiv, Nat.reduceLT, Nat.reduceLeDiff, Nat.reduceBEq, Nat.reduceBNe, List.reduceReplicate, ty0, ty1, ty3, ty22, ty26, ty71])
      refine hY ?_
      clear hX hY X Y
      (repeat (first | (refine aw_seq ?_; intro K hK) | refine aw_block ?_ | refine aw_region ?_ | (refine lst_x rfl rfl ?_; intro K1 hK1; simp only [undef, evE, dSlice, dFunc, evT, reduceIte, reduceCtorEq, Nat.reduceEqDiff, Nat.reduceAdd, Nat.reduceMul, Nat.reduceSub, Nat.reduceDiv, Nat.reduceLT, Nat.reduceLeDiff, Nat.reduceBEq, Nat.reduceBNe, List.reduceReplicate, ty0, ty1, ty3, ty22, ty26, ty71, List.set_cons_zero, List.set_cons_succ, List.take_succ_cons, List.take_zero, List.drop_zero, List.length_take, List.length_drop, List.length_append, tInts_len, tInts_take, tInts_drop, tInts_c, cInts_len, cInts_one, cInts_snoc, cInts_app, cInts_take, cInts_drop, Nat.min_eq_left hk, List.take_of_length_le (Nat.le_of_eq hlen2), List.take_of_length_le (Nat.le_of_eq hlen3)]; first | (refine hK1 _ ?_; clear hK1 K1) | (refine ⟨by first | omega | (simp; done) | (simp; omega), hK1 _ ?_⟩; clear hK1 K1)) | ((first | refine lst_nil ?_ | refine aw_skip ?_); refine hK _ ?_; clear hK K)))
      ((try refine aw_ret ?_); (try simp only [ThenA, InBl]); refine ret_le (le_frz (r := ⟨3, 1, true, cInts (xs.take k ++ [x] ++ xs.drop k)⟩) 4 (tInts (xs.take k ++ [x] ++ xs.drop k)) rfl (fz_c _) (show 0 < (1 : Nat) by omega)) ?_; refine ret_le (le_pick [] rfl rfl) ?_; simp only [ST.frz, A0.frz, AV.frz, C.frz, Nat.le_refl, List.set_cons_zero, List.set_cons_succ, evE, dSlice, dFunc, evT, reduceIte, reduceCtorEq, Nat.reduceEqDiff, Nat.reduceAdd, Nat.reduceMul, Nat.reduceSub, Nat.reduceDiv, Nat.reduceLT, Nat.reduceLeDiff, Nat.reduceBEq, Nat.reduceBNe, List.reduceReplicate, ty0, ty1, ty3, ty22, ty26, ty71, tInts_len, hlen, Nat.le_refl, tInts_take, List.take_of_length_le (Nat.le_of_eq hlen)]; (simp only [ST.pick, AV.ren, A0.ren, C.ren, Ob.ren, idx, renIds, ofTr_ren, List.getD_cons_zero, List.getD_cons_succ, List.set_cons_zero, List.set_cons_succ, List.set_nil, List.take_nil, List.take_zero, List.map_append, evE, dSlice, dFunc, evT, reduceIte, reduceCtorEq, Nat.reduceEqDiff, Nat.reduceAdd, Nat.reduceMul, Nat.reduceSub, Nat.reduceDiv, Nat.reduceLT, Nat.reduceLeDiff, Nat.reduceBEq, Nat.reduceBNe, List.reduceReplicate, ty0, ty1, ty3, ty22, ty26, ty71]); ((try refine aw_ret ?_); (try refine lst_nil ?_); (try simp only [ThenA, InBl]); refine ret_mk (by first | exact .inl rfl | exact .inr rfl) rfl ?_; simp only [rtn, resA, resL, resV, Tryz.results63, evE, dSlice, dFunc, evT, reduceIte, reduceCtorEq, Nat.reduceEqDiff, Nat.reduceAdd, Nat.reduceMul, Nat.reduceSub, Nat.reduceDiv, Nat.reduceLT, Nat.reduceLeDiff, Nat.reduceBEq, Nat.reduceBNe, List.reduceReplicate, ty0, ty1, ty3, ty22, ty26, ty71, true_and, and_true, tInts_len, hlen, Nat.le_refl, tInts_take, List.take_of_length_le (Nat.le_of_eq hlen)]))
      rw [fin _ (fun z hz => by rw [List.getElem?_eq_none (by omega)] at hz; cases hz) rfl]

/-- Add, at a row of the caller's -/
theorem addO_fc (xs : List Int) (x : Int) (hn : xs.length ≤ 100000000) : FC Tryz.prog 63 [.a (.c (.s 0 xs.length)), .i x] [rInts xs]
    (fun r o => (r = .a (.c (.s 0 xs.length)) ∧ o = [rInts xs] ∧ addI x xs = xs) ∨ (r = .a (.c (.s 1 (addI x xs).length)) ∧ o = [rInts xs, rInts (addI x xs)])) := by
  refine fc_intro Tryz.func63 rfl (by rw [Tryz.ntmps63]; simp) ?_
  rw [Tryz.ntmps63]
  simp only [enum, rInts]
  (repeat (first | (refine aw_seq ?_; intro K hK) | refine aw_block ?_ | refine aw_region ?_ | (refine lst_x rfl rfl ?_; intro K1 hK1; simp only [undef, evE, dSlice, dFunc, evT, reduceIte, reduceCtorEq, Nat.reduceEqDiff, Nat.reduceAdd, Nat.reduceMul, Nat.reduceSub, Nat.reduceDiv, Nat.reduceLT, Nat.reduceLeDiff, Nat.reduceBEq, Nat.reduceBNe, List.reduceReplicate, ty0, ty1, ty3, ty22, ty26, ty71]; first | (refine hK1 _ ?_; clear hK1 K1) | (refine ⟨by first | omega | (simp; done) | (simp; omega), hK1 _ ?_⟩; clear hK1 K1)) | ((first | refine lst_nil ?_ | refine aw_skip ?_); refine hK _ ?_; clear hK K)))
  refine aw_loop (fun k : Nat => { tm := [(0, .a (.c (.s 0 xs.length))), (1, .i x), (5, .i k)], hp := [.r ⟨3, 1, true, cInts xs⟩], n := 48, pin := 1 }) (fun k => k ≤ xs.length ∧ ∀ i y, i < k → xs[i]? = some y → y < x) (fun k => xs.length - k) 0 ?_ ?_ ?_
  · exact ⟨by omega, by intro i y hi; omega⟩
  · (refine le_tm ?_; simp only [LeTm, evE, dSlice, dFunc, evT, reduceIte, reduceCtorEq, Nat.reduceEqDiff, Nat.reduceAdd, Nat.reduceMul, Nat.reduceSub, Nat.reduceDiv, Nat.reduceLT, Nat.reduceLeDiff, Nat.reduceBEq, Nat.reduceBNe, List.reduceReplicate, ty0, ty1, ty3, ty22, ty26, ty71]; try simp)
  · rintro k ⟨hk, he⟩ K hK
    have fin : (∀ z, xs[k]? = some z → x < z) → addI x xs = xs.take k ++ [x] ++ xs.drop k := by
      intro h1
      rw [addI_at hk he h1]; simp
    have hlen : (xs.take k ++ [x] ++ xs.drop k).length = k + 1 + (xs.length - k) := by simp; omega
    have hlen2 : (xs.take k).length = k := by simp; omega
    have hlen3 : (xs.take k ++ [x]).length = k + 1 := by simp; omega
    have hlen4 : (xs.drop k).length = xs.length - k := by simp
    by_cases hlt : k < xs.length
    · have hl1 : decide ((k : Int) < (xs.length : Int)) = true := by simpa using hlt
      (repeat (first | (refine aw_seq ?_; intro K hK) | refine aw_block ?_ | refine aw_region ?_ | (refine lst_x rfl rfl ?_; intro K1 hK1; simp only [undef, evE, dSlice, dFunc, evT, reduceIte, reduceCtorEq, Nat.reduceEqDiff, Nat.reduceAdd, Nat.reduceMul, Nat.reduceSub, Nat.reduceDiv, Nat.reduceLT, Nat.reduceLeDiff, Nat.reduceBEq, Nat.reduceBNe, List.reduceReplicate, ty0, ty1, ty3, ty22, ty26, ty71, hl1, cInts_get (List.getElem?_eq_getElem hlt)]; first | (refine hK1 _ ?_; clear hK1 K1) | (refine ⟨by first | omega | (simp; done) | (simp; omega), hK1 _ ?_⟩; clear hK1 K1)) | ((first | refine lst_nil ?_ | refine aw_skip ?_); refine hK _ ?_; clear hK K)))
      (refine aw_cnd ?_; intro X Y hX hY; simp only [evE, dSlice, dFunc, evT, reduceIte, reduceCtorEq, Nat.reduceEqDiff, Nat.reduceAdd, Nat.reduceMul, Nat.reduceSub, Nat.reduceDiv, Nat.reduceLT, Nat.reduceLeDiff, Nat.reduceBEq, Nat.reduceBNe, List.reduceReplicate, ty0, ty1, ty3, ty22, ty26, ty71])
      refine ⟨fun h => hX ?_, fun h => hY ?_⟩
      · clear hX hY X Y
        (repeat (first | (refine aw_seq ?_; intro K hK) | refine aw_block ?_ | refine aw_region ?_ | (refine lst_x rfl rfl ?_; intro K1 hK1; simp only [undef, evE, dSlice, dFunc, evT, reduceIte, reduceCtorEq, Nat.reduceEqDiff, Nat.reduceAdd, Nat.reduceMul, Nat.reduceSub, Nat.reduceDiv, Nat.reduceLT, Nat.reduceLeDiff, Nat.reduceBEq, Nat.reduceBNe, List.reduceReplicate, ty0, ty1, ty3, ty22, ty26, ty71]; first | (refine hK1 _ ?_; clear hK1 K1) | (refine ⟨by first | omega | (simp; done) | (simp; omega), hK1 _ ?_⟩; clear hK1 K1)) | ((first | refine lst_nil ?_ | refine aw_skip ?_); refine hK _ ?_; clear hK K)))
        ((try refine lst_nil ?_); (try refine aw_skip ?_); try simp only [ThenA])
        refine hK _ (k + 1) ⟨by omega, fun i y hi hy => ?_⟩ (by omega) ?_
        · by_cases e : i = k
          · subst e; rw [List.getElem?_eq_getElem hlt] at hy; cases hy; simpa using h
          · exact he i y (by omega) hy
        · (refine le_tm ?_; simp only [LeTm, evE, dSlice, dFunc, evT, reduceIte, reduceCtorEq, Nat.reduceEqDiff, Nat.reduceAdd, Nat.reduceMul, Nat.reduceSub, Nat.reduceDiv, Nat.reduceLT, Nat.reduceLeDiff, Nat.reduceBEq, Nat.reduceBNe, List.reduceReplicate, ty0, ty1, ty3, ty22, ty26, ty71]; try simp)
      · have hle : x ≤ xs[k] := by simpa using h
        clear hX hY X Y
        (refine aw_exit ?_; simp only [ThenA, InBl, reduceIte, Nat.reduceEqDiff]; (first | refine hK _ ?_ | (clear hK K; refine hK _ ?_) | (clear hK K; clear hK K; refine hK _ ?_) | (clear hK K; clear hK K; clear hK K; refine hK _ ?_) | (clear hK K; clear hK K; clear hK K; clear hK K; refine hK _ ?_) | (clear hK K; clear hK K; clear hK K; clear hK K; clear hK K; refine hK _ ?_)); clear hK K)
        (repeat (first | (refine aw_seq ?_; intro K hK) | refine aw_block ?_ | refine aw_region ?_ | (refine lst_x rfl rfl ?_; intro K1 hK1; simp only [undef, evE, dSlice, dFunc, evT, reduceIte, reduceCtorEq, Nat.reduceEqDiff, Nat.reduceAdd, Nat.reduceMul, Nat.reduceSub, Nat.reduceDiv, Nat.reduceLT, Nat.reduceLeDiff, Nat.reduceBEq, Nat.reduceBNe, List.reduceReplicate, ty0, ty1, ty3, ty22, ty26, ty71, hl1, cInts_get (List.getElem?_eq_getElem hlt)]; first | (refine hK1 _ ?_; clear hK1 K1) | (refine ⟨by first | omega | (simp; done) | (simp; omega), hK1 _ ?_⟩; clear hK1 K1)) | ((first | refine lst_nil ?_ | refine aw_skip ?_); refine hK _ ?_; clear hK K)))
        (refine aw_cnd ?_; intro X Y hX hY; simp only [evE, dSlice, dFunc, evT, reduceIte, reduceCtorEq, Nat.reduceEqDiff, Nat.reduceAdd, Nat.reduceMul, Nat.reduceSub, Nat.reduceDiv, Nat.reduceLT, Nat.reduceLeDiff, Nat.reduceBEq, Nat.reduceBNe, List.reduceReplicate, ty0, ty1, ty3, ty22, ty26, ty71])
        refine ⟨fun h => hX ?_, fun h => hY ?_⟩
        · clear hX hY X Y
          (repeat (first | (refine aw_seq ?_; intro K hK) | refine aw_block ?_ | refine aw_region ?_ | (refine lst_x rfl rfl ?_; intro K1 hK1; simp only [undef, evE, dSlice, dFunc, evT, reduceIte, reduceCtorEq, Nat.reduceEqDiff, Nat.reduceAdd, Nat.reduceMul, Nat.reduceSub, Nat.reduceDiv, Nat.reduceLT, Nat.reduceLeDiff, Nat.reduceBEq, Nat.reduceBNe, List.reduceReplicate, ty0, ty1, ty3, ty22, ty26, ty71]; first | (refine hK1 _ ?_; clear hK1 K1) | (refine ⟨by first | omega | (simp; done) | (simp; omega), hK1 _ ?_⟩; clear hK1 K1)) | ((first | refine lst_nil ?_ | refine aw_skip ?_); refine hK _ ?_; clear hK K)))
          ((try refine aw_ret ?_); (try refine lst_nil ?_); (try simp only [ThenA, InBl]); refine ret_mk (by first | exact .inl rfl | exact .inr rfl) rfl ?_; simp only [rtn, resA, resL, resV, Tryz.results63, evE, dSlice, dFunc, evT, reduceIte, reduceCtorEq, Nat.reduceEqDiff, Nat.reduceAdd, Nat.reduceMul, Nat.reduceSub, Nat.reduceDiv, Nat.reduceLT, Nat.reduceLeDiff, Nat.reduceBEq, Nat.reduceBNe, List.reduceReplicate, ty0, ty1, ty3, ty22, ty26, ty71])
          refine .inl (addI_has he (by rw [List.getElem?_eq_getElem hlt]; simpa using h))
        · have hne : x < xs[k] := by simp at h; omega
          clear hX hY X Y
          (repeat (first | (refine aw_seq ?_; intro K hK) | refine aw_block ?_ | refine aw_region ?_ | (refine lst_x rfl rfl ?_; intro K1 hK1; simp only [undef, evE, dSlice, dFunc, evT, reduceIte, reduceCtorEq, Nat.reduceEqDiff, Nat.reduceAdd, Nat.reduceMul, Nat.reduceSub, Nat.reduceDiv, Nat.reduceLT, Nat.reduceLeDiff, Nat.reduceBEq, Nat.reduceBNe, List.reduceReplicate, ty0, ty1, ty3, ty22, ty26, ty71, List.set_cons_zero, List.set_cons_succ, List.take_succ_cons, List.take_zero, List.drop_zero, List.length_take, List.length_drop, List.length_append, tInts_len, tInts_take, tInts_drop, tInts_c, cInts_len, cInts_one, cInts_snoc, cInts_app, cInts_take, cInts_drop, Nat.min_eq_left hk, List.take_of_length_le (Nat.le_of_eq hlen2), List.take_of_length_le (Nat.le_of_eq hlen3), List.take_of_length_le (Nat.le_of_eq hlen4)]; first | (refine hK1 _ ?_; clear hK1 K1) | (refine ⟨by first | omega | (simp; done) | (simp; omega), hK1 _ ?_⟩; clear hK1 K1)) | ((first | refine lst_nil ?_ | refine aw_skip ?_); refine hK _ ?_; clear hK K)))
          ((try refine aw_ret ?_); (try simp only [ThenA, InBl]); refine ret_le (le_pick [0, 5] rfl rfl) ?_; (simp only [ST.pick, AV.ren, A0.ren, C.ren, Ob.ren, idx, renIds, ofTr_ren, List.getD_cons_zero, List.getD_cons_succ, List.set_cons_zero, List.set_cons_succ, List.set_nil, List.take_nil, List.take_zero, List.map_append, evE, dSlice, dFunc, evT, reduceIte, reduceCtorEq, Nat.reduceEqDiff, Nat.reduceAdd, Nat.reduceMul, Nat.reduceSub, Nat.reduceDiv, Nat.reduceLT, Nat.reduceLeDiff, Nat.reduceBEq, Nat.reduceBNe, List.reduceReplicate, ty0, ty1, ty3, ty22, ty26, ty71]); ((try refine aw_ret ?_); (try refine lst_nil ?_); (try simp only [ThenA, InBl]); refine ret_mk (by first | exact .inl rfl | exact .inr rfl) rfl ?_; simp only [rtn, resA, resL, resV, Tryz.results63, evE, dSlice, dFunc, evT, reduceIte, reduceCtorEq, Nat.reduceEqDiff, Nat.reduceAdd, Nat.reduceMul, Nat.reduceSub, Nat.reduceDiv, Nat.reduceLT, Nat.reduceLeDiff, Nat.reduceBEq, Nat.reduceBNe, List.reduceReplicate, ty0, ty1, ty3, ty22, ty26, ty71, true_and, and_true, cInts_ren]))
          refine .inr ?_
          rw [fin (fun z hz => by rw [List.getElem?_eq_getElem hlt] at hz; cases hz; exact hne), hlen]
          exact ⟨rfl, rfl⟩
    · have hl1 : decide ((k : Int) < (xs.length : Int)) = false := by simpa using hlt
      have hke : k = xs.length := by omega
      (repeat (first | (refine aw_seq ?_; intro K hK) | refine aw_block ?_ | refine aw_region ?_ | (refine lst_x rfl rfl ?_; intro K1 hK1; simp only [undef, evE, dSlice, dFunc, evT, reduceIte, reduceCtorEq, Nat.reduceEqDiff, Nat.reduceAdd, Nat.reduceMul, Nat.reduceSub, Nat.reduceDiv, Nat.reduceLT, Nat.reduceLeDiff, Nat.reduceBEq, Nat.reduceBNe, List.reduceReplicate, ty0, ty1, ty3, ty22, ty26, ty71, hl1]; first | (refine hK1 _ ?_; clear hK1 K1) | (refine ⟨by first | omega | (simp; done) | (simp; omega), hK1 _ ?_⟩; clear hK1 K1)) | ((first | refine lst_nil ?_ | refine aw_skip ?_); refine hK _ ?_; clear hK K)))
      (refine aw_cnd ?_; intro X Y hX hY; simp only [evE, dSlice, dFunc, evT, reduceIte, reduceCtorEq, Nat.reduceEqDiff, Nat.reduceAdd, Nat.reduceMul, Nat.reduceSub, Nat.reduceDiv, Nat.reduceLT, Nat.reduceLeDiff, Nat.reduceBEq, Nat.reduceBNe, List.reduceReplicate, ty0, ty1, ty3, ty22, ty26, ty71])
      refine hY ?_
      clear hX hY X Y
      (refine aw_exit ?_; simp only [ThenA, InBl, reduceIte, Nat.reduceEqDiff]; (first | refine hK _ ?_ | (clear hK K; refine hK _ ?_) | (clear hK K; clear hK K; refine hK _ ?_) | (clear hK K; clear hK K; clear hK K; refine hK _ ?_) | (clear hK K; clear hK K; clear hK K; clear hK K; refine hK _ ?_) | (clear hK K; clear hK K; clear hK K; clear hK K; clear hK K; refine hK _ ?_)); clear hK K)
      (repeat (first | (refine aw_seq ?_; intro K hK) | refine aw_block ?_ | refine aw_region ?_ | (refine lst_x rfl rfl ?_; intro K1 hK1; simp only [undef, evE, dSlice, dFunc, evT, reduceIte, reduceCtorEq, Nat.reduceEqDiff, Nat.reduceAdd, Nat.reduceMul, Nat.reduceSub, Nat.reduceDiv, Nat.reduceLT, Nat.reduceLeDiff, Nat.reduceBEq, Nat.reduceBNe, List.reduceReplicate, ty0, ty1, ty3, ty22, ty26, ty71, hl1]; first | (refine hK1 _ ?_; clear hK1 K1) | (refine ⟨by first | omega | (simp; done) | (simp; omega), hK1 _ ?_⟩; clear hK1 K1)) | ((first | refine lst_nil ?_ | refine aw_skip ?_); refine hK _ ?_; clear hK K)))
      (refine aw_cnd ?_; intro X Y hX hY; simp only [evE, dSlice, dFunc, evT, reduceIte, reduceCtorEq, Nat.reduceEqDiff, Nat.reduceAdd, Nat.reduceMul, Nat.reduceSub, Nat.reduceDiv, Nat.reduceLT, Nat.reduceLeDiff, Nat.reduceBEq, Nat.reduceBNe, List.reduceReplicate, ty0, ty1, ty3, ty22, ty26, ty71])
      refine hY ?_
      clear hX hY X Y
      (repeat (first | (refine aw_seq ?_; intro K hK) | refine aw_block ?_ | refine aw_region ?_ | (refine lst_x rfl rfl ?_; intro K1 hK1; simp only [undef, evE, dSlice, dFunc, evT, reduceIte, reduceCtorEq, Nat.reduceEqDiff, Nat.reduceAdd, Nat.reduceMul, Nat.reduceSub, Nat.reduceDiv, Nat.reduceLT, Nat.reduceLeDiff, Nat.reduceBEq, Nat.reduceBNe, List.reduceReplicate, ty0, ty1, ty3, ty22, ty26, ty71, List.set_cons_zero, List.set_cons_succ, List.take_succ_cons, List.take_zero, List.drop_zero, List.length_take, List.length_drop, List.length_append, tInts_len, tInts_take, tInts_drop, tInts_c, cInts_len, cInts_one, cInts_snoc, cInts_app, cInts_take, cInts_drop, Nat.min_eq_left hk, List.take_of_length_le (Nat.le_of_eq hlen2), List.take_of_length_le (Nat.le_of_eq hlen3), List.take_of_length_le (Nat.le_of_eq hlen4)]; first | (refine hK1 _ ?_; clear hK1 K1) | (refine ⟨by first | omega | (simp; done) | (simp; omega), hK1 _ ?_⟩; clear hK1 K1)) | ((first | refine lst_nil ?_ | refine aw_skip ?_); refine hK _ ?_; clear hK K)))
      refine lst_cons rfl ?_; intro K1 hK1
      refine stp_cut0 (z := 1) (id := 0) (n := xs.length) (kk := .i64) rfl rfl (by simp only [evE, dSlice, dFunc, evT, reduceIte, reduceCtorEq, Nat.reduceEqDiff, Nat.reduceAdd, Nat.reduceMul, Nat.reduceSub, Nat.reduceDiv, Nat.reduceLT, Nat.reduceLeDiff, Nat.reduceBEq, Nat.reduceBNe, List.reduceReplicate, ty0, ty1, ty3, ty22, ty26, ty71]) (by simp only [evE, dSlice, dFunc, evT, reduceIte, reduceCtorEq, Nat.reduceEqDiff, Nat.reduceAdd, Nat.reduceMul, Nat.reduceSub, Nat.reduceDiv, Nat.reduceLT, Nat.reduceLeDiff, Nat.reduceBEq, Nat.reduceBNe, List.reduceReplicate, ty0, ty1, ty3, ty22, ty26, ty71]) (by simp only [evE, dSlice, dFunc, evT, reduceIte, reduceCtorEq, Nat.reduceEqDiff, Nat.reduceAdd, Nat.reduceMul, Nat.reduceSub, Nat.reduceDiv, Nat.reduceLT, Nat.reduceLeDiff, Nat.reduceBEq, Nat.reduceBNe, List.reduceReplicate, ty0, ty1, ty3, ty22, ty26, ty71, hke]) ?_
      simp only [evE, dSlice, dFunc, evT, reduceIte, reduceCtorEq, Nat.reduceEqDiff, Nat.reduceAdd, Nat.reduceMul, Nat.reduceSub, Nat.reduceDiv, Nat.reduceLT, Nat.reduceLeDiff, Nat.reduceBEq, Nat.reduceBNe, List.reduceReplicate, ty0, ty1, ty3, ty22, ty26, ty71]
      refine hK1 _ ?_; clear hK1 K1
      (repeat (first | (refine aw_seq ?_; intro K hK) | refine aw_block ?_ | refine aw_region ?_ | (refine lst_x rfl rfl ?_; intro K1 hK1; simp only [undef, evE, dSlice, dFunc, evT, reduceIte, reduceCtorEq, Nat.reduceEqDiff, Nat.reduceAdd, Nat.reduceMul, Nat.reduceSub, Nat.reduceDiv, Nat.reduceLT, Nat.reduceLeDiff, Nat.reduceBEq, Nat.reduceBNe, List.reduceReplicate, ty0, ty1, ty3, ty22, ty26, ty71, List.set_cons_zero, List.set_cons_succ, List.take_succ_cons, List.take_zero, List.drop_zero, List.length_take, List.length_drop, List.length_append, tInts_len, tInts_take, tInts_drop, tInts_c, cInts_len, cInts_one, cInts_snoc, cInts_app, cInts_take, cInts_drop, Nat.min_eq_left hk, List.take_of_length_le (Nat.le_of_eq hlen2), List.take_of_length_le (Nat.le_of_eq hlen3), List.append_nil]; first | (refine hK1 _ ?_; clear hK1 K1) | (refine ⟨by first | omega | (simp; done) | (simp; omega), hK1 _ ?_⟩; clear hK1 K1)) | ((first | refine lst_nil ?_ | refine aw_skip ?_); refine hK _ ?_; clear hK K)))
      have e : xs.drop k = [] := List.drop_eq_nil_of_le (by omega)
      have fin := fin (fun z hz => by rw [List.getElem?_eq_none (by omega)] at hz; cases hz)
      rw [e, List.append_nil] at fin
      ((try refine aw_ret ?_); (try simp only [ThenA, InBl]); refine ret_le (le_pick [0, 5] rfl rfl) ?_; (simp only [ST.pick, AV.ren, A0.ren, C.ren, Ob.ren, idx, renIds, ofTr_ren, List.getD_cons_zero, List.getD_cons_succ, List.set_cons_zero, List.set_cons_succ, List.set_nil, List.take_nil, List.take_zero, List.map_append, evE, dSlice, dFunc, evT, reduceIte, reduceCtorEq, Nat.reduceEqDiff, Nat.reduceAdd, Nat.reduceMul, Nat.reduceSub, Nat.reduceDiv, Nat.reduceLT, Nat.reduceLeDiff, Nat.reduceBEq, Nat.reduceBNe, List.reduceReplicate, ty0, ty1, ty3, ty22, ty26, ty71]); ((try refine aw_ret ?_); (try refine lst_nil ?_); (try simp only [ThenA, InBl]); refine ret_mk (by first | exact .inl rfl | exact .inr rfl) rfl ?_; simp only [rtn, resA, resL, resV, Tryz.results63, evE, dSlice, dFunc, evT, reduceIte, reduceCtorEq, Nat.reduceEqDiff, Nat.reduceAdd, Nat.reduceMul, Nat.reduceSub, Nat.reduceDiv, Nat.reduceLT, Nat.reduceLeDiff, Nat.reduceBEq, Nat.reduceBNe, List.reduceReplicate, ty0, ty1, ty3, ty22, ty26, ty71, true_and, and_true, cInts_ren]))
      refine .inr ?_
      rw [fin, hlen3]
      exact ⟨rfl, rfl⟩
end Go.Proofs.YtfjfllpcflddmaaGreat
