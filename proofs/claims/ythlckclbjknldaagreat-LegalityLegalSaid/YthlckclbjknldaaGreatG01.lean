/- The tape, by the machine: New, Next; Add. -/
import Derived.Test.YthlckclbjknldaaGreatME
import Derived.Test.YthlckclbjknldaaGreatMD
import Derived.Test.YthlckclbjknldaaGreatMF
import Derived.Test.YthlckclbjknldaaGreatTs1
namespace Go.Proofs.YthlckclbjknldaaGreat
set_option linter.unusedVariables false
set_option linter.unusedSimpArgs false
open Go.RowKit
set_option maxRecDepth 100000

theorem tmod_b (v n : Int) (hn : 1 ≤ n) : -n < v.tmod n ∧ v.tmod n < n := by
  by_cases h : 0 ≤ v
  · rw [Int.tmod_eq_emod_of_nonneg h]
    have h1 := Int.emod_nonneg v (show n ≠ 0 by omega)
    exact ⟨by omega, Int.emod_lt_of_pos _ (by omega)⟩
  · have h1 : v.tmod n = -((-v).tmod n) := by rw [Int.neg_tmod]; omega
    have h2 := Int.emod_nonneg (-v) (show n ≠ 0 by omega)
    have h3 := Int.emod_lt_of_pos (-v) (show 0 < n by omega)
    rw [h1, Int.tmod_eq_emod_of_nonneg (show 0 ≤ -v by omega)]
    omega

/-- a tape: its numbers, and how many have been taken -/
def tape (T : List Int) (a : Nat) : Ob := .r ⟨51, 2, false, [.t 1 (tInts T), .v (.int .i64 a)]⟩
/-- what a tape must be -/
structure TpOk (T : List Int) : Prop where
  len : T.length ≤ 9223372036854775807
  in_ : ∀ x ∈ T, in64 x
theorem new_fc (T : List Int) : FC Tryz.prog 8 [aInts T] [] (fun r o => r = .a (.c (.p 0 0)) ∧ o = [tape T 0]) := by
  refine fc_intro Tryz.func8 rfl (by rw [Tryz.ntmps8]; simp) ?_
  rw [Tryz.ntmps8]
  simp only [enum, aInts]
  (repeat (first | (refine aw_seq ?_; intro K hK) | refine aw_block ?_ | refine aw_region ?_ | (refine lst_x rfl rfl ?_; intro K1 hK1; simp only [go_sem, List.set_cons_zero, List.set_cons_succ]; (first | refine hK1 _ ?_ | refine andk (hK1 _ ?_)); clear hK1 K1) | ((first | refine lst_nil ?_ | refine aw_skip ?_); refine hK _ ?_; clear hK K)))
  ((try refine aw_ret ?_); (try refine lst_nil ?_); (try simp only [ThenA, InBl]); refine ret_mk (by first | exact .inl rfl | exact .inr rfl) rfl ?_; simp only [rtn, resA, resL, resV, Tryz.results8, go_sem])
  rfl

theorem next_fc (T : List Int) (a : Nat) (n : Int) (hT : TpOk T) (ha : a ≤ 1000000000) (hn : n ≤ 1000000000) :
    FC Tryz.prog 19 [.a (.c (.p 0 0)), .i n] [tape T a] (fun r o => o = [tape T (a + 1)] ∧ ∃ v : Nat, r = .i v ∧ ((v : Int) < n ∨ v = 0)) := by
  refine fc_intro Tryz.func19 rfl (by rw [Tryz.ntmps19]; simp) ?_
  rw [Tryz.ntmps19]
  simp only [enum, tape]
  have hl := hT.len
  (repeat (first | (refine aw_seq ?_; intro K hK) | refine aw_block ?_ | refine aw_region ?_ | (refine lst_x rfl rfl ?_; intro K1 hK1; simp only [go_sem]; (first | refine hK1 _ ?_ | refine andk (hK1 _ ?_)); clear hK1 K1) | ((first | refine lst_nil ?_ | refine aw_skip ?_); refine hK _ ?_; clear hK K)))
  (refine aw_regionU 9 [(0, 0), (1, 0), (2, 0), (3, 1), (4, 0), (5, 0), (6, 0), (7, 1), (8, 0), (9, 2)] (by kernel_rfl) (by kernel_rfl) (by intro c st h; simp [ThenA, InBl, Ret] at h) ?_)
  (repeat (first | ((first | refine u_0x rfl rfl rfl ?_ | refine u_1x rfl rfl rfl ?_); intro K1 hK1; simp only [go_sem, tInts_len]; (first | refine hK1 _ ?_ | refine andk (hK1 _ ?_)); clear hK1 K1) | (refine u_2x rfl rfl rfl rfl ?_; intro K1 hK1; simp only [go_sem, tInts_len]; (first | refine hK1 _ ?_ | refine andk (hK1 _ ?_)); clear hK1 K1) | (refine u_nil ?_; refine hK _ ?_; clear hK K)))
  (refine aw_cnd ?_; intro X Y hX hY; simp only [go_sem])
  refine ⟨fun h => hX ?_, fun h => hY ?_⟩
  · have hlt : a < T.length := by simpa using h
    have hv := hT.in_ _ (List.getElem_mem hlt)
    simp only [in64] at hv
    clear hX hY X Y h
    (refine aw_regionU 10 [(0, 0), (1, 0), (2, 0), (3, 1), (4, 0), (5, 0), (6, 0), (7, 1), (8, 0), (9, 1), (10, 2)] (by kernel_rfl) (by kernel_rfl) (by intro c st h; simp [ThenA, InBl, Ret] at h) ?_)
    (repeat (first | ((first | refine u_0x rfl rfl rfl ?_ | refine u_1x rfl rfl rfl ?_); intro K1 hK1; simp only [go_sem, tInts_len, tInts_get (List.getElem?_eq_getElem hlt)]; (first | refine hK1 _ ?_ | refine andk (hK1 _ ?_)); clear hK1 K1) | (refine u_2x rfl rfl rfl rfl ?_; intro K1 hK1; simp only [go_sem, tInts_len, tInts_get (List.getElem?_eq_getElem hlt)]; (first | refine hK1 _ ?_ | refine andk (hK1 _ ?_)); clear hK1 K1) | (refine u_nil ?_; refine hK _ ?_; clear hK K)))
    (repeat (first | (refine aw_seq ?_; intro K hK) | refine aw_block ?_ | refine aw_region ?_ | (refine lst_x rfl rfl ?_; intro K1 hK1; simp only [go_sem, List.set_cons_zero, List.set_cons_succ]; (first | refine hK1 _ ?_ | refine andk (hK1 _ ?_)); clear hK1 K1) | ((first | refine lst_nil ?_ | refine aw_skip ?_); refine hK _ ?_; clear hK K)))
    (refine aw_cnd ?_; intro X Y hX hY; simp only [go_sem])
    refine ⟨fun h => hX ?_, fun h => hY ?_⟩
    · clear hX hY X Y
      (repeat (first | (refine aw_seq ?_; intro K hK) | refine aw_block ?_ | refine aw_region ?_ | (refine lst_x rfl rfl ?_; intro K1 hK1; simp only [go_sem]; (first | refine hK1 _ ?_ | refine andk (hK1 _ ?_)); clear hK1 K1) | ((first | refine lst_nil ?_ | refine aw_skip ?_); refine hK _ ?_; clear hK K)))
      ((try refine aw_ret ?_); (try refine lst_nil ?_); (try simp only [ThenA, InBl]); refine ret_mk (by first | exact .inl rfl | exact .inr rfl) rfl ?_; simp only [rtn, resA, resL, resV, Tryz.results19, go_sem])
      exact ⟨rfl, 0, rfl, .inr rfl⟩
    · have hn1 : 1 ≤ n := by simp at h; omega
      have hb := tmod_b (T[a]) n hn1
      clear hX hY X Y
      (repeat (first | (refine aw_seq ?_; intro K hK) | refine aw_block ?_ | refine aw_region ?_ | (refine lst_x rfl rfl ?_; intro K1 hK1; simp only [go_sem]; (first | refine hK1 _ ?_ | refine andk (hK1 _ ?_)); clear hK1 K1) | ((first | refine lst_nil ?_ | refine aw_skip ?_); refine hK _ ?_; clear hK K)))
      (refine aw_cnd ?_; intro X Y hX hY; simp only [go_sem])
      refine ⟨fun h => hX ?_, fun h => hY ?_⟩
      · clear hX hY X Y
        have h1 : Int.tmod (T[a]) n < 0 := by simpa using h
        (repeat (first | (refine aw_seq ?_; intro K hK) | refine aw_block ?_ | refine aw_region ?_ | (refine lst_x rfl rfl ?_; intro K1 hK1; simp only [go_sem]; (first | refine hK1 _ ?_ | refine andk (hK1 _ ?_)); clear hK1 K1) | ((first | refine lst_nil ?_ | refine aw_skip ?_); refine hK _ ?_; clear hK K)))
        ((try refine aw_ret ?_); (try refine lst_nil ?_); (try simp only [ThenA, InBl]); refine ret_mk (by first | exact .inl rfl | exact .inr rfl) rfl ?_; simp only [rtn, resA, resL, resV, Tryz.results19, go_sem])
        exact ⟨rfl, (Int.tmod (T[a]) n + n).toNat, by rw [Int.toNat_of_nonneg (by omega)], .inl (by omega)⟩
      · clear hX hY X Y
        have h1 : 0 ≤ Int.tmod (T[a]) n := by simpa using h
        (repeat (first | (refine aw_seq ?_; intro K hK) | refine aw_block ?_ | refine aw_region ?_ | (refine lst_x rfl rfl ?_; intro K1 hK1; simp only [go_sem]; (first | refine hK1 _ ?_ | refine andk (hK1 _ ?_)); clear hK1 K1) | ((first | refine lst_nil ?_ | refine aw_skip ?_); refine hK _ ?_; clear hK K)))
        ((try refine aw_ret ?_); (try refine lst_nil ?_); (try simp only [ThenA, InBl]); refine ret_mk (by first | exact .inl rfl | exact .inr rfl) rfl ?_; simp only [rtn, resA, resL, resV, Tryz.results19, go_sem])
        exact ⟨rfl, (Int.tmod (T[a]) n).toNat, by rw [Int.toNat_of_nonneg (by omega)], .inl (by omega)⟩
  · clear hX hY X Y h
    (repeat (first | (refine aw_seq ?_; intro K hK) | refine aw_block ?_ | refine aw_region ?_ | (refine lst_x rfl rfl ?_; intro K1 hK1; simp only [go_sem, List.set_cons_zero, List.set_cons_succ]; (first | refine hK1 _ ?_ | refine andk (hK1 _ ?_)); clear hK1 K1) | ((first | refine lst_nil ?_ | refine aw_skip ?_); refine hK _ ?_; clear hK K)))
    (refine aw_cnd ?_; intro X Y hX hY; simp only [go_sem])
    refine ⟨fun h => hX ?_, fun h => hY ?_⟩
    · clear hX hY X Y
      (repeat (first | (refine aw_seq ?_; intro K hK) | refine aw_block ?_ | refine aw_region ?_ | (refine lst_x rfl rfl ?_; intro K1 hK1; simp only [go_sem]; (first | refine hK1 _ ?_ | refine andk (hK1 _ ?_)); clear hK1 K1) | ((first | refine lst_nil ?_ | refine aw_skip ?_); refine hK _ ?_; clear hK K)))
      ((try refine aw_ret ?_); (try refine lst_nil ?_); (try simp only [ThenA, InBl]); refine ret_mk (by first | exact .inl rfl | exact .inr rfl) rfl ?_; simp only [rtn, resA, resL, resV, Tryz.results19, go_sem])
      exact ⟨rfl, 0, rfl, .inr rfl⟩
    · have hn1 : 1 ≤ n := by simp at h; omega
      have hb := tmod_b (5 * (a : Int) + 3) n hn1
      clear hX hY X Y
      (repeat (first | (refine aw_seq ?_; intro K hK) | refine aw_block ?_ | refine aw_region ?_ | (refine lst_x rfl rfl ?_; intro K1 hK1; simp only [go_sem]; (first | refine hK1 _ ?_ | refine andk (hK1 _ ?_)); clear hK1 K1) | ((first | refine lst_nil ?_ | refine aw_skip ?_); refine hK _ ?_; clear hK K)))
      (refine aw_cnd ?_; intro X Y hX hY; simp only [go_sem])
      refine ⟨fun h => hX ?_, fun h => hY ?_⟩
      · clear hX hY X Y
        have h1 : Int.tmod (5 * (a : Int) + 3) n < 0 := by simpa using h
        (repeat (first | (refine aw_seq ?_; intro K hK) | refine aw_block ?_ | refine aw_region ?_ | (refine lst_x rfl rfl ?_; intro K1 hK1; simp only [go_sem]; (first | refine hK1 _ ?_ | refine andk (hK1 _ ?_)); clear hK1 K1) | ((first | refine lst_nil ?_ | refine aw_skip ?_); refine hK _ ?_; clear hK K)))
        ((try refine aw_ret ?_); (try refine lst_nil ?_); (try simp only [ThenA, InBl]); refine ret_mk (by first | exact .inl rfl | exact .inr rfl) rfl ?_; simp only [rtn, resA, resL, resV, Tryz.results19, go_sem])
        exact ⟨rfl, (Int.tmod (5 * (a : Int) + 3) n + n).toNat, by rw [Int.toNat_of_nonneg (by omega)], .inl (by omega)⟩
      · clear hX hY X Y
        have h1 : 0 ≤ Int.tmod (5 * (a : Int) + 3) n := by simpa using h
        (repeat (first | (refine aw_seq ?_; intro K hK) | refine aw_block ?_ | refine aw_region ?_ | (refine lst_x rfl rfl ?_; intro K1 hK1; simp only [go_sem]; (first | refine hK1 _ ?_ | refine andk (hK1 _ ?_)); clear hK1 K1) | ((first | refine lst_nil ?_ | refine aw_skip ?_); refine hK _ ?_; clear hK K)))
        ((try refine aw_ret ?_); (try refine lst_nil ?_); (try simp only [ThenA, InBl]); refine ret_mk (by first | exact .inl rfl | exact .inr rfl) rfl ?_; simp only [rtn, resA, resL, resV, Tryz.results19, go_sem])
        exact ⟨rfl, (Int.tmod (5 * (a : Int) + 3) n).toNat, by rw [Int.toNat_of_nonneg (by omega)], .inl (by omega)⟩

/-! rows of numbers -/
def cInts (xs : List Int) : List C := xs.map fun x => C.v (.int .i64 x)
theorem cInts_len (xs : List Int) : (cInts xs).length = xs.length := by simp [cInts]
theorem cInts_take (xs : List Int) (n : Nat) : (cInts xs).take n = cInts (xs.take n) := by simp [cInts, List.map_take]
theorem cInts_drop (xs : List Int) (n : Nat) : (cInts xs).drop n = cInts (xs.drop n) := by simp [cInts, List.map_drop]
theorem cInts_app (xs ys : List Int) : cInts xs ++ cInts ys = cInts (xs ++ ys) := by simp [cInts]
theorem cInts_one (xs : List Int) : (cInts xs).all C.one = true := by simp [cInts, C.one]
theorem cInts_snoc (xs : List Int) (x : Int) : cInts xs ++ [.v (.int .i64 x)] = cInts (xs ++ [x]) := by simp [cInts]
theorem cInts_ren (f : List Nat) (L : List Int) : (cInts L).map (C.ren f) = cInts L := by simp [cInts, C.ren, Function.comp_def]
theorem cInts_up (f : Nat → Nat) (L : List Int) : (cInts L).map (C.up f) = cInts L := by simp [cInts, C.up, Function.comp_def]
theorem tInts_take (xs : List Int) (n : Nat) : (tInts xs).take n = tInts (xs.take n) := by simp [tInts, List.map_take]
theorem tInts_drop (xs : List Int) (n : Nat) : (tInts xs).drop n = tInts (xs.drop n) := by simp [tInts, List.map_drop]
theorem tInts_c (xs : List Int) : (tInts xs).map C.ofTr = cInts xs := tInts_of xs
theorem fz_c (L : List Int) : Fz (cInts L) (tInts L) := by unfold cInts tInts; exact Fz.map fun x _ => .inl rfl
end Go.Proofs.YthlckclbjknldaaGreat
