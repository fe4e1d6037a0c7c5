/- Priority orders: the program's first, contains, above. -/
import Derived.Test.YthlckclbjknldaaGreatG21
import Derived.Test.YthlckclbjknldaaGreatMcu
namespace Go.Proofs.YthlckclbjknldaaGreat
set_option linter.unusedVariables false
set_option linter.unusedSimpArgs false
open Go.RowKit
set_option maxRecDepth 100000
attribute [local go_sem] List.set_cons_zero List.set_cons_succ List.map_cons List.map_nil List.take_succ_cons List.take_zero List.drop_zero List.drop_succ_cons C.pl C.one List.all_cons List.all_nil Bool.and_true

theorem pvis_fc (x : Int) : FC Tryz.prog 115 [.i x] [] (fun r o => o = [] ∧ r = .b (chanB x)) := by
  refine fc_intro Tryz.func115 rfl (by rw [Tryz.ntmps115]; simp) ?_
  rw [Tryz.ntmps115]
  simp only [enum]
  by_cases h1 : x ≥ 2
  · have e1 : decide (x ≥ 2) = true := by simpa using h1
    (repeat (first | (refine aw_seq ?_; intro K hK) | refine aw_block ?_ | refine aw_region ?_ | (refine lst_x rfl rfl ?_; intro K1 hK1; simp only [go_sem, e1]; (first | refine hK1 _ ?_ | refine andk (hK1 _ ?_)); clear hK1 K1) | ((first | refine lst_nil ?_ | refine aw_skip ?_); refine hK _ ?_; clear hK K)))
    ((try refine aw_ret ?_); (try simp only [ThenA, InBl]); refine ret_le (le_pick [] rfl rfl) ?_; (try simp only [List.set_nil, List.take_nil, List.take_zero, List.map_append, go_sem]); ((try refine aw_ret ?_); (try refine lst_nil ?_); (try simp only [ThenA, InBl]); refine ret_mk (by first | exact .inl rfl | exact .inr rfl) rfl ?_; simp only [rtn, resA, resL, resV, Tryz.results115, go_sem, true_and, and_true, chanB, e1, Bool.true_and]))
  · have e1 : decide (x ≥ 2) = false := by simpa using h1
    (repeat (first | (refine aw_seq ?_; intro K hK) | refine aw_block ?_ | refine aw_region ?_ | (refine lst_x rfl rfl ?_; intro K1 hK1; simp only [go_sem, e1]; (first | refine hK1 _ ?_ | refine andk (hK1 _ ?_)); clear hK1 K1) | ((first | refine lst_nil ?_ | refine aw_skip ?_); refine hK _ ?_; clear hK K)))
    ((try refine aw_ret ?_); (try simp only [ThenA, InBl]); refine ret_le (le_pick [] rfl rfl) ?_; (try simp only [List.set_nil, List.take_nil, List.take_zero, List.map_append, go_sem]); ((try refine aw_ret ?_); (try refine lst_nil ?_); (try simp only [ThenA, InBl]); refine ret_mk (by first | exact .inl rfl | exact .inr rfl) rfl ?_; simp only [rtn, resA, resL, resV, Tryz.results115, go_sem, true_and, and_true, chanB, e1, Bool.false_and]))
/-- n pairs of o come before x -/
def FstP (o : List Ar) (x : Ar) (n : Nat) : Prop := n ≤ o.length ∧ (∀ i a, i < n → o[i]? = some a → ltA a x = true) ∧ ∀ i a, n ≤ i → o[i]? = some a → ltA a x = false
theorem FstP.mem {o : List Ar} {x : Ar} {n : Nat} (h : FstP o x n) (hs : SortA o) : x ∈ o ↔ o[n]? = some x := by
  constructor
  · intro hm
    obtain ⟨i, hi⟩ := List.mem_iff_getElem?.1 hm
    rcases Nat.lt_trichotomy i n with h1 | h1 | h1
    · have := h.2.1 i x h1 hi
      rw [ltA_irr] at this; cases this
    · rw [← h1]; exact hi
    · have hl := (List.getElem?_eq_some_iff.1 hi).1
      have hg := List.getElem?_eq_getElem (show n < o.length by omega)
      have h2 := hs.at h1 hg hi
      have h3 := h.2.2 n _ (Nat.le_refl _) hg
      rw [h2] at h3; cases h3
  · exact fun hm => List.mem_of_getElem? hm
theorem first_fc (o : List Ar) (x : Ar) (hn : o.length ≤ 100000000) (hs : SortA o) : FC Tryz.prog 142 [aArcs o, .a (.g [.v (.int .i64 x.1), .v (.int .i64 x.2)])] [] (fun r q => q = [] ∧ ∃ n : Nat, r = .i n ∧ FstP o x n) := by
  refine fc_intro Tryz.func142 rfl (by rw [Tryz.ntmps142]; simp) ?_
  rw [Tryz.ntmps142]
  simp only [enum, aArcs]
  (repeat (first | (refine aw_seq ?_; intro K hK) | refine aw_block ?_ | refine aw_region ?_ | (refine lst_x rfl rfl ?_; intro K1 hK1; simp only [go_sem, tArcs_len, half2]; (first | refine hK1 _ ?_ | refine andk (hK1 _ ?_)); clear hK1 K1) | ((first | refine lst_nil ?_ | refine aw_skip ?_); refine hK _ ?_; clear hK K)))
  refine aw_loop (fun p : Nat × Nat => { tm := [(0, .a (.c (.t 2 (tArcs o)))), (3, .a (.c (.p 0 0))), (5, .i p.1), (6, .i p.2)], hp := [.r ⟨67, 2, false, [.v (.int .i64 x.1), .v (.int .i64 x.2)]⟩], n := 30, pin := 0 })
    (fun p => p.1 ≤ p.2 ∧ p.2 ≤ o.length ∧ (∀ i a, i < p.1 → o[i]? = some a → ltA a x = true) ∧ ∀ i a, p.2 ≤ i → o[i]? = some a → ltA a x = false) (fun p => p.2 - p.1) (0, o.length) ?_ ?_ ?_
  · exact ⟨by simp, Nat.le_refl _, fun i _ hi => by simp at hi, fun i a hi ha => by have := (List.getElem?_eq_some_iff.1 ha).1; simp only at hi; omega⟩
  · (refine le_tm ?_; simp only [LeTm, go_sem, Int.natCast_zero]; try simp)
  · rintro ⟨lo, hi⟩ ⟨h1, h2, h3, h4⟩ K hK
    simp only at h1 h2 h3 h4 ⊢
    by_cases hlt : lo < hi
    · have hl1 : decide ((lo : Int) < (hi : Int)) = true := by simpa using hlt
      have em : ((lo : Int) + ((hi : Int) - (lo : Int)) / 2) = ((lo + (hi - lo) / 2 : Nat) : Int) := by omega
      have hm1 : lo ≤ lo + (hi - lo) / 2 := by omega
      have hm2 : lo + (hi - lo) / 2 < hi := by omega
      generalize lo + (hi - lo) / 2 = m at em hm1 hm2
      have hml : m < o.length := by omega
      have hg := List.getElem?_eq_getElem hml
      have hk2 := tArcs_at hml
      (repeat (first | (refine aw_seq ?_; intro K hK) | refine aw_block ?_ | refine aw_region ?_ | (refine lst_x rfl rfl ?_; intro K1 hK1; simp only [go_sem, hl1, em]; (first | refine hK1 _ ?_ | refine andk (hK1 _ ?_)); clear hK1 K1) | ((first | refine lst_nil ?_ | refine aw_skip ?_); refine hK _ ?_; clear hK K)))
      (refine aw_cnd ?_; intro X Y hX hY; simp only [go_sem])
      refine hX ?_
      clear hX hY X Y
      (repeat (first | (refine aw_seq ?_; intro K hK) | refine aw_block ?_ | refine aw_region ?_ | (refine lst_x rfl rfl ?_; intro K1 hK1; simp only [go_sem, em]; (first | refine hK1 _ ?_ | refine andk (hK1 _ ?_)); clear hK1 K1) | ((first | refine lst_nil ?_ | refine aw_skip ?_); refine hK _ ?_; clear hK K)))
      (refine aw_regionU 5 [(0, 0), (1, 0), (2, 0), (3, 1), (4, 1), (5, 2), (6, 0)] (by kernel_rfl) (by kernel_rfl) (by intro c st h; simp [ThenA, InBl, Ret] at h) ?_)
      (repeat (first | ((first | refine u_0x rfl rfl rfl ?_ | refine u_1x rfl rfl rfl ?_); intro K1 hK1; simp only [go_sem, tArcs_len, half2, hk2]; (first | refine hK1 _ ?_ | refine andk (hK1 _ ?_)); clear hK1 K1) | (refine u_2x rfl rfl rfl rfl ?_; intro K1 hK1; simp only [go_sem, tArcs_len, half2, hk2]; (first | refine hK1 _ ?_ | refine andk (hK1 _ ?_)); clear hK1 K1) | (refine u_nil ?_; refine hK _ ?_; clear hK K)))
      (refine u_w rfl rfl rfl ?_; intro K1 hK1; refine (stp_call0 (ids := []) (pcmp_fc o[m] x) rfl rfl (by simp only [go_sem]) (by kernel_rfl) (by (simp only [List.append_nil, go_sem]) <;> rfl) ?_).stp)
      rintro _ _ ⟨rfl, rfl⟩
      (simp only [aInts, aSets, List.append_nil, List.nil_append, List.length_map, go_sem]; refine hK1 _ ?_; clear hK1 K1)
      cases hl : ltA o[m] x with
      | true =>
        (repeat (first | ((first | refine u_0x rfl rfl rfl ?_ | refine u_1x rfl rfl rfl ?_); intro K1 hK1; simp only [go_sem, cmpR_lt, hl]; (first | refine hK1 _ ?_ | refine andk (hK1 _ ?_)); clear hK1 K1) | (refine u_2x rfl rfl rfl rfl ?_; intro K1 hK1; simp only [go_sem, cmpR_lt, hl]; (first | refine hK1 _ ?_ | refine andk (hK1 _ ?_)); clear hK1 K1) | (refine u_nil ?_; refine hK _ ?_; clear hK K)))
        (refine aw_cnd ?_; intro X Y hX hY; simp only [go_sem])
        refine hX ?_
        clear hX hY X Y
        (repeat (first | (refine aw_seq ?_; intro K hK) | refine aw_block ?_ | refine aw_region ?_ | (refine lst_x rfl rfl ?_; intro K1 hK1; simp only [go_sem]; (first | refine hK1 _ ?_ | refine andk (hK1 _ ?_)); clear hK1 K1) | ((first | refine lst_nil ?_ | refine aw_skip ?_); refine hK _ ?_; clear hK K)))
        ((try refine lst_nil ?_); (try refine aw_skip ?_); try simp only [ThenA])
        refine hK _ (m + 1, hi) ⟨by simp only; omega, h2, fun i a hi' ha => ?_, h4⟩ (by simp only; omega) ?_
        · rcases Nat.lt_or_ge i m with h5 | h5
          · exact ltA_trans (hs.at h5 ha hg) hl
          · have e : i = m := by simp only at hi'; omega
            subst e; rw [hg] at ha; cases ha; exact hl
        · (refine le_tm ?_; simp only [LeTm, go_sem]; try simp)
      | false =>
        (repeat (first | ((first | refine u_0x rfl rfl rfl ?_ | refine u_1x rfl rfl rfl ?_); intro K1 hK1; simp only [go_sem, cmpR_lt, hl]; (first | refine hK1 _ ?_ | refine andk (hK1 _ ?_)); clear hK1 K1) | (refine u_2x rfl rfl rfl rfl ?_; intro K1 hK1; simp only [go_sem, cmpR_lt, hl]; (first | refine hK1 _ ?_ | refine andk (hK1 _ ?_)); clear hK1 K1) | (refine u_nil ?_; refine hK _ ?_; clear hK K)))
        (refine aw_cnd ?_; intro X Y hX hY; simp only [go_sem])
        refine hY ?_
        clear hX hY X Y
        (repeat (first | (refine aw_seq ?_; intro K hK) | refine aw_block ?_ | refine aw_region ?_ | (refine lst_x rfl rfl ?_; intro K1 hK1; simp only [go_sem]; (first | refine hK1 _ ?_ | refine andk (hK1 _ ?_)); clear hK1 K1) | ((first | refine lst_nil ?_ | refine aw_skip ?_); refine hK _ ?_; clear hK K)))
        ((try refine lst_nil ?_); (try refine aw_skip ?_); try simp only [ThenA])
        refine hK _ (lo, m) ⟨by simp only; omega, by simp only; omega, h3, fun i a hi' ha => ?_⟩ (by simp only; omega) ?_
        · rcases Nat.lt_or_ge m i with h5 | h5
          · cases h6 : ltA a x with
            | false => rfl
            | true => rw [ltA_trans (hs.at h5 hg ha) h6] at hl; cases hl
          · have e : i = m := by simp only at hi'; omega
            subst e; rw [hg] at ha; cases ha; exact hl
        · (refine le_tm ?_; simp only [LeTm, go_sem]; try simp)
    · have hl1 : decide ((lo : Int) < (hi : Int)) = false := by simpa using hlt
      have e : lo = hi := by omega
      subst e
      (repeat (first | (refine aw_seq ?_; intro K hK) | refine aw_block ?_ | refine aw_region ?_ | (refine lst_x rfl rfl ?_; intro K1 hK1; simp only [go_sem, hl1]; (first | refine hK1 _ ?_ | refine andk (hK1 _ ?_)); clear hK1 K1) | ((first | refine lst_nil ?_ | refine aw_skip ?_); refine hK _ ?_; clear hK K)))
      (refine aw_cnd ?_; intro X Y hX hY; simp only [go_sem])
      refine hY ?_
      clear hX hY X Y
      (refine aw_exit ?_; simp only [ThenA, InBl, reduceIte, Nat.reduceEqDiff]; (first | refine hK _ ?_ | (clear hK K; refine hK _ ?_) | (clear hK K; clear hK K; refine hK _ ?_) | (clear hK K; clear hK K; clear hK K; refine hK _ ?_) | (clear hK K; clear hK K; clear hK K; clear hK K; refine hK _ ?_) | (clear hK K; clear hK K; clear hK K; clear hK K; clear hK K; refine hK _ ?_)); clear hK K)
      (repeat (first | (refine aw_seq ?_; intro K hK) | refine aw_block ?_ | refine aw_region ?_ | (refine lst_x rfl rfl ?_; intro K1 hK1; simp only [go_sem]; (first | refine hK1 _ ?_ | refine andk (hK1 _ ?_)); clear hK1 K1) | ((first | refine lst_nil ?_ | refine aw_skip ?_); refine hK _ ?_; clear hK K)))
      ((try refine aw_ret ?_); (try simp only [ThenA, InBl]); refine ret_le (le_pick [] rfl rfl) ?_; (try simp only [List.set_nil, List.take_nil, List.take_zero, List.map_append, go_sem]); ((try refine aw_ret ?_); (try refine lst_nil ?_); (try simp only [ThenA, InBl]); refine ret_mk (by first | exact .inl rfl | exact .inr rfl) rfl ?_; simp only [rtn, resA, resL, resV, Tryz.results142, go_sem, true_and, and_true]))
      exact ⟨lo, rfl, h2, h3, h4⟩

theorem aboveAe : AeOk Tryz.prog 67 2 := aeOk2 Tryz.underlying67 (by kernel_rfl) (by kernel_rfl) (by decide) (by decide) rfl rfl (by kernel_rfl) (by kernel_rfl)
theorem aboveEq_d (x y : Operand) (a b : Ar) : aggEq Tryz.prog .eql 67 x y [.int .i64 a.1, .int .i64 a.2] [.int .i64 b.1, .int .i64 b.2] (decide (a = b)) = True := by
  rw [← arcEq_b]
  refine eq_true ?_
  have := (aboveAe x y [.v (.int .i64 a.1), .v (.int .i64 a.2)] [.v (.int .i64 b.1), .v (.int .i64 b.2)] _ _ rfl rfl rfl rfl).1
  simpa [eqI] using this
theorem pcontains_fc (o : List Ar) (x : Ar) (hn : o.length ≤ 100000000) (hs : SortA o) : FC Tryz.prog 118 [aArcs o, .a (.g [.v (.int .i64 x.1), .v (.int .i64 x.2)])] [] (fun r q => q = [] ∧ r = .b (decide (x ∈ o))) := by
  refine fc_intro Tryz.func118 rfl (by rw [Tryz.ntmps118]; simp) ?_
  rw [Tryz.ntmps118]
  simp only [enum, aArcs]
  (repeat (first | (refine aw_seq ?_; intro K hK) | refine aw_block ?_ | refine aw_region ?_ | (refine lst_x rfl rfl ?_; intro K1 hK1; simp only [go_sem]; (first | refine hK1 _ ?_ | refine andk (hK1 _ ?_)); clear hK1 K1) | ((first | refine lst_nil ?_ | refine aw_skip ?_); refine hK _ ?_; clear hK K)))
  (refine lst_cons rfl ?_; intro K1 hK1; refine (stp_call0 (ids := []) (first_fc o x hn hs) rfl rfl (by simp only [go_sem]) (by kernel_rfl) (by (simp only [List.append_nil, go_sem]) <;> rfl) ?_).stp)
  rintro _ _ ⟨rfl, n, rfl, hf⟩
  (simp only [aInts, aSets, List.append_nil, List.nil_append, List.length_map, go_sem]; refine hK1 _ ?_; clear hK1 K1)
  (repeat (first | (refine aw_seq ?_; intro K hK) | refine aw_block ?_ | refine aw_region ?_ | (refine lst_x rfl rfl ?_; intro K1 hK1; simp only [go_sem]; (first | refine hK1 _ ?_ | refine andk (hK1 _ ?_)); clear hK1 K1) | ((first | refine lst_nil ?_ | refine aw_skip ?_); refine hK _ ?_; clear hK K)))
  (refine aw_regionU 12 [(0, 0), (1, 0), (2, 0), (3, 0), (4, 0), (5, 0), (6, 0), (7, 0), (8, 1), (9, 1), (10, 0), (11, 0), (12, 2)] (by kernel_rfl) (by kernel_rfl) (by intro c st h; simp [ThenA, InBl, Ret] at h) ?_)
  by_cases hlt : n < o.length
  · have hl1 : decide ((n : Int) < (o.length : Int)) = true := by simpa using hlt
    have hg := List.getElem?_eq_getElem hlt
    have hk2 := tArcs_at hlt
    (repeat (first | ((first | refine u_0x rfl rfl rfl ?_ | refine u_1x rfl rfl rfl ?_); intro K1 hK1; simp only [go_sem, hl1, hk2, aboveEq_d, arcEq_b, true_and, tArcs_len, half2]; (first | refine hK1 _ ?_ | refine andk (hK1 _ ?_)); clear hK1 K1) | (refine u_2x rfl rfl rfl rfl ?_; intro K1 hK1; simp only [go_sem, hl1, hk2, aboveEq_d, arcEq_b, true_and, tArcs_len, half2]; (first | refine hK1 _ ?_ | refine andk (hK1 _ ?_)); clear hK1 K1) | (refine u_2f rfl rfl rfl rfl ?_; intro K1 hK1; simp only [go_sem, hl1, hk2, aboveEq_d, arcEq_b, true_and, tArcs_len, half2]; (first | refine hK1 _ ?_ | refine andk (hK1 _ ?_)); clear hK1 K1) | (refine u_nil ?_; refine hK _ ?_; clear hK K)))
    (repeat (first | (refine aw_seq ?_; intro K hK) | refine aw_block ?_ | refine aw_region ?_ | (refine lst_x rfl rfl ?_; intro K1 hK1; simp only [go_sem]; (first | refine hK1 _ ?_ | refine andk (hK1 _ ?_)); clear hK1 K1) | ((first | refine lst_nil ?_ | refine aw_skip ?_); refine hK _ ?_; clear hK K)))
    ((try refine aw_ret ?_); (try simp only [ThenA, InBl]); refine ret_le (le_pick [] rfl rfl) ?_; (try simp only [List.set_nil, List.take_nil, List.take_zero, List.map_append, go_sem]); ((try refine aw_ret ?_); (try refine lst_nil ?_); (try simp only [ThenA, InBl]); refine ret_mk (by first | exact .inl rfl | exact .inr rfl) rfl ?_; simp only [rtn, resA, resL, resV, Tryz.results118, go_sem, true_and, and_true]))
    have := hf.mem hs
    rw [hg] at this
    simp only [Option.some.injEq] at this
    simp [this]
  · have hl1 : decide ((n : Int) < (o.length : Int)) = false := by simpa using hlt
    (repeat (first | ((first | refine u_0x rfl rfl rfl ?_ | refine u_1x rfl rfl rfl ?_); intro K1 hK1; simp only [go_sem, hl1, tArcs_len, half2]; (first | refine hK1 _ ?_ | refine andk (hK1 _ ?_)); clear hK1 K1) | (refine u_2x rfl rfl rfl rfl ?_; intro K1 hK1; simp only [go_sem, hl1, tArcs_len, half2]; (first | refine hK1 _ ?_ | refine andk (hK1 _ ?_)); clear hK1 K1) | (refine u_2f rfl rfl rfl rfl ?_; intro K1 hK1; simp only [go_sem, hl1, tArcs_len, half2]; (first | refine hK1 _ ?_ | refine andk (hK1 _ ?_)); clear hK1 K1) | (refine u_nil ?_; refine hK _ ?_; clear hK K)))
    (repeat (first | (refine aw_seq ?_; intro K hK) | refine aw_block ?_ | refine aw_region ?_ | (refine lst_x rfl rfl ?_; intro K1 hK1; simp only [go_sem]; (first | refine hK1 _ ?_ | refine andk (hK1 _ ?_)); clear hK1 K1) | ((first | refine lst_nil ?_ | refine aw_skip ?_); refine hK _ ?_; clear hK K)))
    ((try refine aw_ret ?_); (try simp only [ThenA, InBl]); refine ret_le (le_pick [] rfl rfl) ?_; (try simp only [List.set_nil, List.take_nil, List.take_zero, List.map_append, go_sem]); ((try refine aw_ret ?_); (try refine lst_nil ?_); (try simp only [ThenA, InBl]); refine ret_mk (by first | exact .inl rfl | exact .inr rfl) rfl ?_; simp only [rtn, resA, resL, resV, Tryz.results118, go_sem, true_and, and_true]))
    have := hf.mem hs
    rw [List.getElem?_eq_none (by omega)] at this
    simp at this
    simp [this]

theorem FstP.le {o : List Ar} {x y : Ar} {n m : Nat} (h1 : FstP o x n) (h2 : FstP o y m) (h : ∀ a, ltA a x = true → ltA a y = true) : n ≤ m := by
  rcases Nat.lt_or_ge m n with h3 | h3
  · have hl := h1.1
    have hg := List.getElem?_eq_getElem (show m < o.length by omega)
    have h4 := h _ (h1.2.1 m _ h3 hg)
    rw [h2.2.2 m _ (Nat.le_refl _) hg] at h4
    cases h4
  · exact h3
theorem pabove_fc (o : List Ar) (e : Int) (hn : o.length ≤ 100000000) (hs : SortA o) (hv : chanB e = true) (hh : ∀ a ∈ o, 0 ≤ a.2) : FC Tryz.prog 117 [aArcs o, .i e] [] (fun r q => q = [] ∧ ∃ W, r = aArcs W ∧ W.length ≤ o.length ∧ ∀ a, a ∈ W ↔ a ∈ o ∧ a.1 = e) := by
  refine fc_intro Tryz.func117 rfl (by rw [Tryz.ntmps117]; simp) ?_
  rw [Tryz.ntmps117]
  simp only [enum, aArcs]
  obtain ⟨he1, he2⟩ := chanB_iff.1 hv
  (repeat (first | (refine aw_seq ?_; intro K hK) | refine aw_block ?_ | refine aw_region ?_ | (refine lst_x rfl rfl ?_; intro K1 hK1; simp only [go_sem]; (first | refine hK1 _ ?_ | refine andk (hK1 _ ?_)); clear hK1 K1) | ((first | refine lst_nil ?_ | refine aw_skip ?_); refine hK _ ?_; clear hK K)))
  (refine lst_cons rfl ?_; intro K1 hK1; refine (stp_call0 (ids := []) (pvis_fc e) rfl rfl (by simp only [go_sem]) (by kernel_rfl) (by (simp only [List.append_nil, go_sem]) <;> rfl) ?_).stp)
  rintro _ _ ⟨rfl, rfl⟩
  (simp only [aInts, aSets, List.append_nil, List.nil_append, List.length_map, go_sem]; refine hK1 _ ?_; clear hK1 K1)
  (repeat (first | (refine aw_seq ?_; intro K hK) | refine aw_block ?_ | refine aw_region ?_ | (refine lst_x rfl rfl ?_; intro K1 hK1; simp only [go_sem, hv, Bool.not_true]; (first | refine hK1 _ ?_ | refine andk (hK1 _ ?_)); clear hK1 K1) | ((first | refine lst_nil ?_ | refine aw_skip ?_); refine hK _ ?_; clear hK K)))
  (refine aw_cnd ?_; intro X Y hX hY; simp only [go_sem])
  refine hY ?_
  clear hX hY X Y
  (repeat (first | (refine aw_seq ?_; intro K hK) | refine aw_block ?_ | refine aw_region ?_ | (refine lst_x rfl rfl ?_; intro K1 hK1; simp only [go_sem]; (first | refine hK1 _ ?_ | refine andk (hK1 _ ?_)); clear hK1 K1) | ((first | refine lst_nil ?_ | refine aw_skip ?_); refine hK _ ?_; clear hK K)))
  (refine lst_cons rfl ?_; intro K1 hK1; refine (stp_call0 (ids := []) (first_fc o (e, 0) hn hs) rfl rfl (by simp only [go_sem]) (by kernel_rfl) (by (simp only [List.append_nil, go_sem]) <;> rfl) ?_).stp)
  rintro _ _ ⟨rfl, i, rfl, hf⟩
  (simp only [aInts, aSets, List.append_nil, List.nil_append, List.length_map, go_sem]; refine hK1 _ ?_; clear hK1 K1)
  (repeat (first | (refine aw_seq ?_; intro K hK) | refine aw_block ?_ | refine aw_region ?_ | (refine lst_x rfl rfl ?_; intro K1 hK1; simp only [go_sem]; (first | refine hK1 _ ?_ | refine andk (hK1 _ ?_)); clear hK1 K1) | ((first | refine lst_nil ?_ | refine aw_skip ?_); refine hK _ ?_; clear hK K)))
  (refine lst_cons rfl ?_; intro K1 hK1; refine (stp_call0 (ids := []) (first_fc o (e + 1, 0) hn hs) rfl rfl (by simp only [go_sem]) (by kernel_rfl) (by (simp only [List.append_nil, go_sem]) <;> rfl) ?_).stp)
  rintro _ _ ⟨rfl, j, rfl, hf2⟩
  (simp only [aInts, aSets, List.append_nil, List.nil_append, List.length_map, go_sem]; refine hK1 _ ?_; clear hK1 K1)
  have hij : i ≤ j := hf.le hf2 fun a ha => by rw [ltA_iff] at ha ⊢; simp only at ha ⊢; omega
  have hjl := hf2.1
  refine lst_cons rfl ?_; intro K1 hK1
  refine stp_cut2 (k := 2) (cs := tArcs o) (i := i) (j := j) (kk := .i64) (kk' := .i64) rfl rfl (by simp only [go_sem]) (by simp only [go_sem]) (by simp only [go_sem]) (by simp only [go_sem]) (by omega) hij (by rw [tArcs_len]; omega) ?_
  simp only [go_sem]
  refine hK1 _ ?_; clear hK1 K1
  (repeat (first | (refine aw_seq ?_; intro K hK) | refine aw_block ?_ | refine aw_region ?_ | (refine lst_x rfl rfl ?_; intro K1 hK1; simp only [go_sem]; (first | refine hK1 _ ?_ | refine andk (hK1 _ ?_)); clear hK1 K1) | ((first | refine lst_nil ?_ | refine aw_skip ?_); refine hK _ ?_; clear hK K)))
  ((try refine aw_ret ?_); (try simp only [ThenA, InBl]); refine ret_le (le_pick [] rfl rfl) ?_; (try simp only [List.set_nil, List.take_nil, List.take_zero, List.map_append, go_sem]); ((try refine aw_ret ?_); (try refine lst_nil ?_); (try simp only [ThenA, InBl]); refine ret_mk (by first | exact .inl rfl | exact .inr rfl) rfl ?_; simp only [rtn, resA, resL, resV, Tryz.results117, go_sem, true_and, and_true]))
  refine ⟨(o.drop i).take (j - i), ?_, ?_, fun a => ?_⟩
  · rw [tArcs_drop, tArcs_take]
  · simp; omega
  · constructor
    · intro ha
      obtain ⟨q, hq⟩ := List.mem_iff_getElem?.1 ha
      rw [List.getElem?_take] at hq
      split at hq
      · rw [List.getElem?_drop] at hq
        have hm := List.mem_of_getElem? hq
        have h1 := hf.2.2 (i + q) a (by omega) hq
        have h2 := hf2.2.1 (i + q) a (by omega) hq
        rw [ltA_iff] at h2
        have h1 : ¬ (a.1 < e ∨ (a.1 = e ∧ a.2 < 0)) := by rw [← ltA_iff (a := a) (b := (e, 0)), h1]; simp
        have h3 := hh a hm
        simp only at h2
        exact ⟨hm, by omega⟩
      · cases hq
    · rintro ⟨hm, ha⟩
      obtain ⟨q, hq⟩ := List.mem_iff_getElem?.1 hm
      have hqi : i ≤ q := by
        rcases Nat.lt_or_ge q i with h1 | h1
        · have h2 := hf.2.1 q a h1 hq
          rw [ltA_iff] at h2
          have := hh a hm
          simp only at h2
          omega
        · exact h1
      have hqj : q < j := by
        rcases Nat.lt_or_ge q j with h1 | h1
        · exact h1
        · have h2 := hf2.2.2 q a h1 hq
          have h3 : ltA a (e + 1, 0) = true := by rw [ltA_iff]; simp only; omega
          rw [h2] at h3; cases h3
      refine List.mem_iff_getElem?.2 ⟨q - i, ?_⟩
      rw [List.getElem?_take, if_pos (by omega), List.getElem?_drop, show i + (q - i) = q by omega]
      exact hq
end Go.Proofs.YthlckclbjknldaaGreat
