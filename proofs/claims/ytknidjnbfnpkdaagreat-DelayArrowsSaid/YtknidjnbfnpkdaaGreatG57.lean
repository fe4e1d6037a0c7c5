/- delay.Arrows, ref25.DelayArrows, law27.arrows. -/
import Derived.Test.YtknidjnbfnpkdaaGreatG56
import Derived.Test.YtknidjnbfnpkdaaGreatTl1
namespace Go.Proofs.YtknidjnbfnpkdaaGreat
set_option linter.unusedVariables false
set_option linter.unusedSimpArgs false
open Go.RowKit
set_option maxRecDepth 100000
attribute [local go_sem] List.set_cons_zero List.set_cons_succ List.map_cons List.map_nil List.take_succ_cons List.take_zero List.drop_zero List.drop_succ_cons C.pl C.one List.all_cons List.all_nil Bool.and_true Nat.mul_one Int.toNat_natCast

/-- ref23.Ints at equal lists -/
theorem intsEq_fc (xs : List Int) (hn : xs.length ≤ 1000000) : FC Tryz.prog 14 [aInts xs, aInts xs] [] (fun x o => o = [] ∧ x = .b true) := by
  refine fc_intro Tryz.func14 rfl (by rw [Tryz.ntmps14]; simp) ?_
  rw [Tryz.ntmps14]
  simp only [enum, aInts]
  have d0 : ((xs.length : Int) != (xs.length : Int)) = false := by simp
  (repeat (first | (refine aw_seq ?_; intro K hK) | refine aw_block ?_ | refine aw_region ?_ | (refine lst_x rfl rfl ?_; intro K1 hK1; simp only [go_sem, tInts_len, d0]; (first | refine hK1 _ ?_ | refine andk (hK1 _ ?_)); clear hK1 K1) | ((first | refine lst_nil ?_ | refine aw_skip ?_); refine hK _ ?_; clear hK K)))
  (refine aw_cnd ?_; intro X Y hX hY; simp only [go_sem])
  refine hY ?_
  clear hX hY X Y
  (repeat (first | (refine aw_seq ?_; intro K hK) | refine aw_block ?_ | refine aw_region ?_ | (refine lst_x rfl rfl ?_; intro K1 hK1; simp only [go_sem]; (first | refine hK1 _ ?_ | refine andk (hK1 _ ?_)); clear hK1 K1) | ((first | refine lst_nil ?_ | refine aw_skip ?_); refine hK _ ?_; clear hK K)))
  refine aw_loop (fun k : Nat => { tm := [(0, .a (.c (.t 1 (tInts xs)))), (1, .a (.c (.t 1 (tInts xs)))), (5, .i k)], hp := [], n := 26, pin := 0 }) (fun k => k ≤ xs.length) (fun k => xs.length - k) 0 ?_ ?_ ?_
  · omega
  · (refine le_tm ?_; simp only [LeTm, go_sem]; try simp)
  · rintro k hk K hK
    by_cases hlt : k < xs.length
    · have d1 : decide ((k : Int) < (xs.length : Int)) = true := by simpa using hlt
      have hg : (tInts xs)[k]? = some (.v (.int .i64 xs[k])) := tInts_get (List.getElem?_eq_getElem hlt)
      have d2 : (xs[k] != xs[k]) = false := by simp
      (repeat (first | (refine aw_seq ?_; intro K hK) | refine aw_block ?_ | refine aw_region ?_ | (refine lst_x rfl rfl ?_; intro K1 hK1; simp only [go_sem, d1, tInts_len]; (first | refine hK1 _ ?_ | refine andk (hK1 _ ?_)); clear hK1 K1) | ((first | refine lst_nil ?_ | refine aw_skip ?_); refine hK _ ?_; clear hK K)))
      (refine aw_cnd ?_; intro X Y hX hY; simp only [go_sem])
      refine hX ?_
      clear hX hY X Y
      (repeat (first | (refine aw_seq ?_; intro K hK) | refine aw_block ?_ | refine aw_region ?_ | (refine lst_x rfl rfl ?_; intro K1 hK1; simp only [go_sem]; (first | refine hK1 _ ?_ | refine andk (hK1 _ ?_)); clear hK1 K1) | ((first | refine lst_nil ?_ | refine aw_skip ?_); refine hK _ ?_; clear hK K)))
      (refine aw_regionU 8 [(0, 0), (1, 0), (2, 0), (3, 1), (4, 0), (5, 0), (6, 0), (7, 1), (8, 2)] (by kernel_rfl) (by kernel_rfl) (by intro c st h; simp [ThenA, InBl, Ret] at h) ?_)
      (repeat (first | ((first | refine u_0x rfl rfl rfl ?_ | refine u_1x rfl rfl rfl ?_); intro K1 hK1; simp only [go_sem, hg, tInts_len, d2]; (first | refine hK1 _ ?_ | refine andk (hK1 _ ?_)); clear hK1 K1) | (refine u_2x rfl rfl rfl rfl ?_; intro K1 hK1; simp only [go_sem, hg, tInts_len, d2]; (first | refine hK1 _ ?_ | refine andk (hK1 _ ?_)); clear hK1 K1) | (refine u_nil ?_; refine hK _ ?_; clear hK K)))
      (refine aw_cnd ?_; intro X Y hX hY; simp only [go_sem])
      refine hY ?_
      clear hX hY X Y
      (repeat (first | (refine aw_seq ?_; intro K hK) | refine aw_block ?_ | refine aw_region ?_ | (refine lst_x rfl rfl ?_; intro K1 hK1; simp only [go_sem]; (first | refine hK1 _ ?_ | refine andk (hK1 _ ?_)); clear hK1 K1) | ((first | refine lst_nil ?_ | refine aw_skip ?_); refine hK _ ?_; clear hK K)))
      ((try refine lst_nil ?_); (try refine aw_skip ?_); try simp only [ThenA])
      refine hK _ (k + 1) (by omega) (by omega) ?_
      (refine le_tm ?_; simp only [LeTm, go_sem]; try simp)
    · have d1 : decide ((k : Int) < (xs.length : Int)) = false := by simpa using hlt
      (repeat (first | (refine aw_seq ?_; intro K hK) | refine aw_block ?_ | refine aw_region ?_ | (refine lst_x rfl rfl ?_; intro K1 hK1; simp only [go_sem, d1, tInts_len]; (first | refine hK1 _ ?_ | refine andk (hK1 _ ?_)); clear hK1 K1) | ((first | refine lst_nil ?_ | refine aw_skip ?_); refine hK _ ?_; clear hK K)))
      (refine aw_cnd ?_; intro X Y hX hY; simp only [go_sem])
      refine hY ?_
      clear hX hY X Y
      (refine aw_exit ?_; simp only [ThenA, InBl, reduceIte, Nat.reduceEqDiff]; (first | refine hK _ ?_ | (clear hK K; refine hK _ ?_) | (clear hK K; clear hK K; refine hK _ ?_) | (clear hK K; clear hK K; clear hK K; refine hK _ ?_) | (clear hK K; clear hK K; clear hK K; clear hK K; refine hK _ ?_) | (clear hK K; clear hK K; clear hK K; clear hK K; clear hK K; refine hK _ ?_)); clear hK K)
      (repeat (first | (refine aw_seq ?_; intro K hK) | refine aw_block ?_ | refine aw_region ?_ | (refine lst_x rfl rfl ?_; intro K1 hK1; simp only [go_sem]; (first | refine hK1 _ ?_ | refine andk (hK1 _ ?_)); clear hK1 K1) | ((first | refine lst_nil ?_ | refine aw_skip ?_); refine hK _ ?_; clear hK K)))
      ((try refine aw_ret ?_); (try simp only [ThenA, InBl]); refine ret_le (le_pick [] rfl rfl) ?_; (try simp only [List.set_nil, List.take_nil, List.take_zero, List.map_append, go_sem]); ((try refine aw_ret ?_); (try refine lst_nil ?_); (try simp only [ThenA, InBl]); refine ret_mk (by first | exact .inl rfl | exact .inr rfl) rfl ?_; simp only [rtn, resA, resL, resV, Tryz.results14, go_sem, true_and, and_true]))
/-- is a question about arrows one that has an answer? -/
def arrOk (R : List (List Ar)) (s e : Int) : Bool := valB R && decide (0 ≤ s) && decide (s < (R.length : Int)) && decide (0 ≤ e) && decide (e ≤ 1025)
theorem arrOk_no {R : List (List Ar)} {s e : Int} (h : arrOk R s e = false) (hv : valB R = true) (h1 : 0 ≤ s) (h2 : s < (R.length : Int)) (h3 : 0 ≤ e) : 1025 < e := by
  unfold arrOk at h
  rw [hv, decide_eq_true h1, decide_eq_true h2, decide_eq_true h3] at h
  simp at h; omega
/-- the states that the silent arcs reach from s -/
def reS (R : List (List Ar)) (s : Nat) (L : List Nat) : Prop := ∃ p : Nat → Bool, (∀ u, u < R.length → (p u = true ↔ Rc (Adj true R) s u)) ∧ L = ordN R.length p
theorem reS_uniq {R : List (List Ar)} {s : Nat} {L M : List Nat} (h1 : reS R s L) (h2 : reS R s M) : L = M := by
  obtain ⟨p, hp, rfl⟩ := h1
  obtain ⟨q, hq, rfl⟩ := h2
  unfold ordN
  refine List.filter_congr fun u hu => ?_
  have hu2 : u < R.length := by simpa using hu
  rw [Bool.eq_iff_iff, hp u hu2, hq u hu2]
theorem reS_lt {R : List (List Ar)} {s : Nat} {L : List Nat} (h : reS R s L) : (∀ v ∈ L, v < R.length) ∧ L.length ≤ R.length := by
  obtain ⟨p, hp, rfl⟩ := h
  refine ⟨fun v hv => (mem_ordN.1 hv).1, ?_⟩
  unfold ordN
  refine Nat.le_trans (List.length_filter_le _ _) (by simp)
/-- what the delay arrows reach -/
def dArr (R : List (List Ar)) (s e : Int) (L : List Int) : Prop :=
  (arrOk R s e = false ∧ L = []) ∨ (arrOk R s e = true ∧ ∃ M, reS R s.toNat M ∧ ((e = 0 ∧ L = M.map Int.ofNat) ∨ (e ≠ 0 ∧ ∃ p : Nat → Bool, (∀ u, u < R.length → (p u = true ↔ u ∈ tg R M e)) ∧ L = (ordN R.length p).map Int.ofNat)))
theorem dArr_uniq {R : List (List Ar)} {s e : Int} {L M : List Int} (h1 : dArr R s e L) (h2 : dArr R s e M) : L = M := by
  rcases h1 with ⟨a1, rfl⟩ | ⟨a1, N, hN, a2⟩
  · rcases h2 with ⟨_, rfl⟩ | ⟨b1, _⟩
    · rfl
    · rw [a1] at b1; cases b1
  · rcases h2 with ⟨b1, _⟩ | ⟨_, N2, hN2, b2⟩
    · rw [a1] at b1; cases b1
    · have := reS_uniq hN hN2
      subst this
      rcases a2 with ⟨e1, rfl⟩ | ⟨e1, p, hp, rfl⟩
      · rcases b2 with ⟨_, rfl⟩ | ⟨e2, _⟩
        · rfl
        · exact absurd e1 e2
      · rcases b2 with ⟨e2, _⟩ | ⟨_, q, hq, rfl⟩
        · exact absurd e2 e1
        · congr 1
          unfold ordN
          refine List.filter_congr fun u hu => ?_
          have hu2 : u < R.length := by simpa using hu
          rw [Bool.eq_iff_iff, hp u hu2, hq u hu2]
theorem dArr_len {R : List (List Ar)} {s e : Int} {L : List Int} (h : dArr R s e L) : L.length ≤ R.length := by
  rcases h with ⟨_, rfl⟩ | ⟨_, M, hM, ⟨_, rfl⟩ | ⟨_, p, _, rfl⟩⟩
  · simp
  · rw [List.length_map]; exact (reS_lt hM).2
  · rw [List.length_map]; unfold ordN
    exact Nat.le_trans (List.length_filter_le _ _) (by simp)
theorem tInts_nil : tInts ([] : List Int) = [] := rfl
set_option maxHeartbeats 4000000 in
theorem darr_fc (R : List (List Ar)) (s e : Int) (hn : R.length ≤ 1000000) (hr : ∀ r ∈ R, r.length ≤ 1000000) : FC Tryz.prog 15 [aLts R, .i s, .i e] [] (fun r o => o = [] ∧ ∃ L, dArr R s e L ∧ r = aInts L) := by
  refine fc_intro Tryz.func15 rfl (by rw [Tryz.ntmps15]; simp) ?_
  rw [Tryz.ntmps15]
  simp only [enum, aLts]
  cases hok : arrOk R s e with
  | false =>
    by_cases hv : valB R = true
    · by_cases h1 : 0 ≤ s
      · have c1 : decide (s < 0) = false := decide_eq_false (by omega)
        by_cases h2 : s < (R.length : Int)
        · have c2 : decide (s ≥ (R.length : Int)) = false := decide_eq_false (by omega)
          by_cases h3 : 0 ≤ e
          · have c3 : decide (e < 0) = false := decide_eq_false (by omega)
            have h4 := arrOk_no hok hv h1 h2 h3
            have c4 : decide (e > 1025) = true := decide_eq_true (by omega)
            (repeat (first | (refine aw_seq ?_; intro K hK) | refine aw_block ?_ | refine aw_region ?_ | (refine lst_x rfl rfl ?_; intro K1 hK1; simp only [go_sem]; (first | refine hK1 _ ?_ | refine andk (hK1 _ ?_)); clear hK1 K1) | ((first | refine lst_nil ?_ | refine aw_skip ?_); refine hK _ ?_; clear hK K)))
            (refine lst_cons rfl ?_; intro K1 hK1; refine (stp_call0 (ids := []) (valid_fc R (by omega) (fun r h => by have := hr r h; omega)) rfl rfl (by simp only [go_sem]) (by kernel_rfl) (by (simp only [List.append_nil, go_sem]) <;> rfl) ?_).stp)
            rintro _ _ ⟨rfl, rfl⟩
            (simp only [aInts, aSets, List.append_nil, List.nil_append, List.length_map, go_sem]; refine hK1 _ ?_; clear hK1 K1)
            (repeat (first | (refine aw_seq ?_; intro K hK) | refine aw_block ?_ | refine aw_region ?_ | (refine lst_x rfl rfl ?_; intro K1 hK1; simp only [go_sem, hv, Bool.not_true, c1, c2, c3, c4, tRows_len]; (first | refine hK1 _ ?_ | refine andk (hK1 _ ?_)); clear hK1 K1) | ((first | refine lst_nil ?_ | refine aw_skip ?_); refine hK _ ?_; clear hK K)))
            (refine aw_cnd ?_; intro X Y hX hY; simp only [go_sem])
            refine hX ?_
            clear hX hY X Y
            (repeat (first | (refine aw_seq ?_; intro K hK) | refine aw_block ?_ | refine aw_region ?_ | (refine lst_x rfl rfl ?_; intro K1 hK1; simp only [go_sem]; (first | refine hK1 _ ?_ | refine andk (hK1 _ ?_)); clear hK1 K1) | ((first | refine lst_nil ?_ | refine aw_skip ?_); refine hK _ ?_; clear hK K)))
            refine aw_le (le_nilt 6 1 ?_) ?_
            · simp only [go_sem]
            ((try refine aw_ret ?_); (try simp only [ThenA, InBl]); refine ret_le (le_pick [] rfl rfl) ?_; (try simp only [List.set_nil, List.take_nil, List.take_zero, List.map_append, go_sem]); ((try refine aw_ret ?_); (try refine lst_nil ?_); (try simp only [ThenA, InBl]); refine ret_mk (by first | exact .inl rfl | exact .inr rfl) rfl ?_; simp only [rtn, resA, resL, resV, Tryz.results15, go_sem, true_and, and_true]))
            exact ⟨[], .inl ⟨hok, rfl⟩, by simp only [aInts, tInts_nil]⟩
          · have c3 : decide (e < 0) = true := decide_eq_true (by omega)
            (repeat (first | (refine aw_seq ?_; intro K hK) | refine aw_block ?_ | refine aw_region ?_ | (refine lst_x rfl rfl ?_; intro K1 hK1; simp only [go_sem]; (first | refine hK1 _ ?_ | refine andk (hK1 _ ?_)); clear hK1 K1) | ((first | refine lst_nil ?_ | refine aw_skip ?_); refine hK _ ?_; clear hK K)))
            (refine lst_cons rfl ?_; intro K1 hK1; refine (stp_call0 (ids := []) (valid_fc R (by omega) (fun r h => by have := hr r h; omega)) rfl rfl (by simp only [go_sem]) (by kernel_rfl) (by (simp only [List.append_nil, go_sem]) <;> rfl) ?_).stp)
            rintro _ _ ⟨rfl, rfl⟩
            (simp only [aInts, aSets, List.append_nil, List.nil_append, List.length_map, go_sem]; refine hK1 _ ?_; clear hK1 K1)
            (repeat (first | (refine aw_seq ?_; intro K hK) | refine aw_block ?_ | refine aw_region ?_ | (refine lst_x rfl rfl ?_; intro K1 hK1; simp only [go_sem, hv, Bool.not_true, c1, c2, c3, tRows_len]; (first | refine hK1 _ ?_ | refine andk (hK1 _ ?_)); clear hK1 K1) | ((first | refine lst_nil ?_ | refine aw_skip ?_); refine hK _ ?_; clear hK K)))
            (refine aw_cnd ?_; intro X Y hX hY; simp only [go_sem])
            refine hX ?_
            clear hX hY X Y
            (repeat (first | (refine aw_seq ?_; intro K hK) | refine aw_block ?_ | refine aw_region ?_ | (refine lst_x rfl rfl ?_; intro K1 hK1; simp only [go_sem]; (first | refine hK1 _ ?_ | refine andk (hK1 _ ?_)); clear hK1 K1) | ((first | refine lst_nil ?_ | refine aw_skip ?_); refine hK _ ?_; clear hK K)))
            refine aw_le (le_nilt 6 1 ?_) ?_
            · simp only [go_sem]
            ((try refine aw_ret ?_); (try simp only [ThenA, InBl]); refine ret_le (le_pick [] rfl rfl) ?_; (try simp only [List.set_nil, List.take_nil, List.take_zero, List.map_append, go_sem]); ((try refine aw_ret ?_); (try refine lst_nil ?_); (try simp only [ThenA, InBl]); refine ret_mk (by first | exact .inl rfl | exact .inr rfl) rfl ?_; simp only [rtn, resA, resL, resV, Tryz.results15, go_sem, true_and, and_true]))
            exact ⟨[], .inl ⟨hok, rfl⟩, by simp only [aInts, tInts_nil]⟩
        · have c2 : decide (s ≥ (R.length : Int)) = true := decide_eq_true (by omega)
          (repeat (first | (refine aw_seq ?_; intro K hK) | refine aw_block ?_ | refine aw_region ?_ | (refine lst_x rfl rfl ?_; intro K1 hK1; simp only [go_sem]; (first | refine hK1 _ ?_ | refine andk (hK1 _ ?_)); clear hK1 K1) | ((first | refine lst_nil ?_ | refine aw_skip ?_); refine hK _ ?_; clear hK K)))
          (refine lst_cons rfl ?_; intro K1 hK1; refine (stp_call0 (ids := []) (valid_fc R (by omega) (fun r h => by have := hr r h; omega)) rfl rfl (by simp only [go_sem]) (by kernel_rfl) (by (simp only [List.append_nil, go_sem]) <;> rfl) ?_).stp)
          rintro _ _ ⟨rfl, rfl⟩
          (simp only [aInts, aSets, List.append_nil, List.nil_append, List.length_map, go_sem]; refine hK1 _ ?_; clear hK1 K1)
          (repeat (first | (refine aw_seq ?_; intro K hK) | refine aw_block ?_ | refine aw_region ?_ | (refine lst_x rfl rfl ?_; intro K1 hK1; simp only [go_sem, hv, Bool.not_true, c1, c2, tRows_len]; (first | refine hK1 _ ?_ | refine andk (hK1 _ ?_)); clear hK1 K1) | ((first | refine lst_nil ?_ | refine aw_skip ?_); refine hK _ ?_; clear hK K)))
          (refine aw_cnd ?_; intro X Y hX hY; simp only [go_sem])
          refine hX ?_
          clear hX hY X Y
          (repeat (first | (refine aw_seq ?_; intro K hK) | refine aw_block ?_ | refine aw_region ?_ | (refine lst_x rfl rfl ?_; intro K1 hK1; simp only [go_sem]; (first | refine hK1 _ ?_ | refine andk (hK1 _ ?_)); clear hK1 K1) | ((first | refine lst_nil ?_ | refine aw_skip ?_); refine hK _ ?_; clear hK K)))
          refine aw_le (le_nilt 6 1 ?_) ?_
          · simp only [go_sem]
          ((try refine aw_ret ?_); (try simp only [ThenA, InBl]); refine ret_le (le_pick [] rfl rfl) ?_; (try simp only [List.set_nil, List.take_nil, List.take_zero, List.map_append, go_sem]); ((try refine aw_ret ?_); (try refine lst_nil ?_); (try simp only [ThenA, InBl]); refine ret_mk (by first | exact .inl rfl | exact .inr rfl) rfl ?_; simp only [rtn, resA, resL, resV, Tryz.results15, go_sem, true_and, and_true]))
          exact ⟨[], .inl ⟨hok, rfl⟩, by simp only [aInts, tInts_nil]⟩
      · have c1 : decide (s < 0) = true := decide_eq_true (by omega)
        (repeat (first | (refine aw_seq ?_; intro K hK) | refine aw_block ?_ | refine aw_region ?_ | (refine lst_x rfl rfl ?_; intro K1 hK1; simp only [go_sem]; (first | refine hK1 _ ?_ | refine andk (hK1 _ ?_)); clear hK1 K1) | ((first | refine lst_nil ?_ | refine aw_skip ?_); refine hK _ ?_; clear hK K)))
        (refine lst_cons rfl ?_; intro K1 hK1; refine (stp_call0 (ids := []) (valid_fc R (by omega) (fun r h => by have := hr r h; omega)) rfl rfl (by simp only [go_sem]) (by kernel_rfl) (by (simp only [List.append_nil, go_sem]) <;> rfl) ?_).stp)
        rintro _ _ ⟨rfl, rfl⟩
        (simp only [aInts, aSets, List.append_nil, List.nil_append, List.length_map, go_sem]; refine hK1 _ ?_; clear hK1 K1)
        (repeat (first | (refine aw_seq ?_; intro K hK) | refine aw_block ?_ | refine aw_region ?_ | (refine lst_x rfl rfl ?_; intro K1 hK1; simp only [go_sem, hv, Bool.not_true, c1, tRows_len]; (first | refine hK1 _ ?_ | refine andk (hK1 _ ?_)); clear hK1 K1) | ((first | refine lst_nil ?_ | refine aw_skip ?_); refine hK _ ?_; clear hK K)))
        (refine aw_cnd ?_; intro X Y hX hY; simp only [go_sem])
        refine hX ?_
        clear hX hY X Y
        (repeat (first | (refine aw_seq ?_; intro K hK) | refine aw_block ?_ | refine aw_region ?_ | (refine lst_x rfl rfl ?_; intro K1 hK1; simp only [go_sem]; (first | refine hK1 _ ?_ | refine andk (hK1 _ ?_)); clear hK1 K1) | ((first | refine lst_nil ?_ | refine aw_skip ?_); refine hK _ ?_; clear hK K)))
        refine aw_le (le_nilt 6 1 ?_) ?_
        · simp only [go_sem]
        ((try refine aw_ret ?_); (try simp only [ThenA, InBl]); refine ret_le (le_pick [] rfl rfl) ?_; (try simp only [List.set_nil, List.take_nil, List.take_zero, List.map_append, go_sem]); ((try refine aw_ret ?_); (try refine lst_nil ?_); (try simp only [ThenA, InBl]); refine ret_mk (by first | exact .inl rfl | exact .inr rfl) rfl ?_; simp only [rtn, resA, resL, resV, Tryz.results15, go_sem, true_and, and_true]))
        exact ⟨[], .inl ⟨hok, rfl⟩, by simp only [aInts, tInts_nil]⟩
    · have hv2 : valB R = false := by simpa using hv
      (repeat (first | (refine aw_seq ?_; intro K hK) | refine aw_block ?_ | refine aw_region ?_ | (refine lst_x rfl rfl ?_; intro K1 hK1; simp only [go_sem]; (first | refine hK1 _ ?_ | refine andk (hK1 _ ?_)); clear hK1 K1) | ((first | refine lst_nil ?_ | refine aw_skip ?_); refine hK _ ?_; clear hK K)))
      (refine lst_cons rfl ?_; intro K1 hK1; refine (stp_call0 (ids := []) (valid_fc R (by omega) (fun r h => by have := hr r h; omega)) rfl rfl (by simp only [go_sem]) (by kernel_rfl) (by (simp only [List.append_nil, go_sem]) <;> rfl) ?_).stp)
      rintro _ _ ⟨rfl, rfl⟩
      (simp only [aInts, aSets, List.append_nil, List.nil_append, List.length_map, go_sem]; refine hK1 _ ?_; clear hK1 K1)
      (repeat (first | (refine aw_seq ?_; intro K hK) | refine aw_block ?_ | refine aw_region ?_ | (refine lst_x rfl rfl ?_; intro K1 hK1; simp only [go_sem, hv2, Bool.not_false, tRows_len]; (first | refine hK1 _ ?_ | refine andk (hK1 _ ?_)); clear hK1 K1) | ((first | refine lst_nil ?_ | refine aw_skip ?_); refine hK _ ?_; clear hK K)))
      (refine aw_cnd ?_; intro X Y hX hY; simp only [go_sem])
      refine hX ?_
      clear hX hY X Y
      (repeat (first | (refine aw_seq ?_; intro K hK) | refine aw_block ?_ | refine aw_region ?_ | (refine lst_x rfl rfl ?_; intro K1 hK1; simp only [go_sem]; (first | refine hK1 _ ?_ | refine andk (hK1 _ ?_)); clear hK1 K1) | ((first | refine lst_nil ?_ | refine aw_skip ?_); refine hK _ ?_; clear hK K)))
      refine aw_le (le_nilt 6 1 ?_) ?_
      · simp only [go_sem]
      ((try refine aw_ret ?_); (try simp only [ThenA, InBl]); refine ret_le (le_pick [] rfl rfl) ?_; (try simp only [List.set_nil, List.take_nil, List.take_zero, List.map_append, go_sem]); ((try refine aw_ret ?_); (try refine lst_nil ?_); (try simp only [ThenA, InBl]); refine ret_mk (by first | exact .inl rfl | exact .inr rfl) rfl ?_; simp only [rtn, resA, resL, resV, Tryz.results15, go_sem, true_and, and_true]))
      exact ⟨[], .inl ⟨hok, rfl⟩, by simp only [aInts, tInts_nil]⟩
  | true =>
    have hok2 := hok
    unfold arrOk at hok2
    simp only [Bool.and_eq_true, decide_eq_true_eq] at hok2
    obtain ⟨⟨⟨⟨hv, h1⟩, h2⟩, h3⟩, h4⟩ := hok2
    have hlo : looB R = true := decide_eq_true (of_decide_eq_true hv).1
    have c1 : decide (s < 0) = false := decide_eq_false (by omega)
    have c2 : decide (s ≥ (R.length : Int)) = false := decide_eq_false (by omega)
    have c3 : decide (e < 0) = false := decide_eq_false (by omega)
    have c4 : decide (e > 1025) = false := decide_eq_false (by omega)
    obtain ⟨sn, hsn⟩ : ∃ sn : Nat, s = (sn : Int) := ⟨s.toNat, by omega⟩
    subst hsn
    have hsl : sn < R.length := by omega
    (repeat (first | (refine aw_seq ?_; intro K hK) | refine aw_block ?_ | refine aw_region ?_ | (refine lst_x rfl rfl ?_; intro K1 hK1; simp only [go_sem]; (first | refine hK1 _ ?_ | refine andk (hK1 _ ?_)); clear hK1 K1) | ((first | refine lst_nil ?_ | refine aw_skip ?_); refine hK _ ?_; clear hK K)))
    (refine lst_cons rfl ?_; intro K1 hK1; refine (stp_call0 (ids := []) (valid_fc R (by omega) (fun r h => by have := hr r h; omega)) rfl rfl (by simp only [go_sem]) (by kernel_rfl) (by (simp only [List.append_nil, go_sem]) <;> rfl) ?_).stp)
    rintro _ _ ⟨rfl, rfl⟩
    (simp only [aInts, aSets, List.append_nil, List.nil_append, List.length_map, go_sem]; refine hK1 _ ?_; clear hK1 K1)
    (repeat (first | (refine aw_seq ?_; intro K hK) | refine aw_block ?_ | refine aw_region ?_ | (refine lst_x rfl rfl ?_; intro K1 hK1; simp only [go_sem, hv, Bool.not_true, c1, c2, c3, c4, tRows_len]; (first | refine hK1 _ ?_ | refine andk (hK1 _ ?_)); clear hK1 K1) | ((first | refine lst_nil ?_ | refine aw_skip ?_); refine hK _ ?_; clear hK K)))
    (refine aw_cnd ?_; intro X Y hX hY; simp only [go_sem])
    refine hY ?_
    clear hX hY X Y
    (repeat (first | (refine aw_seq ?_; intro K hK) | refine aw_block ?_ | refine aw_region ?_ | (refine lst_x rfl rfl ?_; intro K1 hK1; simp only [go_sem]; (first | refine hK1 _ ?_ | refine andk (hK1 _ ?_)); clear hK1 K1) | ((first | refine lst_nil ?_ | refine aw_skip ?_); refine hK _ ?_; clear hK K)))
    (refine lst_cons rfl ?_; intro K1 hK1; refine (stp_call0 (ids := []) (fnew_fc R hn) rfl rfl (by simp only [go_sem]) (by kernel_rfl) (by (simp only [List.append_nil, go_sem]) <;> rfl) ?_).stp)
    rintro _ _ ⟨rfl, rfl⟩
    (simp only [aInts, aSets, wkO, cInts_up, List.append_nil, List.nil_append, List.length_map, go_sem]; refine hK1 _ ?_; clear hK1 K1)
    (repeat (first | (refine aw_seq ?_; intro K hK) | refine aw_block ?_ | refine aw_region ?_ | (refine lst_x rfl rfl ?_; intro K1 hK1; simp only [go_sem]; (first | refine hK1 _ ?_ | refine andk (hK1 _ ?_)); clear hK1 K1) | ((first | refine lst_nil ?_ | refine aw_skip ?_); refine hK _ ?_; clear hK K)))
    (refine lst_le (le_frz (r := ⟨3, 1, true, cInts [(sn : Int)]⟩) 3 (tInts [(sn : Int)]) rfl (fz_c _) (show 0 < (1 : Nat) by omega)) ?_; simp only [ST.frz, A0.frz, AV.frz, C.frz, Nat.le_refl, List.set_cons_zero, List.set_cons_succ, go_sem, show (tInts [(sn : Int)]).take 1 = tInts [(sn : Int)] from rfl])
    (refine lst_cons rfl ?_; intro K1 hK1; refine stp_callσ (ids := []) [1, 2] (wreach_fc R true [sn] hlo hn hr (by simpa using hsl) (by simp) (List.replicate R.length 0) 0 (by simp) (fun x h => by have := List.eq_of_mem_replicate h; omega) (by omega) (by omega)) rfl rfl (by simp only [go_sem]) (by first | assumption | kernel_rfl) rfl rfl (by (simp only [List.map_append, List.append_nil, go_sem]) <;> rfl) (by (simp only [pkh, wkO, cInts_ren, go_sem]) <;> rfl) ?_ ?_)
    · rintro _ _ ⟨_, _, _, _, _, rfl, rfl⟩; rfl
    rintro _ _ ⟨seen, hse, hsb, p, hp, rfl, rfl⟩
    (simp only [aInts, aSets, wkO, cInts_up, List.append_nil, List.nil_append, List.length_map, go_sem]; refine hK1 _ ?_; clear hK1 K1)
    obtain ⟨M, hMd⟩ : ∃ M, M = ordN R.length p := ⟨_, rfl⟩
    have hM : reS R sn M := ⟨p, fun u hu => by rw [hp u hu]; simp, hMd⟩
    rw [← hMd]
    have hMl := reS_lt hM
    have htk : (tInts (M.map Int.ofNat)).take M.length = tInts (M.map Int.ofNat) := List.take_of_length_le (by rw [tInts_len, List.length_map]; exact Nat.le_refl _)
    by_cases he : e = 0
    · have d0 : (e == 0) = true := by simp [he]
      (repeat (first | (refine aw_seq ?_; intro K hK) | refine aw_block ?_ | refine aw_region ?_ | (refine lst_x rfl rfl ?_; intro K1 hK1; simp only [go_sem, d0]; (first | refine hK1 _ ?_ | refine andk (hK1 _ ?_)); clear hK1 K1) | ((first | refine lst_nil ?_ | refine aw_skip ?_); refine hK _ ?_; clear hK K)))
      (refine aw_cnd ?_; intro X Y hX hY; simp only [go_sem])
      refine hX ?_
      clear hX hY X Y
      (repeat (first | (refine aw_seq ?_; intro K hK) | refine aw_block ?_ | refine aw_region ?_ | (refine lst_x rfl rfl ?_; intro K1 hK1; simp only [go_sem]; (first | refine hK1 _ ?_ | refine andk (hK1 _ ?_)); clear hK1 K1) | ((first | refine lst_nil ?_ | refine aw_skip ?_); refine hK _ ?_; clear hK K)))
      ((try refine aw_ret ?_); (try simp only [ThenA, InBl]); refine ret_le (le_frz (r := ⟨3, 1, true, cInts (M.map Int.ofNat)⟩) 4 (tInts (M.map Int.ofNat)) rfl (fz_c _) (show 0 < (1 : Nat) by omega)) ?_; refine ret_le (le_pick [] rfl rfl) ?_; simp only [ST.frz, A0.frz, AV.frz, C.frz, Nat.le_refl, List.set_cons_zero, List.set_cons_succ, go_sem, tInts_len, List.length_map, htk]; (try simp only [List.set_nil, List.take_nil, List.take_zero, List.map_append, go_sem]); ((try refine aw_ret ?_); (try refine lst_nil ?_); (try simp only [ThenA, InBl]); refine ret_mk (by first | exact .inl rfl | exact .inr rfl) rfl ?_; simp only [rtn, resA, resL, resV, Tryz.results15, go_sem, true_and, and_true, tInts_len, List.length_map, htk]))
      exact ⟨_, .inr ⟨hok, M, hM, .inl ⟨he, rfl⟩⟩, rfl⟩
    · have d0 : (e == 0) = false := by simpa using he
      (repeat (first | (refine aw_seq ?_; intro K hK) | refine aw_block ?_ | refine aw_region ?_ | (refine lst_x rfl rfl ?_; intro K1 hK1; simp only [go_sem, d0]; (first | refine hK1 _ ?_ | refine andk (hK1 _ ?_)); clear hK1 K1) | ((first | refine lst_nil ?_ | refine aw_skip ?_); refine hK _ ?_; clear hK K)))
      (refine aw_cnd ?_; intro X Y hX hY; simp only [go_sem])
      refine hY ?_
      clear hX hY X Y
      (refine aw_le (le_frz (r := ⟨3, 1, true, cInts (M.map Int.ofNat)⟩) 4 (tInts (M.map Int.ofNat)) rfl (fz_c _) (show 0 < (1 : Nat) by omega)) ?_; simp only [ST.frz, A0.frz, AV.frz, C.frz, Nat.le_refl, List.set_cons_zero, List.set_cons_succ, go_sem, tInts_len, List.length_map, htk])
      (repeat (first | (refine aw_seq ?_; intro K hK) | refine aw_block ?_ | refine aw_region ?_ | (refine lst_x rfl rfl ?_; intro K1 hK1; simp only [go_sem]; (first | refine hK1 _ ?_ | refine andk (hK1 _ ?_)); clear hK1 K1) | ((first | refine lst_nil ?_ | refine aw_skip ?_); refine hK _ ?_; clear hK K)))
      (refine lst_cons rfl ?_; intro K1 hK1; refine stp_callσ (ids := []) [1, 2] (wtargets_fc R M e hlo hn hr hMl.1 (by omega) seen 1 hse (fun x h => by have := hsb x h; omega) (by omega) (by omega)) rfl rfl (by simp only [go_sem]) (by first | assumption | kernel_rfl) rfl rfl (by (simp only [List.map_append, List.append_nil, go_sem]) <;> rfl) (by (simp only [pkh, wkO, cInts_ren, go_sem]) <;> rfl) ?_ ?_)
      · rintro _ _ ⟨_, _, _, _, _, rfl, rfl⟩; rfl
      rintro _ _ ⟨seen2, hse2, hsb2, p2, hp2, rfl, rfl⟩
      (simp only [aInts, aSets, wkO, cInts_up, List.append_nil, List.nil_append, List.length_map, go_sem]; refine hK1 _ ?_; clear hK1 K1)
      obtain ⟨N, hNd⟩ : ∃ N, N = ordN R.length p2 := ⟨_, rfl⟩
      rw [← hNd]
      have htk2 : (tInts (N.map Int.ofNat)).take N.length = tInts (N.map Int.ofNat) := List.take_of_length_le (by rw [tInts_len, List.length_map]; exact Nat.le_refl _)
      (repeat (first | (refine aw_seq ?_; intro K hK) | refine aw_block ?_ | refine aw_region ?_ | (refine lst_x rfl rfl ?_; intro K1 hK1; simp only [go_sem]; (first | refine hK1 _ ?_ | refine andk (hK1 _ ?_)); clear hK1 K1) | ((first | refine lst_nil ?_ | refine aw_skip ?_); refine hK _ ?_; clear hK K)))
      ((try refine aw_ret ?_); (try simp only [ThenA, InBl]); refine ret_le (le_frz (r := ⟨3, 1, true, cInts (N.map Int.ofNat)⟩) 5 (tInts (N.map Int.ofNat)) rfl (fz_c _) (show 0 < (1 : Nat) by omega)) ?_; refine ret_le (le_pick [] rfl rfl) ?_; simp only [ST.frz, A0.frz, AV.frz, C.frz, Nat.le_refl, List.set_cons_zero, List.set_cons_succ, go_sem, tInts_len, List.length_map, htk2]; (try simp only [List.set_nil, List.take_nil, List.take_zero, List.map_append, go_sem]); ((try refine aw_ret ?_); (try refine lst_nil ?_); (try simp only [ThenA, InBl]); refine ret_mk (by first | exact .inl rfl | exact .inr rfl) rfl ?_; simp only [rtn, resA, resL, resV, Tryz.results15, go_sem, true_and, and_true, tInts_len, List.length_map, htk2]))
      exact ⟨_, .inr ⟨hok, M, hM, .inr ⟨he, p2, hp2, by rw [hNd]⟩⟩, rfl⟩
/-- the targets, as the reference gathers them -/
def tgI (R : List (List Ar)) (F : List Nat) (e : Int) (acc : List Int) : List Int := F.foldl (fun acc s => (R.getD s []).foldl (fun acc a => if a.1 = e then addI a.2 acc else acc) acc) acc
def tgi1 (r : List Ar) (e : Int) (acc : List Int) : List Int := r.foldl (fun acc a => if a.1 = e then addI a.2 acc else acc) acc
theorem tgi1_snoc (r : List Ar) (e : Int) (acc : List Int) (a : Ar) : tgi1 (r ++ [a]) e acc = if a.1 = e then addI a.2 (tgi1 r e acc) else tgi1 r e acc := by unfold tgi1; rw [List.foldl_append]; rfl
theorem tgI_snoc (R : List (List Ar)) (F : List Nat) (e : Int) (acc : List Int) (s : Nat) : tgI R (F ++ [s]) e acc = tgi1 (R.getD s []) e (tgI R F e acc) := by unfold tgI; rw [List.foldl_append]; rfl
theorem mem_tgi1 {x : Int} {e : Int} : ∀ (r : List Ar) (acc : List Int), x ∈ tgi1 r e acc ↔ x ∈ acc ∨ ∃ a ∈ r, a.1 = e ∧ a.2 = x := by
  intro r
  induction r with
  | nil => intro acc; simp [tgi1]
  | cons a r ih =>
    intro acc
    show x ∈ tgi1 r e (if a.1 = e then addI a.2 acc else acc) ↔ _
    rw [ih]
    simp only [List.mem_cons, exists_eq_or_imp]
    split
    · rename_i h
      rw [mem_addI]
      constructor
      · rintro ((rfl | h1) | h1)
        · exact .inr (.inl ⟨h, rfl⟩)
        · exact .inl h1
        · exact .inr (.inr h1)
      · rintro (h1 | ⟨_, rfl⟩ | h1)
        · exact .inl (.inr h1)
        · exact .inl (.inl rfl)
        · exact .inr h1
    · rename_i h
      constructor
      · rintro (h1 | h1)
        · exact .inl h1
        · exact .inr (.inr h1)
      · rintro (h1 | ⟨h2, _⟩ | h1)
        · exact .inl h1
        · exact absurd h2 h
        · exact .inr h1
theorem mem_tgI {R : List (List Ar)} {x e : Int} : ∀ (F : List Nat) (acc : List Int), x ∈ tgI R F e acc ↔ x ∈ acc ∨ ∃ s ∈ F, ∃ a ∈ R.getD s [], a.1 = e ∧ a.2 = x := by
  intro F
  induction F with
  | nil => intro acc; simp [tgI]
  | cons s F ih =>
    intro acc
    show x ∈ tgI R F e (tgi1 (R.getD s []) e acc) ↔ _
    rw [ih, mem_tgi1]
    simp only [List.mem_cons, exists_eq_or_imp]
    rw [or_assoc]
theorem tgi1_asc {e : Int} : ∀ (r : List Ar) (acc : List Int), Asc acc → Asc (tgi1 r e acc) := by
  intro r
  induction r with
  | nil => intro acc h; exact h
  | cons a r ih =>
    intro acc h
    show Asc (tgi1 r e (if a.1 = e then addI a.2 acc else acc))
    split
    · exact ih _ (addI_asc h)
    · exact ih _ h
theorem tgI_asc {R : List (List Ar)} {e : Int} : ∀ (F : List Nat) (acc : List Int), Asc acc → Asc (tgI R F e acc) := by
  intro F
  induction F with
  | nil => intro acc h; exact h
  | cons s F ih => intro acc h; exact ih _ (tgi1_asc _ _ h)
theorem ordN_asc (n : Nat) (p : Nat → Bool) : Asc ((ordN n p).map Int.ofNat) := by
  unfold Asc
  rw [List.pairwise_map]
  exact (ordN_sorted n p).imp fun h => by simpa using h
/-- an ascending list of states is as long as there are states -/
theorem asc_bd {l : List Int} {n : Nat} (h : Asc l) (hb : ∀ x ∈ l, 0 ≤ x ∧ x < (n : Int)) : l.length ≤ n := by
  have h1 : (l.map Int.toNat).Nodup := by
    unfold Asc at h
    rw [List.Nodup, List.pairwise_map]
    refine h.imp_of_mem fun {a b} ha hb2 hab e => ?_
    have := hb a ha
    have := hb b hb2
    omega
  have := nodup_le n (l.map Int.toNat) h1 fun u hu => by
    obtain ⟨x, hx, rfl⟩ := List.mem_map.1 hu
    have := hb x hx
    omega
  simpa using this
theorem tgI_eq {R : List (List Ar)} {F : List Nat} {e : Int} (hbd : ∀ r ∈ R, ∀ a ∈ r, 0 ≤ a.2 ∧ a.2 < (R.length : Int)) (hF : ∀ v ∈ F, v < R.length) : ∃ p : Nat → Bool, (∀ u, u < R.length → (p u = true ↔ u ∈ tg R F e)) ∧ tgI R F e [] = (ordN R.length p).map Int.ofNat := by
  refine ⟨fun u => decide (u ∈ tg R F e), fun u _ => by simp, ?_⟩
  refine asc_ext (tgI_asc F [] List.Pairwise.nil) (ordN_asc _ _) fun x => ?_
  rw [mem_tgI]
  simp only [List.not_mem_nil, false_or]
  have hg : ∀ s, s < R.length → R.getD s [] ∈ R := fun s hs => by rw [List.getD_eq_getElem?_getD, List.getElem?_eq_getElem hs]; exact List.getElem_mem hs
  constructor
  · rintro ⟨s, hs, a, ha, hae, rfl⟩
    have hb := hbd _ (hg s (hF s hs)) a ha
    refine List.mem_map.2 ⟨a.2.toNat, mem_ordN.2 ⟨by omega, ?_⟩, by simp only [Int.ofNat_eq_natCast]; omega⟩
    simp only [decide_eq_true_eq]
    exact mem_tg.2 ⟨s, hs, mem_tgR.2 ⟨a, ha, hae, rfl⟩⟩
  · intro h
    obtain ⟨u, hu, rfl⟩ := List.mem_map.1 h
    have h2 := (mem_ordN.1 hu).2
    simp only [decide_eq_true_eq] at h2
    obtain ⟨s, hs, h3⟩ := mem_tg.1 h2
    obtain ⟨a, ha, hae, hau⟩ := mem_tgR.1 h3
    have hb := hbd _ (hg s (hF s hs)) a ha
    exact ⟨s, hs, a, ha, hae, by simp only [Int.ofNat_eq_natCast]; omega⟩
set_option maxHeartbeats 4000000 in
theorem rdarr_fc (R : List (List Ar)) (s e : Int) (hn : R.length ≤ 1000000) (hr : ∀ r ∈ R, r.length ≤ 1000000) : FC Tryz.prog 16 [aLts R, .i s, .i e] [] (fun r o => o = [] ∧ ∃ L, dArr R s e L ∧ r = aInts L) := by
  refine fc_intro Tryz.func16 rfl (by rw [Tryz.ntmps16]; simp) ?_
  rw [Tryz.ntmps16]
  simp only [enum, aLts]
  cases hok : arrOk R s e with
  | false =>
    by_cases hv : valB R = true
    · by_cases h1 : 0 ≤ s
      · have c1 : decide (s < 0) = false := decide_eq_false (by omega)
        by_cases h2 : s < (R.length : Int)
        · have c2 : decide (s ≥ (R.length : Int)) = false := decide_eq_false (by omega)
          by_cases h3 : 0 ≤ e
          · have c3 : decide (e < 0) = false := decide_eq_false (by omega)
            have h4 := arrOk_no hok hv h1 h2 h3
            have c4 : decide (e > 1025) = true := decide_eq_true (by omega)
            (repeat (first | (refine aw_seq ?_; intro K hK) | refine aw_block ?_ | refine aw_region ?_ | (refine lst_x rfl rfl ?_; intro K1 hK1; simp only [go_sem]; (first | refine hK1 _ ?_ | refine andk (hK1 _ ?_)); clear hK1 K1) | ((first | refine lst_nil ?_ | refine aw_skip ?_); refine hK _ ?_; clear hK K)))
            (refine lst_cons rfl ?_; intro K1 hK1; refine (stp_call0 (ids := []) (validR_fc R (by omega) (fun r h => by have := hr r h; omega)) rfl rfl (by simp only [go_sem]) (by kernel_rfl) (by (simp only [List.append_nil, go_sem]) <;> rfl) ?_).stp)
            rintro _ _ ⟨rfl, rfl⟩
            (simp only [aInts, aSets, List.append_nil, List.nil_append, List.length_map, go_sem]; refine hK1 _ ?_; clear hK1 K1)
            (repeat (first | (refine aw_seq ?_; intro K hK) | refine aw_block ?_ | refine aw_region ?_ | (refine lst_x rfl rfl ?_; intro K1 hK1; simp only [go_sem, hv, Bool.not_true, c1, c2, c3, c4, tRows_len]; (first | refine hK1 _ ?_ | refine andk (hK1 _ ?_)); clear hK1 K1) | ((first | refine lst_nil ?_ | refine aw_skip ?_); refine hK _ ?_; clear hK K)))
            (refine aw_cnd ?_; intro X Y hX hY; simp only [go_sem])
            refine hX ?_
            clear hX hY X Y
            (repeat (first | (refine aw_seq ?_; intro K hK) | refine aw_block ?_ | refine aw_region ?_ | (refine lst_x rfl rfl ?_; intro K1 hK1; simp only [go_sem]; (first | refine hK1 _ ?_ | refine andk (hK1 _ ?_)); clear hK1 K1) | ((first | refine lst_nil ?_ | refine aw_skip ?_); refine hK _ ?_; clear hK K)))
            refine aw_le (le_nilt 6 1 ?_) ?_
            · simp only [go_sem]
            ((try refine aw_ret ?_); (try simp only [ThenA, InBl]); refine ret_le (le_pick [] rfl rfl) ?_; (try simp only [List.set_nil, List.take_nil, List.take_zero, List.map_append, go_sem]); ((try refine aw_ret ?_); (try refine lst_nil ?_); (try simp only [ThenA, InBl]); refine ret_mk (by first | exact .inl rfl | exact .inr rfl) rfl ?_; simp only [rtn, resA, resL, resV, Tryz.results16, go_sem, true_and, and_true]))
            exact ⟨[], .inl ⟨hok, rfl⟩, by simp only [aInts, tInts_nil]⟩
          · have c3 : decide (e < 0) = true := decide_eq_true (by omega)
            (repeat (first | (refine aw_seq ?_; intro K hK) | refine aw_block ?_ | refine aw_region ?_ | (refine lst_x rfl rfl ?_; intro K1 hK1; simp only [go_sem]; (first | refine hK1 _ ?_ | refine andk (hK1 _ ?_)); clear hK1 K1) | ((first | refine lst_nil ?_ | refine aw_skip ?_); refine hK _ ?_; clear hK K)))
            (refine lst_cons rfl ?_; intro K1 hK1; refine (stp_call0 (ids := []) (validR_fc R (by omega) (fun r h => by have := hr r h; omega)) rfl rfl (by simp only [go_sem]) (by kernel_rfl) (by (simp only [List.append_nil, go_sem]) <;> rfl) ?_).stp)
            rintro _ _ ⟨rfl, rfl⟩
            (simp only [aInts, aSets, List.append_nil, List.nil_append, List.length_map, go_sem]; refine hK1 _ ?_; clear hK1 K1)
            (repeat (first | (refine aw_seq ?_; intro K hK) | refine aw_block ?_ | refine aw_region ?_ | (refine lst_x rfl rfl ?_; intro K1 hK1; simp only [go_sem, hv, Bool.not_true, c1, c2, c3, tRows_len]; (first | refine hK1 _ ?_ | refine andk (hK1 _ ?_)); clear hK1 K1) | ((first | refine lst_nil ?_ | refine aw_skip ?_); refine hK _ ?_; clear hK K)))
            (refine aw_cnd ?_; intro X Y hX hY; simp only [go_sem])
            refine hX ?_
            clear hX hY X Y
            (repeat (first | (refine aw_seq ?_; intro K hK) | refine aw_block ?_ | refine aw_region ?_ | (refine lst_x rfl rfl ?_; intro K1 hK1; simp only [go_sem]; (first | refine hK1 _ ?_ | refine andk (hK1 _ ?_)); clear hK1 K1) | ((first | refine lst_nil ?_ | refine aw_skip ?_); refine hK _ ?_; clear hK K)))
            refine aw_le (le_nilt 6 1 ?_) ?_
            · simp only [go_sem]
            ((try refine aw_ret ?_); (try simp only [ThenA, InBl]); refine ret_le (le_pick [] rfl rfl) ?_; (try simp only [List.set_nil, List.take_nil, List.take_zero, List.map_append, go_sem]); ((try refine aw_ret ?_); (try refine lst_nil ?_); (try simp only [ThenA, InBl]); refine ret_mk (by first | exact .inl rfl | exact .inr rfl) rfl ?_; simp only [rtn, resA, resL, resV, Tryz.results16, go_sem, true_and, and_true]))
            exact ⟨[], .inl ⟨hok, rfl⟩, by simp only [aInts, tInts_nil]⟩
        · have c2 : decide (s ≥ (R.length : Int)) = true := decide_eq_true (by omega)
          (repeat (first | (refine aw_seq ?_; intro K hK) | refine aw_block ?_ | refine aw_region ?_ | (refine lst_x rfl rfl ?_; intro K1 hK1; simp only [go_sem]; (first | refine hK1 _ ?_ | refine andk (hK1 _ ?_)); clear hK1 K1) | ((first | refine lst_nil ?_ | refine aw_skip ?_); refine hK _ ?_; clear hK K)))
          (refine lst_cons rfl ?_; intro K1 hK1; refine (stp_call0 (ids := []) (validR_fc R (by omega) (fun r h => by have := hr r h; omega)) rfl rfl (by simp only [go_sem]) (by kernel_rfl) (by (simp only [List.append_nil, go_sem]) <;> rfl) ?_).stp)
          rintro _ _ ⟨rfl, rfl⟩
          (simp only [aInts, aSets, List.append_nil, List.nil_append, List.length_map, go_sem]; refine hK1 _ ?_; clear hK1 K1)
          (repeat (first | (refine aw_seq ?_; intro K hK) | refine aw_block ?_ | refine aw_region ?_ | (refine lst_x rfl rfl ?_; intro K1 hK1; simp only [go_sem, hv, Bool.not_true, c1, c2, tRows_len]; (first | refine hK1 _ ?_ | refine andk (hK1 _ ?_)); clear hK1 K1) | ((first | refine lst_nil ?_ | refine aw_skip ?_); refine hK _ ?_; clear hK K)))
          (refine aw_cnd ?_; intro X Y hX hY; simp only [go_sem])
          refine hX ?_
          clear hX hY X Y
          (repeat (first | (refine aw_seq ?_; intro K hK) | refine aw_block ?_ | refine aw_region ?_ | (refine lst_x rfl rfl ?_; intro K1 hK1; simp only [go_sem]; (first | refine hK1 _ ?_ | refine andk (hK1 _ ?_)); clear hK1 K1) | ((first | refine lst_nil ?_ | refine aw_skip ?_); refine hK _ ?_; clear hK K)))
          refine aw_le (le_nilt 6 1 ?_) ?_
          · simp only [go_sem]
          ((try refine aw_ret ?_); (try simp only [ThenA, InBl]); refine ret_le (le_pick [] rfl rfl) ?_; (try simp only [List.set_nil, List.take_nil, List.take_zero, List.map_append, go_sem]); ((try refine aw_ret ?_); (try refine lst_nil ?_); (try simp only [ThenA, InBl]); refine ret_mk (by first | exact .inl rfl | exact .inr rfl) rfl ?_; simp only [rtn, resA, resL, resV, Tryz.results16, go_sem, true_and, and_true]))
          exact ⟨[], .inl ⟨hok, rfl⟩, by simp only [aInts, tInts_nil]⟩
      · have c1 : decide (s < 0) = true := decide_eq_true (by omega)
        (repeat (first | (refine aw_seq ?_; intro K hK) | refine aw_block ?_ | refine aw_region ?_ | (refine lst_x rfl rfl ?_; intro K1 hK1; simp only [go_sem]; (first | refine hK1 _ ?_ | refine andk (hK1 _ ?_)); clear hK1 K1) | ((first | refine lst_nil ?_ | refine aw_skip ?_); refine hK _ ?_; clear hK K)))
        (refine lst_cons rfl ?_; intro K1 hK1; refine (stp_call0 (ids := []) (validR_fc R (by omega) (fun r h => by have := hr r h; omega)) rfl rfl (by simp only [go_sem]) (by kernel_rfl) (by (simp only [List.append_nil, go_sem]) <;> rfl) ?_).stp)
        rintro _ _ ⟨rfl, rfl⟩
        (simp only [aInts, aSets, List.append_nil, List.nil_append, List.length_map, go_sem]; refine hK1 _ ?_; clear hK1 K1)
        (repeat (first | (refine aw_seq ?_; intro K hK) | refine aw_block ?_ | refine aw_region ?_ | (refine lst_x rfl rfl ?_; intro K1 hK1; simp only [go_sem, hv, Bool.not_true, c1, tRows_len]; (first | refine hK1 _ ?_ | refine andk (hK1 _ ?_)); clear hK1 K1) | ((first | refine lst_nil ?_ | refine aw_skip ?_); refine hK _ ?_; clear hK K)))
        (refine aw_cnd ?_; intro X Y hX hY; simp only [go_sem])
        refine hX ?_
        clear hX hY X Y
        (repeat (first | (refine aw_seq ?_; intro K hK) | refine aw_block ?_ | refine aw_region ?_ | (refine lst_x rfl rfl ?_; intro K1 hK1; simp only [go_sem]; (first | refine hK1 _ ?_ | refine andk (hK1 _ ?_)); clear hK1 K1) | ((first | refine lst_nil ?_ | refine aw_skip ?_); refine hK _ ?_; clear hK K)))
        refine aw_le (le_nilt 6 1 ?_) ?_
        · simp only [go_sem]
        ((try refine aw_ret ?_); (try simp only [ThenA, InBl]); refine ret_le (le_pick [] rfl rfl) ?_; (try simp only [List.set_nil, List.take_nil, List.take_zero, List.map_append, go_sem]); ((try refine aw_ret ?_); (try refine lst_nil ?_); (try simp only [ThenA, InBl]); refine ret_mk (by first | exact .inl rfl | exact .inr rfl) rfl ?_; simp only [rtn, resA, resL, resV, Tryz.results16, go_sem, true_and, and_true]))
        exact ⟨[], .inl ⟨hok, rfl⟩, by simp only [aInts, tInts_nil]⟩
    · have hv2 : valB R = false := by simpa using hv
      (repeat (first | (refine aw_seq ?_; intro K hK) | refine aw_block ?_ | refine aw_region ?_ | (refine lst_x rfl rfl ?_; intro K1 hK1; simp only [go_sem]; (first | refine hK1 _ ?_ | refine andk (hK1 _ ?_)); clear hK1 K1) | ((first | refine lst_nil ?_ | refine aw_skip ?_); refine hK _ ?_; clear hK K)))
      (refine lst_cons rfl ?_; intro K1 hK1; refine (stp_call0 (ids := []) (validR_fc R (by omega) (fun r h => by have := hr r h; omega)) rfl rfl (by simp only [go_sem]) (by kernel_rfl) (by (simp only [List.append_nil, go_sem]) <;> rfl) ?_).stp)
      rintro _ _ ⟨rfl, rfl⟩
      (simp only [aInts, aSets, List.append_nil, List.nil_append, List.length_map, go_sem]; refine hK1 _ ?_; clear hK1 K1)
      (repeat (first | (refine aw_seq ?_; intro K hK) | refine aw_block ?_ | refine aw_region ?_ | (refine lst_x rfl rfl ?_; intro K1 hK1; simp only [go_sem, hv2, Bool.not_false, tRows_len]; (first | refine hK1 _ ?_ | refine andk (hK1 _ ?_)); clear hK1 K1) | ((first | refine lst_nil ?_ | refine aw_skip ?_); refine hK _ ?_; clear hK K)))
      (refine aw_cnd ?_; intro X Y hX hY; simp only [go_sem])
      refine hX ?_
      clear hX hY X Y
      (repeat (first | (refine aw_seq ?_; intro K hK) | refine aw_block ?_ | refine aw_region ?_ | (refine lst_x rfl rfl ?_; intro K1 hK1; simp only [go_sem]; (first | refine hK1 _ ?_ | refine andk (hK1 _ ?_)); clear hK1 K1) | ((first | refine lst_nil ?_ | refine aw_skip ?_); refine hK _ ?_; clear hK K)))
      refine aw_le (le_nilt 6 1 ?_) ?_
      · simp only [go_sem]
      ((try refine aw_ret ?_); (try simp only [ThenA, InBl]); refine ret_le (le_pick [] rfl rfl) ?_; (try simp only [List.set_nil, List.take_nil, List.take_zero, List.map_append, go_sem]); ((try refine aw_ret ?_); (try refine lst_nil ?_); (try simp only [ThenA, InBl]); refine ret_mk (by first | exact .inl rfl | exact .inr rfl) rfl ?_; simp only [rtn, resA, resL, resV, Tryz.results16, go_sem, true_and, and_true]))
      exact ⟨[], .inl ⟨hok, rfl⟩, by simp only [aInts, tInts_nil]⟩
  | true =>
    have hok2 := hok
    unfold arrOk at hok2
    simp only [Bool.and_eq_true, decide_eq_true_eq] at hok2
    obtain ⟨⟨⟨⟨hv, h1⟩, h2⟩, h3⟩, h4⟩ := hok2
    have hlo : looB R = true := decide_eq_true (of_decide_eq_true hv).1
    have hbd := (of_decide_eq_true hlo).2.2.2
    have c1 : decide (s < 0) = false := decide_eq_false (by omega)
    have c2 : decide (s ≥ (R.length : Int)) = false := decide_eq_false (by omega)
    have c3 : decide (e < 0) = false := decide_eq_false (by omega)
    have c4 : decide (e > 1025) = false := decide_eq_false (by omega)
    obtain ⟨sn, hsn⟩ : ∃ sn : Nat, s = (sn : Int) := ⟨s.toNat, by omega⟩
    subst hsn
    have hsl : sn < R.length := by omega
    (repeat (first | (refine aw_seq ?_; intro K hK) | refine aw_block ?_ | refine aw_region ?_ | (refine lst_x rfl rfl ?_; intro K1 hK1; simp only [go_sem]; (first | refine hK1 _ ?_ | refine andk (hK1 _ ?_)); clear hK1 K1) | ((first | refine lst_nil ?_ | refine aw_skip ?_); refine hK _ ?_; clear hK K)))
    (refine lst_cons rfl ?_; intro K1 hK1; refine (stp_call0 (ids := []) (validR_fc R (by omega) (fun r h => by have := hr r h; omega)) rfl rfl (by simp only [go_sem]) (by kernel_rfl) (by (simp only [List.append_nil, go_sem]) <;> rfl) ?_).stp)
    rintro _ _ ⟨rfl, rfl⟩
    (simp only [aInts, aSets, List.append_nil, List.nil_append, List.length_map, go_sem]; refine hK1 _ ?_; clear hK1 K1)
    (repeat (first | (refine aw_seq ?_; intro K hK) | refine aw_block ?_ | refine aw_region ?_ | (refine lst_x rfl rfl ?_; intro K1 hK1; simp only [go_sem, hv, Bool.not_true, c1, c2, c3, c4, tRows_len]; (first | refine hK1 _ ?_ | refine andk (hK1 _ ?_)); clear hK1 K1) | ((first | refine lst_nil ?_ | refine aw_skip ?_); refine hK _ ?_; clear hK K)))
    (refine aw_cnd ?_; intro X Y hX hY; simp only [go_sem])
    refine hY ?_
    clear hX hY X Y
    (repeat (first | (refine aw_seq ?_; intro K hK) | refine aw_block ?_ | refine aw_region ?_ | (refine lst_x rfl rfl ?_; intro K1 hK1; simp only [go_sem]; (first | refine hK1 _ ?_ | refine andk (hK1 _ ?_)); clear hK1 K1) | ((first | refine lst_nil ?_ | refine aw_skip ?_); refine hK _ ?_; clear hK K)))
    (refine lst_le (le_frz (r := ⟨3, 1, true, cInts [(sn : Int)]⟩) 1 (tInts [(sn : Int)]) rfl (fz_c _) (show 0 < (1 : Nat) by omega)) ?_; simp only [ST.frz, A0.frz, AV.frz, C.frz, Nat.le_refl, List.set_cons_zero, List.set_cons_succ, go_sem, show (tInts [(sn : Int)]).take 1 = tInts [(sn : Int)] from rfl])
    (refine lst_cons rfl ?_; intro K1 hK1; refine (stp_call0 (ids := []) (reach_fc R sn true hv hsl hn hr) rfl rfl (by simp only [go_sem]) (by kernel_rfl) (by (simp only [List.append_nil, go_sem]) <;> rfl) ?_).stp)
    rintro _ _ ⟨B, hB, hBr, L, hL, rfl, rfl⟩
    (simp only [aInts, aSets, rInts, cInts_up, List.append_nil, List.nil_append, List.length_map, go_sem]; refine hK1 _ ?_; clear hK1 K1)
    obtain ⟨M, hMd⟩ : ∃ M, M = ordN R.length (seenB B) := ⟨_, rfl⟩
    have hM : reS R sn M := ⟨seenB B, fun u hu => by rw [hBr, adj_eq true hv], hMd⟩
    have hLM : L = M.map Int.ofNat := by rw [hL, hMd]; rfl
    have hMl := reS_lt hM
    have hLl : L.length = M.length := by rw [hLM, List.length_map]
    have htk : (tInts L).take L.length = tInts L := List.take_of_length_le (by rw [tInts_len]; exact Nat.le_refl _)
    by_cases he : e = 0
    · have d0 : (e == 0) = true := by simp [he]
      (repeat (first | (refine aw_seq ?_; intro K hK) | refine aw_block ?_ | refine aw_region ?_ | (refine lst_x rfl rfl ?_; intro K1 hK1; simp only [go_sem, d0]; (first | refine hK1 _ ?_ | refine andk (hK1 _ ?_)); clear hK1 K1) | ((first | refine lst_nil ?_ | refine aw_skip ?_); refine hK _ ?_; clear hK K)))
      (refine aw_cnd ?_; intro X Y hX hY; simp only [go_sem])
      refine hX ?_
      clear hX hY X Y
      (repeat (first | (refine aw_seq ?_; intro K hK) | refine aw_block ?_ | refine aw_region ?_ | (refine lst_x rfl rfl ?_; intro K1 hK1; simp only [go_sem]; (first | refine hK1 _ ?_ | refine andk (hK1 _ ?_)); clear hK1 K1) | ((first | refine lst_nil ?_ | refine aw_skip ?_); refine hK _ ?_; clear hK K)))
      ((try refine aw_ret ?_); (try simp only [ThenA, InBl]); refine ret_le (le_frz (r := ⟨3, 1, true, cInts L⟩) 2 (tInts L) rfl (fz_c _) (show 0 < (1 : Nat) by omega)) ?_; refine ret_le (le_pick [] rfl rfl) ?_; simp only [ST.frz, A0.frz, AV.frz, C.frz, Nat.le_refl, List.set_cons_zero, List.set_cons_succ, go_sem, tInts_len, htk]; (try simp only [List.set_nil, List.take_nil, List.take_zero, List.map_append, go_sem]); ((try refine aw_ret ?_); (try refine lst_nil ?_); (try simp only [ThenA, InBl]); refine ret_mk (by first | exact .inl rfl | exact .inr rfl) rfl ?_; simp only [rtn, resA, resL, resV, Tryz.results16, go_sem, true_and, and_true, tInts_len, htk]))
      exact ⟨_, .inr ⟨hok, M, hM, .inl ⟨he, hLM⟩⟩, rfl⟩
    · have d0 : (e == 0) = false := by simpa using he
      (repeat (first | (refine aw_seq ?_; intro K hK) | refine aw_block ?_ | refine aw_region ?_ | (refine lst_x rfl rfl ?_; intro K1 hK1; simp only [go_sem, d0]; (first | refine hK1 _ ?_ | refine andk (hK1 _ ?_)); clear hK1 K1) | ((first | refine lst_nil ?_ | refine aw_skip ?_); refine hK _ ?_; clear hK K)))
      (refine aw_cnd ?_; intro X Y hX hY; simp only [go_sem])
      refine hY ?_
      clear hX hY X Y
      (repeat (first | (refine aw_seq ?_; intro K hK) | refine aw_block ?_ | refine aw_region ?_ | (refine lst_x rfl rfl ?_; intro K1 hK1; simp only [go_sem]; (first | refine hK1 _ ?_ | refine andk (hK1 _ ?_)); clear hK1 K1) | ((first | refine lst_nil ?_ | refine aw_skip ?_); refine hK _ ?_; clear hK K)))
      refine aw_le (le_nilt 8 1 ?_) ?_
      · simp only [go_sem]
      refine aw_loop (fun i : Nat => { tm := [(2, .i e), (3, .a (.c (.p 0 0))), (7, .a (.c (.s 2 L.length))), (8, .a (.c (.t 1 (tInts (tgI R (M.take i) e []))))), (9, .i i)], hp := [.r ⟨25, 1, false, [.t 1 (tRows R)]⟩, .d, .r ⟨3, 1, true, cInts L⟩], n := 88, pin := 0 }) (fun i => i ≤ L.length) (fun i => L.length - i) 0 ?_ ?_ ?_
      · omega
      · simp only [List.take_zero, tgI, List.foldl_nil, tInts_nil]
        (refine le_tm ?_; simp only [LeTm, go_sem]; try simp)
      · rintro i hi K hK
        by_cases hlt : i < L.length
        · have d1 : decide ((i : Int) < (L.length : Int)) = true := by simpa using hlt
          have hiM : i < M.length := by omega
          have gL : (cInts L)[i]? = some (.v (.int .i64 (M[i] : Int))) := cInts_get (by rw [hLM, List.getElem?_map, List.getElem?_eq_getElem hiM]; rfl)
          have hul := hMl.1 _ (List.getElem_mem hiM)
          have hTk : M.take (i + 1) = M.take i ++ [M[i]] := List.take_succ_eq_append_getElem hiM
          have hsub : ∀ v ∈ M.take i, v < R.length := fun v hv => hMl.1 v (List.mem_of_mem_take hv)
          generalize M[i] = u at *
          have hgR := List.getElem?_eq_getElem hul
          have hrl := hr _ (List.getElem_mem hul)
          have hRu : R.getD u [] = R[u] := by rw [List.getD_eq_getElem?_getD, hgR]; rfl
          have hbr := hbd _ (List.getElem_mem hul)
          generalize hrr : R[u] = row at *
          have hacc : Asc (tgI R (M.take i) e []) ∧ ∀ x ∈ tgI R (M.take i) e [], 0 ≤ x ∧ x < (R.length : Int) := by
            refine ⟨tgI_asc _ _ List.Pairwise.nil, fun x hx => ?_⟩
            rw [mem_tgI] at hx
            rcases hx with h | ⟨s, hs, a, ha, _, rfl⟩
            · simp at h
            · have hsl2 := hsub s hs
              rw [List.getD_eq_getElem?_getD, List.getElem?_eq_getElem hsl2, Option.getD_some] at ha
              have := hbd _ (List.getElem_mem hsl2) a ha
              exact ⟨this.2.2.1, this.2.2.2⟩
          have hnx : tgI R (M.take (i + 1)) e [] = tgi1 row e (tgI R (M.take i) e []) := by rw [hTk, tgI_snoc, hRu]
          generalize tgI R (M.take i) e [] = acc at *
          have hKo := hK
          (repeat (first | (refine aw_seq ?_; intro K hK) | refine aw_block ?_ | refine aw_region ?_ | (refine lst_x rfl rfl ?_; intro K1 hK1; simp only [go_sem, d1, cInts_len]; (first | refine hK1 _ ?_ | refine andk (hK1 _ ?_)); clear hK1 K1) | ((first | refine lst_nil ?_ | refine aw_skip ?_); refine hK _ ?_; clear hK K)))
          (refine aw_cnd ?_; intro X Y hX hY; simp only [go_sem])
          refine hX ?_
          clear hX hY X Y
          (repeat (first | (refine aw_seq ?_; intro K hK) | refine aw_block ?_ | refine aw_region ?_ | (refine lst_x rfl rfl ?_; intro K1 hK1; simp only [go_sem]; (first | refine hK1 _ ?_ | refine andk (hK1 _ ?_)); clear hK1 K1) | ((first | refine lst_nil ?_ | refine aw_skip ?_); refine hK _ ?_; clear hK K)))
          refine aw_loop (fun k : Nat => { tm := [(2, .i e), (3, .a (.c (.p 0 0))), (7, .a (.c (.s 2 L.length))), (8, .a (.c (.t 1 (tInts (tgi1 (row.take k) e acc))))), (9, .i i), (10, .i k)], hp := [.r ⟨25, 1, false, [.t 1 (tRows R)]⟩, .d, .r ⟨3, 1, true, cInts L⟩], n := 88, pin := 0 }) (fun k => k ≤ row.length) (fun k => row.length - k) 0 ?_ ?_ ?_
          · omega
          · simp only [List.take_zero, tgi1, List.foldl_nil]
            (refine le_tm ?_; simp only [LeTm, go_sem]; try simp)
          · rintro k hk K hK
            by_cases hlt2 : k < row.length
            · have d2 : decide ((k : Int) < (row.length : Int)) = true := by simpa using hlt2
              have ha0 := tArcs_c0 hlt2
              have ha1 := tArcs_c1 hlt2
              have hsn := tgi1_snoc (row.take k) e acc row[k]
              rw [← List.take_succ_eq_append_getElem hlt2] at hsn
              have hql : (tgi1 (row.take k) e acc).length ≤ R.length := asc_bd (tgi1_asc _ _ hacc.1) fun x hx => by
                rw [mem_tgi1] at hx
                rcases hx with h | ⟨a, ha, _, rfl⟩
                · exact hacc.2 x h
                · have := hbr a (List.mem_of_mem_take ha)
                  exact ⟨this.2.2.1, this.2.2.2⟩
              generalize tgi1 (row.take k) e acc = q at *
              (repeat (first | (refine aw_seq ?_; intro K hK) | refine aw_block ?_ | refine aw_region ?_ | (refine lst_x rfl rfl ?_; intro K1 hK1; simp only [go_sem]; (first | refine hK1 _ ?_ | refine andk (hK1 _ ?_)); clear hK1 K1) | ((first | refine lst_nil ?_ | refine aw_skip ?_); refine hK _ ?_; clear hK K)))
              (refine aw_regionU 10 [(0, 0), (1, 0), (2, 1), (3, 0), (4, 0), (5, 0), (6, 1), (7, 0), (8, 1), (9, 0), (10, 2)] (by kernel_rfl) (by kernel_rfl) (by intro c st h; simp [ThenA, InBl, Ret] at h) ?_)
              (repeat (first | ((first | refine u_0x rfl rfl rfl ?_ | refine u_1x rfl rfl rfl ?_); intro K1 hK1; simp only [go_sem, tRows_len, tRows_get hgR, cInts_len, gL, tArcs_len, half2, d2]; (first | refine hK1 _ ?_ | refine andk (hK1 _ ?_)); clear hK1 K1) | (refine u_2x rfl rfl rfl rfl ?_; intro K1 hK1; simp only [go_sem, tRows_len, tRows_get hgR, cInts_len, gL, tArcs_len, half2, d2]; (first | refine hK1 _ ?_ | refine andk (hK1 _ ?_)); clear hK1 K1) | (refine u_nil ?_; refine hK _ ?_; clear hK K)))
              (refine aw_cnd ?_; intro X Y hX hY; simp only [go_sem])
              refine hX ?_
              clear hX hY X Y
              (repeat (first | (refine aw_seq ?_; intro K hK) | refine aw_block ?_ | refine aw_region ?_ | (refine lst_x rfl rfl ?_; intro K1 hK1; simp only [go_sem]; (first | refine hK1 _ ?_ | refine andk (hK1 _ ?_)); clear hK1 K1) | ((first | refine lst_nil ?_ | refine aw_skip ?_); refine hK _ ?_; clear hK K)))
              by_cases hae : row[k].1 = e
              · have d3 : (row[k].1 == e) = true := by simpa using hae
                rw [if_pos hae] at hsn
                (refine aw_regionU 13 [(0, 0), (1, 1), (2, 0), (3, 0), (4, 0), (5, 1), (6, 0), (7, 1), (8, 0), (9, 0), (10, 0), (11, 1), (12, 0), (13, 2)] (by kernel_rfl) (by kernel_rfl) (by intro c st h; simp [ThenA, InBl, Ret] at h) ?_)
                (repeat (first | ((first | refine u_0x rfl rfl rfl ?_ | refine u_1x rfl rfl rfl ?_); intro K1 hK1; simp only [go_sem, tRows_len, tRows_get hgR, cInts_len, gL, tArcs_len, half2, ha0, d3]; (first | refine hK1 _ ?_ | refine andk (hK1 _ ?_)); clear hK1 K1) | (refine u_2x rfl rfl rfl rfl ?_; intro K1 hK1; simp only [go_sem, tRows_len, tRows_get hgR, cInts_len, gL, tArcs_len, half2, ha0, d3]; (first | refine hK1 _ ?_ | refine andk (hK1 _ ?_)); clear hK1 K1) | (refine u_nil ?_; refine hK _ ?_; clear hK K)))
                (refine aw_cnd ?_; intro X Y hX hY; simp only [go_sem])
                refine hX ?_
                clear hX hY X Y
                (repeat (first | (refine aw_seq ?_; intro K hK) | refine aw_block ?_ | refine aw_region ?_ | (refine lst_x rfl rfl ?_; intro K1 hK1; simp only [go_sem]; (first | refine hK1 _ ?_ | refine andk (hK1 _ ?_)); clear hK1 K1) | ((first | refine lst_nil ?_ | refine aw_skip ?_); refine hK _ ?_; clear hK K)))
                (refine aw_regionU 13 [(0, 0), (1, 0), (2, 1), (3, 0), (4, 0), (5, 0), (6, 1), (7, 0), (8, 1), (9, 0), (10, 0), (11, 0), (12, 1), (13, 2), (14, 0)] (by kernel_rfl) (by kernel_rfl) (by intro c st h; simp [ThenA, InBl, Ret] at h) ?_)
                (repeat (first | ((first | refine u_0x rfl rfl rfl ?_ | refine u_1x rfl rfl rfl ?_); intro K1 hK1; simp only [go_sem, tRows_len, tRows_get hgR, cInts_len, gL, tArcs_len, half2, ha1]; (first | refine hK1 _ ?_ | refine andk (hK1 _ ?_)); clear hK1 K1) | (refine u_2x rfl rfl rfl rfl ?_; intro K1 hK1; simp only [go_sem, tRows_len, tRows_get hgR, cInts_len, gL, tArcs_len, half2, ha1]; (first | refine hK1 _ ?_ | refine andk (hK1 _ ?_)); clear hK1 K1) | (refine u_nil ?_; refine hK _ ?_; clear hK K)))
                (refine u_w rfl rfl rfl ?_; intro K1 hK1; refine (stp_call0 (ids := []) (addT_fc q row[k].2 (by omega)) rfl rfl (by simp only [go_sem]) (by kernel_rfl) (by (simp only [List.append_nil, go_sem]) <;> rfl) ?_).stp)
                rintro _ _ ⟨rfl, rfl⟩
                (simp only [aInts, aSets, List.append_nil, List.nil_append, List.length_map, go_sem]; refine hK1 _ ?_; clear hK1 K1)
                (repeat (first | ((first | refine u_0x rfl rfl rfl ?_ | refine u_1x rfl rfl rfl ?_); intro K1 hK1; simp only [go_sem]; (first | refine hK1 _ ?_ | refine andk (hK1 _ ?_)); clear hK1 K1) | (refine u_2x rfl rfl rfl rfl ?_; intro K1 hK1; simp only [go_sem]; (first | refine hK1 _ ?_ | refine andk (hK1 _ ?_)); clear hK1 K1) | (refine u_nil ?_; refine hK _ ?_; clear hK K)))
                (repeat (first | (refine aw_seq ?_; intro K hK) | refine aw_block ?_ | refine aw_region ?_ | (refine lst_x rfl rfl ?_; intro K1 hK1; simp only [go_sem]; (first | refine hK1 _ ?_ | refine andk (hK1 _ ?_)); clear hK1 K1) | ((first | refine lst_nil ?_ | refine aw_skip ?_); refine hK _ ?_; clear hK K)))
                ((try refine lst_nil ?_); (try refine aw_skip ?_); try simp only [ThenA])
                refine hK _ (k + 1) (by omega) (by omega) ?_
                rw [hsn]
                (refine le_tm ?_; simp only [LeTm, go_sem]; try simp)
              · have d3 : (row[k].1 == e) = false := by simpa using hae
                rw [if_neg hae] at hsn
                (refine aw_regionU 13 [(0, 0), (1, 1), (2, 0), (3, 0), (4, 0), (5, 1), (6, 0), (7, 1), (8, 0), (9, 0), (10, 0), (11, 1), (12, 0), (13, 2)] (by kernel_rfl) (by kernel_rfl) (by intro c st h; simp [ThenA, InBl, Ret] at h) ?_)
                (repeat (first | ((first | refine u_0x rfl rfl rfl ?_ | refine u_1x rfl rfl rfl ?_); intro K1 hK1; simp only [go_sem, tRows_len, tRows_get hgR, cInts_len, gL, tArcs_len, half2, ha0, d3]; (first | refine hK1 _ ?_ | refine andk (hK1 _ ?_)); clear hK1 K1) | (refine u_2x rfl rfl rfl rfl ?_; intro K1 hK1; simp only [go_sem, tRows_len, tRows_get hgR, cInts_len, gL, tArcs_len, half2, ha0, d3]; (first | refine hK1 _ ?_ | refine andk (hK1 _ ?_)); clear hK1 K1) | (refine u_nil ?_; refine hK _ ?_; clear hK K)))
                (refine aw_cnd ?_; intro X Y hX hY; simp only [go_sem])
                refine hY ?_
                clear hX hY X Y
                (repeat (first | (refine aw_seq ?_; intro K hK) | refine aw_block ?_ | refine aw_region ?_ | (refine lst_x rfl rfl ?_; intro K1 hK1; simp only [go_sem]; (first | refine hK1 _ ?_ | refine andk (hK1 _ ?_)); clear hK1 K1) | ((first | refine lst_nil ?_ | refine aw_skip ?_); refine hK _ ?_; clear hK K)))
                ((try refine lst_nil ?_); (try refine aw_skip ?_); try simp only [ThenA])
                refine hK _ (k + 1) (by omega) (by omega) ?_
                rw [hsn]
                (refine le_tm ?_; simp only [LeTm, go_sem]; try simp)
            · have d2 : decide ((k : Int) < (row.length : Int)) = false := by simpa using hlt2
              have htr : row.take k = row := List.take_of_length_le (by omega)
              rw [htr, ← hnx]
              (repeat (first | (refine aw_seq ?_; intro K hK) | refine aw_block ?_ | refine aw_region ?_ | (refine lst_x rfl rfl ?_; intro K1 hK1; simp only [go_sem]; (first | refine hK1 _ ?_ | refine andk (hK1 _ ?_)); clear hK1 K1) | ((first | refine lst_nil ?_ | refine aw_skip ?_); refine hK _ ?_; clear hK K)))
              (refine aw_regionU 10 [(0, 0), (1, 0), (2, 1), (3, 0), (4, 0), (5, 0), (6, 1), (7, 0), (8, 1), (9, 0), (10, 2)] (by kernel_rfl) (by kernel_rfl) (by intro c st h; simp [ThenA, InBl, Ret] at h) ?_)
              (repeat (first | ((first | refine u_0x rfl rfl rfl ?_ | refine u_1x rfl rfl rfl ?_); intro K1 hK1; simp only [go_sem, tRows_len, tRows_get hgR, cInts_len, gL, tArcs_len, half2, d2]; (first | refine hK1 _ ?_ | refine andk (hK1 _ ?_)); clear hK1 K1) | (refine u_2x rfl rfl rfl rfl ?_; intro K1 hK1; simp only [go_sem, tRows_len, tRows_get hgR, cInts_len, gL, tArcs_len, half2, d2]; (first | refine hK1 _ ?_ | refine andk (hK1 _ ?_)); clear hK1 K1) | (refine u_nil ?_; refine hK _ ?_; clear hK K)))
              (refine aw_cnd ?_; intro X Y hX hY; simp only [go_sem])
              refine hY ?_
              clear hX hY X Y
              (refine aw_exit ?_; simp only [ThenA, InBl, reduceIte, Nat.reduceEqDiff]; (first | refine hK _ ?_ | (clear hK K; refine hK _ ?_) | (clear hK K; clear hK K; refine hK _ ?_) | (clear hK K; clear hK K; clear hK K; refine hK _ ?_) | (clear hK K; clear hK K; clear hK K; clear hK K; refine hK _ ?_) | (clear hK K; clear hK K; clear hK K; clear hK K; clear hK K; refine hK _ ?_)); clear hK K)
              (repeat (first | (refine aw_seq ?_; intro K hK) | refine aw_block ?_ | refine aw_region ?_ | (refine lst_x rfl rfl ?_; intro K1 hK1; simp only [go_sem]; (first | refine hK1 _ ?_ | refine andk (hK1 _ ?_)); clear hK1 K1) | ((first | refine lst_nil ?_ | refine aw_skip ?_); refine hK _ ?_; clear hK K)))
              ((try refine lst_nil ?_); (try refine aw_skip ?_); try simp only [ThenA])
              refine hKo _ (i + 1) (by omega) (by omega) ?_
              (refine le_tm ?_; simp only [LeTm, go_sem]; try simp)
        · have d1 : decide ((i : Int) < (L.length : Int)) = false := by simpa using hlt
          have htM : M.take i = M := List.take_of_length_le (by omega)
          rw [htM]
          (repeat (first | (refine aw_seq ?_; intro K hK) | refine aw_block ?_ | refine aw_region ?_ | (refine lst_x rfl rfl ?_; intro K1 hK1; simp only [go_sem, d1, cInts_len]; (first | refine hK1 _ ?_ | refine andk (hK1 _ ?_)); clear hK1 K1) | ((first | refine lst_nil ?_ | refine aw_skip ?_); refine hK _ ?_; clear hK K)))
          (refine aw_cnd ?_; intro X Y hX hY; simp only [go_sem])
          refine hY ?_
          clear hX hY X Y
          (refine aw_exit ?_; simp only [ThenA, InBl, reduceIte, Nat.reduceEqDiff]; (first | refine hK _ ?_ | (clear hK K; refine hK _ ?_) | (clear hK K; clear hK K; refine hK _ ?_) | (clear hK K; clear hK K; clear hK K; refine hK _ ?_) | (clear hK K; clear hK K; clear hK K; clear hK K; refine hK _ ?_) | (clear hK K; clear hK K; clear hK K; clear hK K; clear hK K; refine hK _ ?_)); clear hK K)
          (repeat (first | (refine aw_seq ?_; intro K hK) | refine aw_block ?_ | refine aw_region ?_ | (refine lst_x rfl rfl ?_; intro K1 hK1; simp only [go_sem]; (first | refine hK1 _ ?_ | refine andk (hK1 _ ?_)); clear hK1 K1) | ((first | refine lst_nil ?_ | refine aw_skip ?_); refine hK _ ?_; clear hK K)))
          ((try refine aw_ret ?_); (try simp only [ThenA, InBl]); refine ret_le (le_pick [] rfl rfl) ?_; (try simp only [List.set_nil, List.take_nil, List.take_zero, List.map_append, go_sem]); ((try refine aw_ret ?_); (try refine lst_nil ?_); (try simp only [ThenA, InBl]); refine ret_mk (by first | exact .inl rfl | exact .inr rfl) rfl ?_; simp only [rtn, resA, resL, resV, Tryz.results16, go_sem, true_and, and_true]))
          obtain ⟨p, hp1, hp2⟩ := tgI_eq (e := e) (fun r h a ha => by have := hbd r h a ha; exact ⟨this.2.2.1, this.2.2.2⟩) hMl.1
          exact ⟨_, .inr ⟨hok, M, hM, .inr ⟨he, p, hp1, hp2⟩⟩, rfl⟩
end Go.Proofs.YtknidjnbfnpkdaaGreat
