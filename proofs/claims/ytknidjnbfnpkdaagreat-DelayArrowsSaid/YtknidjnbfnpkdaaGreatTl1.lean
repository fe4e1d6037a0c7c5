/- TauLoops as a plain function: numbers of the components, rows joined. The silent arcs of a sorted row come first: both closures see the same graph. Add, by the machine. -/
import Derived.Test.YtknidjnbfnpkdaaGreatTj1
import Derived.Test.YtknidjnbfnpkdaaGreatG45
import Derived.Test.YtknidjnbfnpkdaaGreatMF
namespace Go.Proofs.YtknidjnbfnpkdaaGreat
set_option linter.unusedVariables false
set_option linter.unusedSimpArgs false

def tlA (f : Nat → Nat) (c : Nat) (o : List (List Ar)) (a : Ar) : List (List Ar) := o.set c (o.getD c [] ++ [(a.1, (f a.2.toNat : Int))])
theorem Rc.lt {E : Nat → List Nat} {n u v : Nat} (h : Rc E u v) (hu : u < n) (hE : ∀ x, x < n → ∀ y ∈ E x, y < n) : v < n := by
  induction h with
  | refl => exact hu
  | tail _ he ih => exact hE _ ih _ he
theorem totA_row (o : List (List Ar)) (c : Nat) : (o.getD c []).length ≤ totA o := by
  induction o generalizing c with
  | nil => simp
  | cons a r ih =>
    cases c with
    | zero => simp [totA]
    | succ c =>
      have := ih c
      simp only [List.getD_cons_succ]
      simp only [totA, List.map_cons, List.sum_cons] at this ⊢
      omega
def TlP (m : Nat) (o : List (List Ar)) : Prop := ∀ r ∈ o, ∀ a ∈ r, 0 ≤ a.1 ∧ a.1 ≤ 1025 ∧ 0 ≤ a.2 ∧ a.2 < (m : Int)
theorem TlP.one {f : Nat → Nat} {m c : Nat} {o : List (List Ar)} {a : Ar} (h : TlP m o) (ha : 0 ≤ a.1 ∧ a.1 ≤ 1025) (hf : f a.2.toNat < m) : TlP m (tlA f c o a) := by
  intro r hr b hb
  rcases List.mem_or_eq_of_mem_set hr with h1 | h1
  · exact h r h1 b hb
  · subst h1
    rcases List.mem_append.1 hb with h2 | h2
    · rw [List.getD_eq_getElem?_getD] at h2
      rcases Nat.lt_or_ge c o.length with h3 | h3
      · rw [List.getElem?_eq_getElem h3, Option.getD_some] at h2
        exact h _ (List.getElem_mem h3) b h2
      · rw [List.getElem?_eq_none h3] at h2; simp at h2
    · simp at h2; subst h2
      exact ⟨ha.1, ha.2, by simp only; omega, by simp only; omega⟩
end Go.Proofs.YtknidjnbfnpkdaaGreat
namespace Go.Proofs.YtknidjnbfnpkdaaGreat
set_option linter.unusedVariables false
set_option linter.unusedSimpArgs false

theorem tau_sorted {r : List Ar} (hs : SortA r) (h0 : ∀ a ∈ r, 0 ≤ a.1) (t : Bool) : tauF t r = tauOf t r := by
  cases t with
  | false => unfold tauF tauOf; simp
  | true =>
    unfold tauF tauOf
    rw [if_pos rfl]
    simp only [Bool.not_true, Bool.false_or]
    induction r with
    | nil => rfl
    | cons a r ih =>
      have hs2 := List.pairwise_cons.1 hs
      by_cases h : (a.1 == 0) = true
      · rw [List.filter_cons, if_pos h, List.takeWhile_cons, if_pos h, ih hs2.2 fun b hb => h0 b (List.mem_cons_of_mem _ hb)]
      · rw [List.filter_cons, if_neg h, List.takeWhile_cons, if_neg h]
        refine List.filter_eq_nil_iff.2 fun b hb => ?_
        have h1 := hs2.1 b hb
        rw [ltA_iff] at h1
        have h2 := h0 a List.mem_cons_self
        have h3 : a.1 ≠ 0 := fun e => h (by simp [e])
        have : b.1 ≠ 0 := by omega
        simpa using this
theorem adj_eq {R : List (List Ar)} (t : Bool) (hv : valB R = true) : AdjF t R = Adj t R := by
  funext v
  unfold AdjF Adj
  rcases Nat.lt_or_ge v R.length with h | h
  · rw [List.getD_eq_getElem?_getD, List.getElem?_eq_getElem h, Option.getD_some]
    have h2 := of_decide_eq_true hv
    rw [tau_sorted (h2.2 _ (List.getElem_mem h)) fun a ha => (h2.1.2.2.2 _ (List.getElem_mem h) a ha).1]
  · rw [List.getD_eq_getElem?_getD, List.getElem?_eq_none h, Option.getD_none]
    cases t <;> rfl
end Go.Proofs.YtknidjnbfnpkdaaGreat
namespace Go.Proofs.YtknidjnbfnpkdaaGreat
set_option linter.unusedVariables false
set_option linter.unusedSimpArgs false
open Go.RowKit
set_option maxRecDepth 100000

theorem addI_at {x : Int} : ∀ {xs : List Int} {k : Nat}, k ≤ xs.length → (∀ i y, i < k → xs[i]? = some y → y < x) → (∀ y, xs[k]? = some y → x < y) → addI x xs = xs.take k ++ x :: xs.drop k
  | [], k, hk, _, _ => by simp at hk; subst hk; rfl
  | y :: ys, 0, _, _, h2 => by
    have := h2 y rfl
    simp only [addI, List.take_zero, List.drop_zero, List.nil_append]
    rw [if_neg (by omega), if_neg (by omega)]
  | y :: ys, k + 1, hk, h1, h2 => by
    have := h1 0 y (by omega) rfl
    simp only [addI, List.take_succ_cons, List.drop_succ_cons, List.cons_append]
    rw [if_pos this, addI_at (by simpa using hk) (fun i z hi hz => h1 (i + 1) z (by omega) hz) (fun z hz => h2 z hz)]
theorem addI_has {x : Int} : ∀ {xs : List Int} {k : Nat}, (∀ i y, i < k → xs[i]? = some y → y < x) → xs[k]? = some x → addI x xs = xs
  | [], k, _, h => by simp at h
  | y :: ys, 0, _, h => by simp at h; simp [addI, h]
  | y :: ys, k + 1, h1, h => by
    have := h1 0 y (by omega) rfl
    simp only [addI]
    rw [if_pos this, addI_has (fun i z hi hz => h1 (i + 1) z (by omega) hz) h]

/-- Add, at a frozen list -/
theorem addT_fc (xs : List Int) (x : Int) (hn : xs.length ≤ 100000000) : FC Tryz.prog 29 [aInts xs, .i x] [] (fun r o => o = [] ∧ r = aInts (addI x xs)) := by
  refine fc_intro Tryz.func29 rfl (by rw [Tryz.ntmps29]; simp) ?_
  rw [Tryz.ntmps29]
  simp only [enum, aInts]
  (repeat (first | (refine aw_seq ?_; intro K hK) | refine aw_block ?_ | refine aw_region ?_ | (refine lst_x rfl rfl ?_; intro K1 hK1; simp only [go_sem]; (first | refine hK1 _ ?_ | refine andk (hK1 _ ?_)); clear hK1 K1) | ((first | refine lst_nil ?_ | refine aw_skip ?_); refine hK _ ?_; clear hK K)))
  refine aw_loop (fun k : Nat => { tm := [(0, .a (.c (.t 1 (tInts xs)))), (1, .i x), (5, .i k)], hp := [], n := 48, pin := 0 }) (fun k => k ≤ xs.length ∧ ∀ i y, i < k → xs[i]? = some y → y < x) (fun k => xs.length - k) 0 ?_ ?_ ?_
  · exact ⟨by omega, by intro i y hi; omega⟩
  · (refine le_tm ?_; simp only [LeTm, go_sem]; try simp)
  · rintro k ⟨hk, he⟩ K hK
    have fin : ∀ y, (∀ z, xs[k]? = some z → x < z) → y = tInts (xs.take k ++ [x] ++ xs.drop k) → y = tInts (addI x xs) := by
      intro y h1 h2
      rw [h2, addI_at hk he h1]; simp
    have hlen : (xs.take k ++ [x] ++ xs.drop k).length = k + 1 + (xs.length - k) := by simp; omega
    have hlen2 : (xs.take k).length = k := by simp; omega
    have hlen3 : (xs.take k ++ [x]).length = k + 1 := by simp; omega
    by_cases hlt : k < xs.length
    · have hl1 : decide ((k : Int) < (xs.length : Int)) = true := by simpa using hlt
      (repeat (first | (refine aw_seq ?_; intro K hK) | refine aw_block ?_ | refine aw_region ?_ | (refine lst_x rfl rfl ?_; intro K1 hK1; simp only [go_sem, hl1, tInts_len, tInts_get (List.getElem?_eq_getElem hlt)]; (first | refine hK1 _ ?_ | refine andk (hK1 _ ?_)); clear hK1 K1) | ((first | refine lst_nil ?_ | refine aw_skip ?_); refine hK _ ?_; clear hK K)))
      (refine aw_cnd ?_; intro X Y hX hY; simp only [go_sem])
      refine ⟨fun h => hX ?_, fun h => hY ?_⟩
      · clear hX hY X Y
        (repeat (first | (refine aw_seq ?_; intro K hK) | refine aw_block ?_ | refine aw_region ?_ | (refine lst_x rfl rfl ?_; intro K1 hK1; simp only [go_sem]; (first | refine hK1 _ ?_ | refine andk (hK1 _ ?_)); clear hK1 K1) | ((first | refine lst_nil ?_ | refine aw_skip ?_); refine hK _ ?_; clear hK K)))
        ((try refine lst_nil ?_); (try refine aw_skip ?_); try simp only [ThenA])
        refine hK _ (k + 1) ⟨by omega, fun i y hi hy => ?_⟩ (by omega) ?_
        · by_cases e : i = k
          · subst e; rw [List.getElem?_eq_getElem hlt] at hy; cases hy; simpa using h
          · exact he i y (by omega) hy
        · (refine le_tm ?_; simp only [LeTm, go_sem]; try simp)
      · have hle : x ≤ xs[k] := by simpa using h
        clear hX hY X Y
        (refine aw_exit ?_; simp only [ThenA, InBl, reduceIte, Nat.reduceEqDiff]; (first | refine hK _ ?_ | (clear hK K; refine hK _ ?_) | (clear hK K; clear hK K; refine hK _ ?_) | (clear hK K; clear hK K; clear hK K; refine hK _ ?_) | (clear hK K; clear hK K; clear hK K; clear hK K; refine hK _ ?_) | (clear hK K; clear hK K; clear hK K; clear hK K; clear hK K; refine hK _ ?_)); clear hK K)
        (repeat (first | (refine aw_seq ?_; intro K hK) | refine aw_block ?_ | refine aw_region ?_ | (refine lst_x rfl rfl ?_; intro K1 hK1; simp only [go_sem, hl1, tInts_len, tInts_get (List.getElem?_eq_getElem hlt)]; (first | refine hK1 _ ?_ | refine andk (hK1 _ ?_)); clear hK1 K1) | ((first | refine lst_nil ?_ | refine aw_skip ?_); refine hK _ ?_; clear hK K)))
        (refine aw_cnd ?_; intro X Y hX hY; simp only [go_sem])
        refine ⟨fun h => hX ?_, fun h => hY ?_⟩
        · clear hX hY X Y
          (repeat (first | (refine aw_seq ?_; intro K hK) | refine aw_block ?_ | refine aw_region ?_ | (refine lst_x rfl rfl ?_; intro K1 hK1; simp only [go_sem]; (first | refine hK1 _ ?_ | refine andk (hK1 _ ?_)); clear hK1 K1) | ((first | refine lst_nil ?_ | refine aw_skip ?_); refine hK _ ?_; clear hK K)))
          ((try refine aw_ret ?_); (try refine lst_nil ?_); (try simp only [ThenA, InBl]); refine ret_mk (by first | exact .inl rfl | exact .inr rfl) rfl ?_; simp only [rtn, resA, resL, resV, Tryz.results29, go_sem])
          rw [addI_has he (by rw [List.getElem?_eq_getElem hlt]; simpa using h)]
        · have hne : x < xs[k] := by simp at h; omega
          clear hX hY X Y
          (repeat (first | (refine aw_seq ?_; intro K hK) | refine aw_block ?_ | refine aw_region ?_ | (refine lst_x rfl rfl ?_; intro K1 hK1; simp only [go_sem, List.set_cons_zero, List.set_cons_succ, List.take_succ_cons, List.take_zero, List.drop_zero, List.length_take, List.length_drop, List.length_append, tInts_len, tInts_take, tInts_drop, tInts_c, cInts_len, cInts_one, cInts_snoc, cInts_app, cInts_take, cInts_drop, Nat.min_eq_left hk, List.take_of_length_le (Nat.le_of_eq hlen2), List.take_of_length_le (Nat.le_of_eq hlen3)]; (first | refine hK1 _ ?_ | refine andk (hK1 _ ?_)); clear hK1 K1) | ((first | refine lst_nil ?_ | refine aw_skip ?_); refine hK _ ?_; clear hK K)))
          ((try refine aw_ret ?_); (try simp only [ThenA, InBl]); refine ret_le (le_frz (r := ⟨3, 1, true, cInts (xs.take k ++ [x] ++ xs.drop k)⟩) 4 (tInts (xs.take k ++ [x] ++ xs.drop k)) rfl (fz_c _) (show 0 < (1 : Nat) by omega)) ?_; refine ret_le (le_pick [] rfl rfl) ?_; simp only [ST.frz, A0.frz, AV.frz, C.frz, Nat.le_refl, List.set_cons_zero, List.set_cons_succ, go_sem, tInts_len, hlen, Nat.le_refl, tInts_take, List.take_of_length_le (Nat.le_of_eq hlen)]; (try simp only [List.set_nil, List.take_nil, List.take_zero, List.map_append, go_sem]); ((try refine aw_ret ?_); (try refine lst_nil ?_); (try simp only [ThenA, InBl]); refine ret_mk (by first | exact .inl rfl | exact .inr rfl) rfl ?_; simp only [rtn, resA, resL, resV, Tryz.results29, go_sem, true_and, and_true, tInts_len, hlen, Nat.le_refl, tInts_take, List.take_of_length_le (Nat.le_of_eq hlen)]))
          rw [fin _ (fun z hz => by rw [List.getElem?_eq_getElem hlt] at hz; cases hz; exact hne) rfl]
    · have hl1 : decide ((k : Int) < (xs.length : Int)) = false := by simpa using hlt
      (repeat (first | (refine aw_seq ?_; intro K hK) | refine aw_block ?_ | refine aw_region ?_ | (refine lst_x rfl rfl ?_; intro K1 hK1; simp only [go_sem, hl1, tInts_len]; (first | refine hK1 _ ?_ | refine andk (hK1 _ ?_)); clear hK1 K1) | ((first | refine lst_nil ?_ | refine aw_skip ?_); refine hK _ ?_; clear hK K)))
      (refine aw_cnd ?_; intro X Y hX hY; simp only [go_sem])
      refine hY ?_
      clear hX hY X Y
      (refine aw_exit ?_; simp only [ThenA, InBl, reduceIte, Nat.reduceEqDiff]; (first | refine hK _ ?_ | (clear hK K; refine hK _ ?_) | (clear hK K; clear hK K; refine hK _ ?_) | (clear hK K; clear hK K; clear hK K; refine hK _ ?_) | (clear hK K; clear hK K; clear hK K; clear hK K; refine hK _ ?_) | (clear hK K; clear hK K; clear hK K; clear hK K; clear hK K; refine hK _ ?_)); clear hK K)
      (repeat (first | (refine aw_seq ?_; intro K hK) | refine aw_block ?_ | refine aw_region ?_ | (refine lst_x rfl rfl ?_; intro K1 hK1; simp only [go_sem, hl1, tInts_len]; (first | refine hK1 _ ?_ | refine andk (hK1 _ ?_)); clear hK1 K1) | ((first | refine lst_nil ?_ | refine aw_skip ?_); refine hK _ ?_; clear hK K)))
      (refine aw_cnd ?_; intro X Y hX hY; simp only [go_sem])
      refine hY ?_
      clear hX hY X Y
      (repeat (first | (refine aw_seq ?_; intro K hK) | refine aw_block ?_ | refine aw_region ?_ | (refine lst_x rfl rfl ?_; intro K1 hK1; simp only [go_sem, List.set_cons_zero, List.set_cons_succ, List.take_succ_cons, List.take_zero, List.drop_zero, List.length_take, List.length_drop, List.length_append, tInts_len, tInts_take, tInts_drop, tInts_c, cInts_len, cInts_one, cInts_snoc, cInts_app, cInts_take, cInts_drop, Nat.min_eq_left hk, List.take_of_length_le (Nat.le_of_eq hlen2), List.take_of_length_le (Nat.le_of_eq hlen3)]; (first | refine hK1 _ ?_ | refine andk (hK1 _ ?_)); clear hK1 K1) | ((first | refine lst_nil ?_ | refine aw_skip ?_); refine hK _ ?_; clear hK K)))
      ((try refine aw_ret ?_); (try simp only [ThenA, InBl]); refine ret_le (le_frz (r := ⟨3, 1, true, cInts (xs.take k ++ [x] ++ xs.drop k)⟩) 4 (tInts (xs.take k ++ [x] ++ xs.drop k)) rfl (fz_c _) (show 0 < (1 : Nat) by omega)) ?_; refine ret_le (le_pick [] rfl rfl) ?_; simp only [ST.frz, A0.frz, AV.frz, C.frz, Nat.le_refl, List.set_cons_zero, List.set_cons_succ, go_sem, tInts_len, hlen, Nat.le_refl, tInts_take, List.take_of_length_le (Nat.le_of_eq hlen)]; (try simp only [List.set_nil, List.take_nil, List.take_zero, List.map_append, go_sem]); ((try refine aw_ret ?_); (try refine lst_nil ?_); (try simp only [ThenA, InBl]); refine ret_mk (by first | exact .inl rfl | exact .inr rfl) rfl ?_; simp only [rtn, resA, resL, resV, Tryz.results29, go_sem, true_and, and_true, tInts_len, hlen, Nat.le_refl, tInts_take, List.take_of_length_le (Nat.le_of_eq hlen)]))
      rw [fin _ (fun z hz => by rw [List.getElem?_eq_none (by omega)] at hz; cases hz) rfl]

end Go.Proofs.YtknidjnbfnpkdaaGreat
