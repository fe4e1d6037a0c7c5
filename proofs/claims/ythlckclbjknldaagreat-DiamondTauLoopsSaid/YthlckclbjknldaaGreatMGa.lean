/- cmp.Compare; small words. Plain words: compared pairs, ascending rows, valid systems, orders. -/
import Derived.Test.YthlckclbjknldaaGreatMF
namespace Go.Proofs.YthlckclbjknldaaGreat
set_option linter.unusedVariables false
set_option linter.unusedSimpArgs false
open Go.RowKit
set_option maxRecDepth 100000

theorem isNaN_fc (x : Int) : FC Tryz.prog 139 [.i x] [] (fun r o => o = [] ∧ r = .b false) := by
  refine fc_intro Tryz.func139 rfl (by rw [Tryz.ntmps139]; simp) ?_
  rw [Tryz.ntmps139]
  simp only [enum]
  (repeat (first | (refine aw_seq ?_; intro K hK) | refine aw_block ?_ | refine aw_region ?_ | (refine lst_x rfl rfl ?_; intro K1 hK1; simp only [go_sem, bne_self_eq_false]; (first | refine hK1 _ ?_ | refine andk (hK1 _ ?_)); clear hK1 K1) | ((first | refine lst_nil ?_ | refine aw_skip ?_); refine hK _ ?_; clear hK K)))
  ((try refine aw_ret ?_); (try refine lst_nil ?_); (try simp only [ThenA, InBl]); refine ret_mk (by first | exact .inl rfl | exact .inr rfl) rfl ?_; simp only [rtn, resA, resL, resV, Tryz.results139, go_sem])
def cmpI (a b : Int) : Int := if a < b then -1 else if a > b then 1 else 0
theorem cmp_fc (x y : Int) : FC Tryz.prog 101 [.i x, .i y] [] (fun r o => o = [] ∧ r = .i (cmpI x y)) := by
  refine fc_intro Tryz.func101 rfl (by rw [Tryz.ntmps101]; simp) ?_
  rw [Tryz.ntmps101]
  simp only [enum]
  (repeat (first | (refine aw_seq ?_; intro K hK) | refine aw_block ?_ | refine aw_region ?_ | (refine lst_x rfl rfl ?_; intro K1 hK1; simp only [go_sem]; (first | refine hK1 _ ?_ | refine andk (hK1 _ ?_)); clear hK1 K1) | ((first | refine lst_nil ?_ | refine aw_skip ?_); refine hK _ ?_; clear hK K)))
  (refine lst_cons rfl ?_; intro K1 hK1; refine (stp_call0 (ids := []) (isNaN_fc x) rfl rfl (by simp only [go_sem]) (by kernel_rfl) (by (simp only [List.append_nil, go_sem]) <;> rfl) ?_).stp)
  rintro _ _ ⟨rfl, rfl⟩
  (simp only [aInts, aSets, List.append_nil, List.nil_append, List.length_map, go_sem]; refine hK1 _ ?_; clear hK1 K1)
  (repeat (first | (refine aw_seq ?_; intro K hK) | refine aw_block ?_ | refine aw_region ?_ | (refine lst_x rfl rfl ?_; intro K1 hK1; simp only [go_sem]; (first | refine hK1 _ ?_ | refine andk (hK1 _ ?_)); clear hK1 K1) | ((first | refine lst_nil ?_ | refine aw_skip ?_); refine hK _ ?_; clear hK K)))
  (refine lst_cons rfl ?_; intro K1 hK1; refine (stp_call0 (ids := []) (isNaN_fc y) rfl rfl (by simp only [go_sem]) (by kernel_rfl) (by (simp only [List.append_nil, go_sem]) <;> rfl) ?_).stp)
  rintro _ _ ⟨rfl, rfl⟩
  (simp only [aInts, aSets, List.append_nil, List.nil_append, List.length_map, go_sem]; refine hK1 _ ?_; clear hK1 K1)
  (repeat (first | (refine aw_seq ?_; intro K hK) | refine aw_block ?_ | refine aw_region ?_ | (refine lst_x rfl rfl ?_; intro K1 hK1; simp only [go_sem]; (first | refine hK1 _ ?_ | refine andk (hK1 _ ?_)); clear hK1 K1) | ((first | refine lst_nil ?_ | refine aw_skip ?_); refine hK _ ?_; clear hK K)))
  (refine aw_cnd ?_; intro X Y hX hY; simp only [go_sem])
  refine hY ?_; clear hX hY X Y
  (repeat (first | (refine aw_seq ?_; intro K hK) | refine aw_block ?_ | refine aw_region ?_ | (refine lst_x rfl rfl ?_; intro K1 hK1; simp only [go_sem]; (first | refine hK1 _ ?_ | refine andk (hK1 _ ?_)); clear hK1 K1) | ((first | refine lst_nil ?_ | refine aw_skip ?_); refine hK _ ?_; clear hK K)))
  (refine aw_cnd ?_; intro X Y hX hY; simp only [go_sem])
  refine hY ?_; clear hX hY X Y
  (repeat (first | (refine aw_seq ?_; intro K hK) | refine aw_block ?_ | refine aw_region ?_ | (refine lst_x rfl rfl ?_; intro K1 hK1; simp only [go_sem]; (first | refine hK1 _ ?_ | refine andk (hK1 _ ?_)); clear hK1 K1) | ((first | refine lst_nil ?_ | refine aw_skip ?_); refine hK _ ?_; clear hK K)))
  (refine aw_cnd ?_; intro X Y hX hY; simp only [go_sem])
  refine ⟨fun h => hX ?_, fun h => hY ?_⟩
  · clear hX hY X Y
    (repeat (first | (refine aw_seq ?_; intro K hK) | refine aw_block ?_ | refine aw_region ?_ | (refine lst_x rfl rfl ?_; intro K1 hK1; simp only [go_sem]; (first | refine hK1 _ ?_ | refine andk (hK1 _ ?_)); clear hK1 K1) | ((first | refine lst_nil ?_ | refine aw_skip ?_); refine hK _ ?_; clear hK K)))
    ((try refine aw_ret ?_); (try refine lst_nil ?_); (try simp only [ThenA, InBl]); refine ret_mk (by first | exact .inl rfl | exact .inr rfl) rfl ?_; simp only [rtn, resA, resL, resV, Tryz.results101, go_sem])
    have : x < y := by simpa using h
    simp [cmpI, this]
  · clear hX hY X Y
    have h1 : ¬ x < y := by simpa using h
    clear h
    (repeat (first | (refine aw_seq ?_; intro K hK) | refine aw_block ?_ | refine aw_region ?_ | (refine lst_x rfl rfl ?_; intro K1 hK1; simp only [go_sem]; (first | refine hK1 _ ?_ | refine andk (hK1 _ ?_)); clear hK1 K1) | ((first | refine lst_nil ?_ | refine aw_skip ?_); refine hK _ ?_; clear hK K)))
    (refine aw_cnd ?_; intro X Y hX hY; simp only [go_sem])
    refine ⟨fun h => hX ?_, fun h => hY ?_⟩
    · clear hX hY X Y
      (repeat (first | (refine aw_seq ?_; intro K hK) | refine aw_block ?_ | refine aw_region ?_ | (refine lst_x rfl rfl ?_; intro K1 hK1; simp only [go_sem]; (first | refine hK1 _ ?_ | refine andk (hK1 _ ?_)); clear hK1 K1) | ((first | refine lst_nil ?_ | refine aw_skip ?_); refine hK _ ?_; clear hK K)))
      ((try refine aw_ret ?_); (try refine lst_nil ?_); (try simp only [ThenA, InBl]); refine ret_mk (by first | exact .inl rfl | exact .inr rfl) rfl ?_; simp only [rtn, resA, resL, resV, Tryz.results101, go_sem])
      have : y < x := by simpa using h
      simp [cmpI, this, h1]
    · clear hX hY X Y
      (repeat (first | (refine aw_seq ?_; intro K hK) | refine aw_block ?_ | refine aw_region ?_ | (refine lst_x rfl rfl ?_; intro K1 hK1; simp only [go_sem]; (first | refine hK1 _ ?_ | refine andk (hK1 _ ?_)); clear hK1 K1) | ((first | refine lst_nil ?_ | refine aw_skip ?_); refine hK _ ?_; clear hK K)))
      ((try refine aw_ret ?_); (try refine lst_nil ?_); (try simp only [ThenA, InBl]); refine ret_mk (by first | exact .inl rfl | exact .inr rfl) rfl ?_; simp only [rtn, resA, resL, resV, Tryz.results101, go_sem])
      have : ¬ y < x := by simpa using h
      simp [cmpI, this, h1]
theorem drop_get {α : Type} {xs : List α} {k : Nat} (h : k < xs.length) : xs.drop k = xs[k] :: xs.drop (k + 1) := List.drop_eq_getElem_cons h
theorem lst_le {P : Program} {ops : Array Oper} {l : List Oper} {st t : ST} {K : ST → Prop} (h : Le st t) (k : Lst P ops l t K) : Lst P ops l st K := fun M0 w0 a w Q hR hN => k M0 w0 a w Q (h M0 w0 a w hR) hN
end Go.Proofs.YthlckclbjknldaaGreat
namespace Go.Proofs.YthlckclbjknldaaGreat
set_option linter.unusedVariables false
set_option linter.unusedSimpArgs false

def cmpR (a b : Ar) : Int := if cmpI a.1 b.1 ≠ 0 then cmpI a.1 b.1 else cmpI a.2 b.2
theorem cmpI_eq (a b : Int) : (a < b ∧ cmpI a b = -1) ∨ (a = b ∧ cmpI a b = 0) ∨ (b < a ∧ cmpI a b = 1) := by
  unfold cmpI
  rcases Int.lt_trichotomy a b with h | h | h
  · exact .inl ⟨h, by simp [h]⟩
  · exact .inr (.inl ⟨h, by simp [h]⟩)
  · exact .inr (.inr ⟨h, by rw [if_neg (by omega), if_pos h]⟩)
theorem cmpR_lt (a b : Ar) : decide (cmpR a b < 0) = ltA a b := by
  rw [Bool.eq_iff_iff, decide_eq_true_iff, ltA_iff]
  unfold cmpR
  rcases cmpI_eq a.1 b.1 with ⟨h, e⟩ | ⟨h, e⟩ | ⟨h, e⟩ <;> rw [e]
  · simp; omega
  · rcases cmpI_eq a.2 b.2 with ⟨h2, e2⟩ | ⟨h2, e2⟩ | ⟨h2, e2⟩ <;> rw [e2] <;> simp <;> omega
  · simp; omega
theorem cmpR_ge (a b : Ar) : decide (cmpR a b ≥ 0) = !ltA a b := by
  rw [← cmpR_lt, Bool.eq_iff_iff, decide_eq_true_iff, Bool.not_eq_true', decide_eq_false_iff_not]
  omega
instance decSortA (l : List Ar) : Decidable (SortA l) := inferInstanceAs (Decidable (List.Pairwise (fun a b => ltA a b = true) l))
theorem sortA_get {xs : List Ar} (h : ∀ i a b, xs[i]? = some a → xs[i + 1]? = some b → ltA a b = true) : SortA xs := by
  unfold SortA
  induction xs with
  | nil => exact .nil
  | cons a r ih =>
    have h2 := ih fun i x y hx hy => h (i + 1) x y (by simpa using hx) (by simpa using hy)
    rw [List.pairwise_cons]
    refine ⟨fun b hb => ?_, h2⟩
    cases r with
    | nil => simp at hb
    | cons c q =>
      have h1 := h 0 a c rfl rfl
      rcases List.mem_cons.1 hb with rfl | hb
      · exact h1
      · exact ltA_trans h1 ((List.pairwise_cons.1 h2).1 b hb)
theorem SortA.at {xs : List Ar} (h : SortA xs) {i j : Nat} {a b : Ar} (hij : i < j) (ha : xs[i]? = some a) (hb : xs[j]? = some b) : ltA a b = true := by
  have h1 := List.getElem?_eq_some_iff.1 ha
  have h2 := List.getElem?_eq_some_iff.1 hb
  have := List.pairwise_iff_getElem.1 h i j h1.1 h2.1 hij
  rwa [h1.2, h2.2] at this
theorem sortA_not {xs : List Ar} {i : Nat} {a b : Ar} (ha : xs[i]? = some a) (hb : xs[i + 1]? = some b) (h : ltA a b = false) : ¬ SortA xs := fun hs => by
  have := hs.at (by omega) ha hb
  rw [h] at this; cases this
def chanP (x : Int) : Prop := 2 ≤ x ∧ x ≤ 1025
instance decChanP (x : Int) : Decidable (chanP x) := inferInstanceAs (Decidable (_ ∧ _))
theorem tArcs_c0 {xs : List Ar} {i : Nat} (h : i < xs.length) : (tArcs xs)[i * 2]? = some (.v (.int .i64 xs[i].1)) := by
  have := tArcs_at h
  have e : ((tArcs xs).drop (i * 2))[0]? = some (.v (.int .i64 xs[i].1)) := by
    rw [← List.getElem?_take_of_lt (show 0 < 2 by omega), this]; rfl
  simpa using e
theorem tArcs_c1 {xs : List Ar} {i : Nat} (h : i < xs.length) : (tArcs xs)[i * 2 + 1]? = some (.v (.int .i64 xs[i].2)) := by
  have := tArcs_at h
  have e : ((tArcs xs).drop (i * 2))[1]? = some (.v (.int .i64 xs[i].2)) := by
    rw [← List.getElem?_take_of_lt (show 1 < 2 by omega), this]; rfl
  simpa using e
/-- a priority order -/
def OrdP (o : List Ar) : Prop := SortA o ∧ (∀ a ∈ o, chanP a.1 ∧ chanP a.2 ∧ a.1 ≠ a.2) ∧ ∀ x ∈ o, ∀ y ∈ o, y.1 = x.2 → (x.1, y.2) ∈ o
instance decOrdP (o : List Ar) : Decidable (OrdP o) := inferInstanceAs (Decidable (_ ∧ _ ∧ _))
/-- sums of lengths -/
def totA (R : List (List Ar)) : Nat := (R.map List.length).sum
theorem totA_snoc (R : List (List Ar)) (r : List Ar) : totA (R ++ [r]) = totA R + r.length := by simp [totA]
theorem totA_take {R : List (List Ar)} {k : Nat} (h : k < R.length) : totA (R.take (k + 1)) = totA (R.take k) + R[k].length := by
  rw [List.take_succ_eq_append_getElem h, totA_snoc]
theorem totA_le (R : List (List Ar)) (k : Nat) : totA (R.take k) ≤ totA R := by
  have : totA R = totA (R.take k) + totA (R.drop k) := by
    unfold totA
    rw [← List.sum_append, ← List.map_append, List.take_append_drop]
  omega
def maxS : Nat := 16384
def maxA : Nat := 262144
/-- a loose system -/
def LooP (R : List (List Ar)) : Prop := 1 ≤ R.length ∧ R.length ≤ maxS ∧ totA R ≤ maxA ∧ ∀ r ∈ R, ∀ a ∈ r, 0 ≤ a.1 ∧ a.1 ≤ 1025 ∧ 0 ≤ a.2 ∧ a.2 < (R.length : Int)
instance decLooP (R : List (List Ar)) : Decidable (LooP R) := inferInstanceAs (Decidable (_ ∧ _ ∧ _ ∧ _))
def looB (R : List (List Ar)) : Bool := decide (LooP R)
def valB (R : List (List Ar)) : Bool := decide (LooP R ∧ ∀ r ∈ R, SortA r)
theorem valB_no {R : List (List Ar)} (h : looB R = false) : valB R = false := by
  rw [looB, decide_eq_false_iff_not] at h
  rw [valB, decide_eq_false_iff_not]
  exact fun h2 => h h2.1
end Go.Proofs.YthlckclbjknldaaGreat
