/- Plain words: compared pairs, ascending rows, valid systems, orders. -/
import Derived.Test.YthlckclbjknldaaGreatPl1
import Derived.Test.YthlckclbjknldaaGreatMGa
namespace Go.Proofs.YthlckclbjknldaaGreat
set_option linter.unusedVariables false
set_option linter.unusedSimpArgs false

def cmpR (a b : Ar) : Int := if cmpI a.1 b.1 ≠ 0 then cmpI a.1 b.1 else cmpI a.2 b.2
theorem cmpI_eq (a b : Int) : (a < b ∧ cmpI a b = -1) ∨ (a = b ∧ cmpI a b = 0) ∨ (b < a ∧ cmpI a b = 1) := by
  unfold cmpI
  rcases Int.lt_trichotomy a b with h | h | h
  · exact .inl ⟨h, by simp [h]⟩
  · exact .inr (.inl ⟨h, by simp [h]⟩)
  · exact .inr (.inr ⟨h, by rw [if_neg (by omega), if_pos h]⟩)
theorem cmpR_lt (a b : Ar) : decide (cmpR a b < 0) = ltA a b := by
  rw [Bool.eq_iff_iff, decide_eq_true_iff, ltA_iff]
  unfold cmpR
  rcases cmpI_eq a.1 b.1 with ⟨h, e⟩ | ⟨h, e⟩ | ⟨h, e⟩ <;> rw [e]
  · simp; omega
  · rcases cmpI_eq a.2 b.2 with ⟨h2, e2⟩ | ⟨h2, e2⟩ | ⟨h2, e2⟩ <;> rw [e2] <;> simp <;> omega
  · simp; omega
theorem cmpR_ge (a b : Ar) : decide (cmpR a b ≥ 0) = !ltA a b := by
  rw [← cmpR_lt, Bool.eq_iff_iff, decide_eq_true_iff, Bool.not_eq_true', decide_eq_false_iff_not]
  omega
instance decSortA (l : List Ar) : Decidable (SortA l) := inferInstanceAs (Decidable (List.Pairwise (fun a b => ltA a b = true) l))
theorem sortA_get {xs : List Ar} (h : ∀ i a b, xs[i]? = some a → xs[i + 1]? = some b → ltA a b = true) : SortA xs := by
  unfold SortA
  induction xs with
  | nil => exact .nil
  | cons a r ih =>
    have h2 := ih fun i x y hx hy => h (i + 1) x y (by simpa using hx) (by simpa using hy)
    rw [List.pairwise_cons]
    refine ⟨fun b hb => ?_, h2⟩
    cases r with
    | nil => simp at hb
    | cons c q =>
      have h1 := h 0 a c rfl rfl
      rcases List.mem_cons.1 hb with rfl | hb
      · exact h1
      · exact ltA_trans h1 ((List.pairwise_cons.1 h2).1 b hb)
theorem SortA.at {xs : List Ar} (h : SortA xs) {i j : Nat} {a b : Ar} (hij : i < j) (ha : xs[i]? = some a) (hb : xs[j]? = some b) : ltA a b = true := by
  have h1 := List.getElem?_eq_some_iff.1 ha
  have h2 := List.getElem?_eq_some_iff.1 hb
  have := List.pairwise_iff_getElem.1 h i j h1.1 h2.1 hij
  rwa [h1.2, h2.2] at this
theorem sortA_not {xs : List Ar} {i : Nat} {a b : Ar} (ha : xs[i]? = some a) (hb : xs[i + 1]? = some b) (h : ltA a b = false) : ¬ SortA xs := fun hs => by
  have := hs.at (by omega) ha hb
  rw [h] at this; cases this
def chanP (x : Int) : Prop := 2 ≤ x ∧ x ≤ 1025
instance decChanP (x : Int) : Decidable (chanP x) := inferInstanceAs (Decidable (_ ∧ _))
theorem tArcs_c0 {xs : List Ar} {i : Nat} (h : i < xs.length) : (tArcs xs)[i * 2]? = some (.v (.int .i64 xs[i].1)) := by
  have := tArcs_at h
  have e : ((tArcs xs).drop (i * 2))[0]? = some (.v (.int .i64 xs[i].1)) := by
    rw [← List.getElem?_take_of_lt (show 0 < 2 by omega), this]; rfl
  simpa using e
theorem tArcs_c1 {xs : List Ar} {i : Nat} (h : i < xs.length) : (tArcs xs)[i * 2 + 1]? = some (.v (.int .i64 xs[i].2)) := by
  have := tArcs_at h
  have e : ((tArcs xs).drop (i * 2))[1]? = some (.v (.int .i64 xs[i].2)) := by
    rw [← List.getElem?_take_of_lt (show 1 < 2 by omega), this]; rfl
  simpa using e
/-- a renaming -/
def pairsB (xs : List Ar) : Bool := decide (SortA xs ∧ ∀ a ∈ xs, chanP a.1 ∧ chanP a.2)
theorem pairsB_bad {xs : List Ar} {k : Nat} {a : Ar} (h : xs[k]? = some a) (hc : ¬ (chanP a.1 ∧ chanP a.2)) : pairsB xs = false := by
  rw [pairsB, decide_eq_false_iff_not]
  exact fun h2 => hc (h2.2 a (List.mem_of_getElem? h))
theorem pairsB_uns {xs : List Ar} {i : Nat} {a b : Ar} (ha : xs[i]? = some a) (hb : xs[i + 1]? = some b) (h : ltA a b = false) : pairsB xs = false := by
  rw [pairsB, decide_eq_false_iff_not]
  exact fun h2 => sortA_not ha hb h h2.1
theorem pairsB_ok {xs : List Ar} (h1 : ∀ i a b, xs[i]? = some a → xs[i + 1]? = some b → ltA a b = true) (h2 : ∀ (i : Nat) (a : Ar), xs[i]? = some a → chanP a.1 ∧ chanP a.2) : pairsB xs = true := by
  rw [pairsB, decide_eq_true_iff]
  exact ⟨sortA_get h1, fun a ha => by obtain ⟨i, hi⟩ := List.mem_iff_getElem?.1 ha; exact h2 i a hi⟩
/-- a priority order -/
def OrdP (o : List Ar) : Prop := SortA o ∧ (∀ a ∈ o, chanP a.1 ∧ chanP a.2 ∧ a.1 ≠ a.2) ∧ ∀ x ∈ o, ∀ y ∈ o, y.1 = x.2 → (x.1, y.2) ∈ o
instance decOrdP (o : List Ar) : Decidable (OrdP o) := inferInstanceAs (Decidable (_ ∧ _ ∧ _))
def ordB (o : List Ar) : Bool := decide (OrdP o)
theorem ordB_bad {o : List Ar} {k : Nat} {a : Ar} (h : o[k]? = some a) (hc : ¬ (chanP a.1 ∧ chanP a.2 ∧ a.1 ≠ a.2)) : ordB o = false := by
  rw [ordB, decide_eq_false_iff_not]
  exact fun h2 => hc (h2.2.1 a (List.mem_of_getElem? h))
theorem ordB_uns {xs : List Ar} {i : Nat} {a b : Ar} (ha : xs[i]? = some a) (hb : xs[i + 1]? = some b) (h : ltA a b = false) : ordB xs = false := by
  rw [ordB, decide_eq_false_iff_not]
  exact fun h2 => sortA_not ha hb h h2.1
theorem ordB_tr {o : List Ar} {x y : Ar} (hx : x ∈ o) (hy : y ∈ o) (he : y.1 = x.2) (h : (x.1, y.2) ∉ o) : ordB o = false := by
  rw [ordB, decide_eq_false_iff_not]
  exact fun h2 => h (h2.2.2 x hx y hy he)
theorem ordB_cy {o : List Ar} {x y : Ar} (hx : x ∈ o) (hy : y ∈ o) (he : y.1 = x.2) (h : y.2 = x.1) : ordB o = false := by
  rw [ordB, decide_eq_false_iff_not]
  exact fun h2 => (h2.2.1 _ (h2.2.2 x hx y hy he)).2.2 h.symm
/-- sums of lengths -/
def totA (R : List (List Ar)) : Nat := (R.map List.length).sum
theorem totA_snoc (R : List (List Ar)) (r : List Ar) : totA (R ++ [r]) = totA R + r.length := by simp [totA]
theorem totA_take {R : List (List Ar)} {k : Nat} (h : k < R.length) : totA (R.take (k + 1)) = totA (R.take k) + R[k].length := by
  rw [List.take_succ_eq_append_getElem h, totA_snoc]
theorem totA_le (R : List (List Ar)) (k : Nat) : totA (R.take k) ≤ totA R := by
  have : totA R = totA (R.take k) + totA (R.drop k) := by
    unfold totA
    rw [← List.sum_append, ← List.map_append, List.take_append_drop]
  omega
def maxS : Nat := 16384
def maxA : Nat := 262144
/-- a loose system -/
def LooP (R : List (List Ar)) : Prop := 1 ≤ R.length ∧ R.length ≤ maxS ∧ totA R ≤ maxA ∧ ∀ r ∈ R, ∀ a ∈ r, 0 ≤ a.1 ∧ a.1 ≤ 1025 ∧ 0 ≤ a.2 ∧ a.2 < (R.length : Int)
instance decLooP (R : List (List Ar)) : Decidable (LooP R) := inferInstanceAs (Decidable (_ ∧ _ ∧ _ ∧ _))
def looB (R : List (List Ar)) : Bool := decide (LooP R)
def valB (R : List (List Ar)) : Bool := decide (LooP R ∧ ∀ r ∈ R, SortA r)
theorem valB_no {R : List (List Ar)} (h : looB R = false) : valB R = false := by
  rw [looB, decide_eq_false_iff_not] at h
  rw [valB, decide_eq_false_iff_not]
  exact fun h2 => h h2.1
end Go.Proofs.YthlckclbjknldaaGreat
