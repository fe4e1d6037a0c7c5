/- The silent arcs of a sorted row come first: both closures see the same graph. Canonical forms depend on the rows as sets; rows joined by insertion. -/
import Derived.Test.YthlckclbjknldaaGreatG45
import Derived.Test.YthlckclbjknldaaGreatPc1
namespace Go.Proofs.YthlckclbjknldaaGreat
set_option linter.unusedVariables false
set_option linter.unusedSimpArgs false

theorem tau_sorted {r : List Ar} (hs : SortA r) (h0 : ∀ a ∈ r, 0 ≤ a.1) (t : Bool) : tauF t r = tauOf t r := by
  cases t with
  | false => unfold tauF tauOf; simp
  | true =>
    unfold tauF tauOf
    rw [if_pos rfl]
    simp only [Bool.not_true, Bool.false_or]
    induction r with
    | nil => rfl
    | cons a r ih =>
      have hs2 := List.pairwise_cons.1 hs
      by_cases h : (a.1 == 0) = true
      · rw [List.filter_cons, if_pos h, List.takeWhile_cons, if_pos h, ih hs2.2 fun b hb => h0 b (List.mem_cons_of_mem _ hb)]
      · rw [List.filter_cons, if_neg h, List.takeWhile_cons, if_neg h]
        refine List.filter_eq_nil_iff.2 fun b hb => ?_
        have h1 := hs2.1 b hb
        rw [ltA_iff] at h1
        have h2 := h0 a List.mem_cons_self
        have h3 : a.1 ≠ 0 := fun e => h (by simp [e])
        have : b.1 ≠ 0 := by omega
        simpa using this
theorem adj_eq {R : List (List Ar)} (t : Bool) (hv : valB R = true) : AdjF t R = Adj t R := by
  funext v
  unfold AdjF Adj
  rcases Nat.lt_or_ge v R.length with h | h
  · rw [List.getD_eq_getElem?_getD, List.getElem?_eq_getElem h, Option.getD_some]
    have h2 := of_decide_eq_true hv
    rw [tau_sorted (h2.2 _ (List.getElem_mem h)) fun a ha => (h2.1.2.2.2 _ (List.getElem_mem h) a ha).1]
  · rw [List.getD_eq_getElem?_getD, List.getElem?_eq_none h, Option.getD_none]
    cases t <;> rfl
/-- the least node is one -/
theorem Least.uniq {E : Nat → List Nat} {v : Nat} {x y : Int} (h1 : Least E v x) (h2 : Least E v y) : x = y := by
  obtain ⟨m, a1, a2, a3, a4⟩ := h1
  obtain ⟨k, b1, b2, b3, b4⟩ := h2
  have := a4 k b2 b3
  have := b4 m a2 a3
  omega
theorem least_rows {E : Nat → List Nat} {n : Nat} {C D : List Int} (hC : C.length = n) (hD : D.length = n) (h1 : ∀ v, v < n → Least E v (fnL C (-1) v)) (h2 : ∀ v, v < n → Least E v (fnL D (-1) v)) : C = D := by
  apply List.ext_getElem (by omega)
  intro i hi hj
  have := (h1 i (by omega)).uniq (h2 i (by omega))
  rw [fnL_get hi, fnL_get hj] at this
  exact this
end Go.Proofs.YthlckclbjknldaaGreat
namespace Go.Proofs.YthlckclbjknldaaGreat
set_option linter.unusedVariables false
set_option linter.unusedSimpArgs false

theorem canGo_ext {A B : List (List Ar)} (h : ∀ i, rowOf (A.getD i []) = rowOf (B.getD i [])) : ∀ (f i : Nat) (num old : List Int) (out : List (List Ar)), canGo A f i num old out = canGo B f i num old out := by
  intro f
  induction f with
  | zero => intro i num old out; rfl
  | succ f ih =>
    intro i num old out
    unfold canGo
    split
    · rfl
    · rw [h, ih]
theorem canonR_ext {A B : List (List Ar)} (hl : A.length = B.length) (h : ∀ i, rowOf (A.getD i []) = rowOf (B.getD i [])) : canonR A = canonR B := by
  unfold canonR
  rw [hl]
  exact canGo_ext h _ _ _ _ _
def tiA (f : Nat → Nat) (c : Nat) (o : List (List Ar)) (a : Ar) : List (List Ar) := o.set c (insA (a.1, (f a.2.toNat : Int)) (o.getD c []))
def tiRow (f : Nat → Nat) (c : Nat) (o : List (List Ar)) (row : List Ar) : List (List Ar) := row.foldl (tiA f c) o
def tiOut (f : Nat → Nat) (m : Nat) (R : List (List Ar)) : Nat → List (List Ar)
  | 0 => List.replicate m []
  | k + 1 => tiRow f (f k) (tiOut f m R k) (R.getD k [])
theorem tiA_len (f : Nat → Nat) (c : Nat) (o : List (List Ar)) (a : Ar) : (tiA f c o a).length = o.length := by simp [tiA]
theorem tiRow_len (f : Nat → Nat) (c : Nat) (row : List Ar) : ∀ o, (tiRow f c o row).length = o.length := by
  induction row with
  | nil => intro o; rfl
  | cons a r ih => intro o; show (tiRow f c (tiA f c o a) r).length = _; rw [ih, tiA_len]
theorem tiOut_len (f : Nat → Nat) (m : Nat) (R : List (List Ar)) (k : Nat) : (tiOut f m R k).length = m := by
  induction k with
  | zero => simp [tiOut]
  | succ k ih => rw [tiOut, tiRow_len, ih]
theorem tiRow_snoc (f : Nat → Nat) (c : Nat) (o : List (List Ar)) (row : List Ar) (a : Ar) : tiRow f c o (row ++ [a]) = tiA f c (tiRow f c o row) a := by unfold tiRow; rw [List.foldl_append]; rfl
/-- two lists of rows with the same arcs -/
def SameS (o p : List (List Ar)) : Prop := o.length = p.length ∧ ∀ i a, a ∈ o.getD i [] ↔ a ∈ p.getD i []
theorem SameS.one {f : Nat → Nat} {c : Nat} {o p : List (List Ar)} (h : SameS o p) (a : Ar) : SameS (tiA f c o a) (tlA f c p a) := by
  refine ⟨by rw [tiA_len, tlA_len]; exact h.1, fun i b => ?_⟩
  have h1 := h.1
  unfold tiA tlA
  simp only [List.getD_eq_getElem?_getD, List.getElem?_set]
  by_cases hi : c = i
  · subst hi
    by_cases hc : c < o.length
    · have h2 := h.2 c b
      simp only [List.getD_eq_getElem?_getD] at h2
      rw [if_pos rfl, if_pos hc, if_pos rfl, if_pos (by omega)]
      simp only [Option.getD_some, mem_insA, List.mem_append, List.mem_singleton, h2, or_comm]
    · rw [if_pos rfl, if_neg hc, if_pos rfl, if_neg (by omega)]
  · rw [if_neg hi, if_neg hi]
    have h2 := h.2 i b
    simpa only [List.getD_eq_getElem?_getD] using h2
theorem SameS.row {f : Nat → Nat} {c : Nat} : ∀ (row : List Ar) {o p : List (List Ar)}, SameS o p → SameS (tiRow f c o row) (tlRow f c p row)
  | [], _, _, h => h
  | a :: r, _, _, h => SameS.row r (h.one a)
theorem tiOut_same (f : Nat → Nat) (m : Nat) (R : List (List Ar)) (k : Nat) : SameS (tiOut f m R k) (tlOut f m R k) := by
  induction k with
  | zero => exact ⟨rfl, fun _ _ => Iff.rfl⟩
  | succ k ih => exact ih.row _
theorem canon_ti (f : Nat → Nat) (m : Nat) (R : List (List Ar)) (k : Nat) : canonR (tiOut f m R k) = canonR (tlOut f m R k) := by
  have h := tiOut_same f m R k
  exact canonR_ext h.1 fun i => rowOf_ext (h.2 i)
/-- bounds -/
theorem tiA_tot (f : Nat → Nat) (o : List (List Ar)) (c : Nat) (a : Ar) : totA (tiA f c o a) ≤ totA o + 1 := by
  unfold tiA
  induction o generalizing c with
  | nil => simp [totA]
  | cons x r ih =>
    cases c with
    | zero =>
      simp only [List.set_cons_zero, List.getD_cons_zero, totA, List.map_cons, List.sum_cons]
      have := insA_len (a.1, (f a.2.toNat : Int)) x
      omega
    | succ c =>
      have := ih c
      simp only [List.set_cons_succ, List.getD_cons_succ]
      simp only [totA, List.map_cons, List.sum_cons] at this ⊢
      omega
theorem tiRow_tot (f : Nat → Nat) (c : Nat) (row : List Ar) : ∀ o, totA (tiRow f c o row) ≤ totA o + row.length := by
  induction row with
  | nil => intro o; exact Nat.le_refl _
  | cons a r ih =>
    intro o
    have h1 := ih (tiA f c o a)
    have h2 := tiA_tot f o c a
    show totA (tiRow f c (tiA f c o a) r) ≤ _
    simp only [List.length_cons]
    omega
theorem tiOut_tot (f : Nat → Nat) (m : Nat) (R : List (List Ar)) : ∀ k, k ≤ R.length → totA (tiOut f m R k) ≤ totA (R.take k) := by
  intro k
  induction k with
  | zero => intro _; rw [tiOut, totA_rep]; omega
  | succ k ih =>
    intro h
    have h1 := ih (by omega)
    have h2 := tiRow_tot f (f k) (R.getD k []) (tiOut f m R k)
    rw [tiOut, totA_take (by omega)]
    rw [List.getD_eq_getElem?_getD, List.getElem?_eq_getElem (by omega), Option.getD_some] at h2 ⊢
    omega
theorem tiP {f : Nat → Nat} {m : Nat} {R : List (List Ar)} (hR : ∀ r ∈ R, ∀ a ∈ r, 0 ≤ a.1 ∧ a.1 ≤ 1025 ∧ f a.2.toNat < m) (k : Nat) (hk : k ≤ R.length) : TlP m (tiOut f m R k) := by
  intro r hr a ha
  have hs := tiOut_same f m R k
  obtain ⟨i, hi, rfl⟩ := List.getElem_of_mem hr
  have h1 : a ∈ (tiOut f m R k).getD i [] := by rw [List.getD_eq_getElem?_getD, List.getElem?_eq_getElem hi]; exact ha
  have h2 := (hs.2 i a).1 h1
  have hi2 : i < (tlOut f m R k).length := by rw [← hs.1]; exact hi
  rw [List.getD_eq_getElem?_getD, List.getElem?_eq_getElem hi2] at h2
  exact tlOut_P hR k hk _ (List.getElem_mem hi2) a h2
end Go.Proofs.YthlckclbjknldaaGreat
