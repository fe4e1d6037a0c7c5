/- The silent arcs of a sorted row come first: both closures see the same graph. -/
import Derived.Test.YthlckclbjknldaaG45
import Derived.Test.YthlckclbjknldaaTl1
namespace Go.Proofs.Ythlckclbjknldaa
set_option linter.unusedVariables false
set_option linter.unusedSimpArgs false

theorem tau_sorted {r : List Ar} (hs : SortA r) (h0 : ∀ a ∈ r, 0 ≤ a.1) (t : Bool) : tauF t r = tauOf t r := by
 cases t with
 | false => unfold tauF tauOf; simp
 | true =>
  unfold tauF tauOf
  rw [if_pos rfl]
  simp only [Bool.not_true, Bool.false_or]
  induction r with
  | nil => rfl
  | cons a r ih =>
   have hs2 := List.pairwise_cons.1 hs
   by_cases h : (a.1 == 0) = true
   ·rw [List.filter_cons, if_pos h, List.takeWhile_cons, if_pos h, ih hs2.2 fun b hb => h0 b (List.mem_cons_of_mem _ hb)]
   ·rw [List.filter_cons, if_neg h, List.takeWhile_cons, if_neg h]
    refine List.filter_eq_nil_iff.2 fun b hb => ?_
    have h1 := hs2.1 b hb
    rw [ltA_iff] at h1
    have h2 := h0 a List.mem_cons_self
    have h3 : a.1 ≠ 0 := fun e => h (by simp [e])
    have : b.1 ≠ 0 := by omega
    simpa using this
theorem adj_eq {R : List (List Ar)} (t : Bool) (hv : valB R = true) : AdjF t R = Adj t R := by
 funext v
 unfold AdjF Adj
 rcases Nat.lt_or_ge v R.length with h | h
 ·rw [List.getD_eq_getElem?_getD, List.getElem?_eq_getElem h, Option.getD_some]
  have h2 := of_decide_eq_true hv
  rw [tau_sorted (h2.2 _ (List.getElem_mem h)) fun a ha => (h2.1.2.2.2 _ (List.getElem_mem h) a ha).1]
 ·rw [List.getD_eq_getElem?_getD, List.getElem?_eq_none h, Option.getD_none]
  cases t <;> rfl
/-- the least node is one -/
theorem Least.uniq {E : Nat → List Nat} {v : Nat} {x y : Int} (h1 : Least E v x) (h2 : Least E v y) : x = y := by
 obtain ⟨m, a1, a2, a3, a4⟩ := h1
 obtain ⟨k, b1, b2, b3, b4⟩ := h2
 have := a4 k b2 b3
 have := b4 m a2 a3
 omega
theorem least_rows {E : Nat → List Nat} {n : Nat} {C D : List Int} (hC : C.length = n) (hD : D.length = n) (h1 : ∀ v, v < n → Least E v (fnL C (-1) v)) (h2 : ∀ v, v < n → Least E v (fnL D (-1) v)) : C = D := by
 apply List.ext_getElem (by omega)
 intro i hi hj
 have := (h1 i (by omega)).uniq (h2 i (by omega))
 rw [fnL_get hi, fnL_get hj] at this
 exact this
end Go.Proofs.Ythlckclbjknldaa
