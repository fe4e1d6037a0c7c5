/- TauLoops as a plain function: numbers of the components, rows joined. ref23: Has at a tree; Components. -/
import Derived.Test.YthlckclbjknldaaTj1
import Derived.Test.YthlckclbjknldaaMG
import Derived.Test.YthlckclbjknldaaG45
namespace Go.Proofs.Ythlckclbjknldaa
set_option linter.unusedVariables false
set_option linter.unusedSimpArgs false

def ixS (C : List Int) : Nat → List Int × Nat
 | 0 => (List.replicate C.length 0, 0)
 | k + 1 => if C[k]? = some (k : Int) then ((ixS C k).1.set k ((ixS C k).2 : Int), (ixS C k).2 + 1) else ixS C k
theorem ixS_len (C : List Int) (k : Nat) : (ixS C k).1.length = C.length := by
 induction k with
 | zero => simp [ixS]
 | succ k ih =>
  unfold ixS
  split
  ·simp [ih]
  ·exact ih
theorem ixS_le (C : List Int) (k : Nat) : (ixS C k).2 ≤ k := by
 induction k with
 | zero => simp [ixS]
 | succ k ih =>
  unfold ixS
  split
  ·simp only; omega
  ·omega
theorem ixS_ok (C : List Int) (k : Nat) (hk : k ≤ C.length) : ∀ u, u < k → C[u]? = some (u : Int) → ∃ j : Nat, j < (ixS C k).2 ∧ (ixS C k).1[u]? = some (j : Int) := by
 induction k with
 | zero => intro u h; omega
 | succ k ih =>
  intro u hu hC
  unfold ixS
  split
  ·rename_i h
   rcases Nat.lt_or_ge u k with h1 | h1
   ·obtain ⟨j, q1, q2⟩ := ih (by omega) u h1 hC
    exact ⟨j, by simp only; omega, by simp only; rw [List.getElem?_set_ne (by omega)]; exact q2⟩
   ·have : u = k := by omega
    subst this
    exact ⟨(ixS C u).2, by simp only; omega, by simp only; rw [List.getElem?_set_self (by rw [ixS_len]; omega)]⟩
  ·rename_i h
   rcases Nat.lt_or_ge u k with h1 | h1
   ·exact ih (by omega) u h1 hC
   ·have : u = k := by omega
    subst this
    exact absurd hC h
/-- the number of v's component -/
def clsN (C : List Int) (v : Nat) : Nat := ((ixS C C.length).1.getD (C.getD v 0).toNat 0).toNat
def tlA (f : Nat → Nat) (c : Nat) (o : List (List Ar)) (a : Ar) : List (List Ar) := o.set c (o.getD c [] ++ [(a.1, (f a.2.toNat : Int))])
def tlRow (f : Nat → Nat) (c : Nat) (o : List (List Ar)) (row : List Ar) : List (List Ar) := row.foldl (tlA f c) o
def tlOut (f : Nat → Nat) (m : Nat) (R : List (List Ar)) : Nat → List (List Ar)
 | 0 => List.replicate m []
 | k + 1 => tlRow f (f k) (tlOut f m R k) (R.getD k [])
theorem tlA_len (f : Nat → Nat) (c : Nat) (o : List (List Ar)) (a : Ar) : (tlA f c o a).length = o.length := by simp [tlA]
theorem tlRow_len (f : Nat → Nat) (c : Nat) (row : List Ar) : ∀ o, (tlRow f c o row).length = o.length := by
 induction row with
 | nil => intro o; rfl
 | cons a r ih => intro o; show (tlRow f c (tlA f c o a) r).length = _; rw [ih, tlA_len]
theorem tlOut_len (f : Nat → Nat) (m : Nat) (R : List (List Ar)) (k : Nat) : (tlOut f m R k).length = m := by
 induction k with
 | zero => simp [tlOut]
 | succ k ih => rw [tlOut, tlRow_len, ih]
theorem tlRow_snoc (f : Nat → Nat) (c : Nat) (o : List (List Ar)) (row : List Ar) (a : Ar) : tlRow f c o (row ++ [a]) = tlA f c (tlRow f c o row) a := by unfold tlRow; rw [List.foldl_append]; rfl
theorem Rc.lt {E : Nat → List Nat} {n u v : Nat} (h : Rc E u v) (hu : u < n) (hE : ∀ x, x < n → ∀ y ∈ E x, y < n) : v < n := by
 induction h with
 | refl => exact hu
 | tail _ he ih => exact hE _ ih _ he
theorem least_rep {E : Nat → List Nat} {n : Nat} {C : List Int} (hE : ∀ x, x < n → ∀ y ∈ E x, y < n) (hC : C.length = n) (hL : ∀ v, v < n → Least E v (fnL C (-1) v)) : ∀ s, s < n → ∃ m : Nat, m < n ∧ C[s]? = some (m : Int) ∧ C[m]? = some (m : Int) := by
 intro s hs
 obtain ⟨m, h1, h2, h3, h4⟩ := hL s hs
 have hm : m < n := h2.lt hs hE
 obtain ⟨m2, q1, q2, q3, q4⟩ := hL m hm
 have a1 := h4 m2 (h2.trans q2) (q3.trans h3)
 have a2 := q4 m (Rc.refl m) (Rc.refl m)
 have : m2 = m := by omega
 subst this
 refine ⟨m2, hm, ?_, ?_⟩
 ·rw [fnL_get (by omega)] at h1
  rw [List.getElem?_eq_getElem (by omega), h1]
 ·rw [fnL_get (by omega)] at q1
  rw [List.getElem?_eq_getElem (by omega), q1]
theorem adj_lt {R : List (List Ar)} (t : Bool) (hv : looB R = true) : ∀ x, x < R.length → ∀ y ∈ Adj t R x, y < R.length := by
 intro x hx y hy
 unfold Adj at hy
 rw [List.getD_eq_getElem?_getD, List.getElem?_eq_getElem hx, Option.getD_some] at hy
 obtain ⟨a, ha, rfl⟩ := List.mem_map.1 hy
 have h1 : a ∈ R[x] := by
  unfold tauOf at ha
  split at ha
  ·exact (List.takeWhile_sublist _).subset ha
  ·exact ha
 have h2 := (of_decide_eq_true hv).2.2.2 _ (List.getElem_mem hx) a h1
 omega
/-- the class numbers are below the count -/
theorem cls_ok {C : List Int} {n : Nat} (hC : C.length = n) (hrep : ∀ s, s < n → ∃ m : Nat, m < n ∧ C[s]? = some (m : Int) ∧ C[m]? = some (m : Int)) {s : Nat} (hs : s < n) :
  ∃ m : Nat, m < n ∧ C[s]? = some (m : Int) ∧ clsN C s < (ixS C n).2 ∧ (ixS C n).1[m]? = some (clsN C s : Int) := by
 obtain ⟨m, h1, h2, h3⟩ := hrep s hs
 obtain ⟨j, q1, q2⟩ := ixS_ok C n (by omega) m h1 h3
 have e : clsN C s = j := by
  unfold clsN
  have e1 : C.getD s 0 = (m : Int) := by rw [List.getD_eq_getElem?_getD, h2]; rfl
  rw [e1, hC, Int.toNat_natCast, List.getD_eq_getElem?_getD, q2]; rfl
 exact ⟨m, h1, h2, by rw [e]; exact q1, by rw [e]; exact q2⟩
/-- what holds of the joined rows -/
theorem totA_set (o : List (List Ar)) {c : Nat} (h : c < o.length) (x : Ar) : totA (o.set c (o.getD c [] ++ [x])) = totA o + 1 := by
 induction o generalizing c with
 | nil => simp at h
 | cons a r ih =>
  cases c with
  | zero => simp [totA]; omega
  | succ c =>
   have := ih (c := c) (by simpa using h)
   simp only [List.set_cons_succ, List.getD_cons_succ]
   simp only [totA, List.map_cons, List.sum_cons] at this ⊢
   omega
theorem totA_row (o : List (List Ar)) (c : Nat) : (o.getD c []).length ≤ totA o := by
 induction o generalizing c with
 | nil => simp
 | cons a r ih =>
  cases c with
  | zero => simp [totA]
  | succ c =>
   have := ih c
   simp only [List.getD_cons_succ]
   simp only [totA, List.map_cons, List.sum_cons] at this ⊢
   omega
theorem tlRow_tot (f : Nat → Nat) {c : Nat} (row : List Ar) : ∀ o, c < o.length → totA (tlRow f c o row) = totA o + row.length := by
 induction row with
 | nil => intro o _; rfl
 | cons a r ih =>
  intro o h
  show totA (tlRow f c (tlA f c o a) r) = _
  rw [ih _ (by rw [tlA_len]; exact h)]
  unfold tlA
  rw [totA_set o h]
  simp; omega
theorem totA_rep (m : Nat) : totA (List.replicate m []) = 0 := by
 unfold totA
 rw [List.map_replicate, List.sum_replicate_nat]; simp
theorem tlOut_tot {f : Nat → Nat} {m : Nat} {R : List (List Ar)} (hf : ∀ v, v < R.length → f v < m) : ∀ k, k ≤ R.length → totA (tlOut f m R k) = totA (R.take k) := by
 intro k
 induction k with
 | zero => intro _; rw [tlOut, totA_rep, List.take_zero]; rfl
 | succ k ih =>
  intro h
  rw [tlOut, tlRow_tot f _ _ (by rw [tlOut_len]; exact hf k (by omega)), ih (by omega), totA_take (by omega)]
  rw [List.getD_eq_getElem?_getD, List.getElem?_eq_getElem (by omega), Option.getD_some]
def TlP (m : Nat) (o : List (List Ar)) : Prop := ∀ r ∈ o, ∀ a ∈ r, 0 ≤ a.1 ∧ a.1 ≤ 1025 ∧ 0 ≤ a.2 ∧ a.2 < (m : Int)
theorem TlP.one {f : Nat → Nat} {m c : Nat} {o : List (List Ar)} {a : Ar} (h : TlP m o) (ha : 0 ≤ a.1 ∧ a.1 ≤ 1025) (hf : f a.2.toNat < m) : TlP m (tlA f c o a) := by
 intro r hr b hb
 rcases List.mem_or_eq_of_mem_set hr with h1 | h1
 ·exact h r h1 b hb
 ·subst h1
  rcases List.mem_append.1 hb with h2 | h2
  ·rw [List.getD_eq_getElem?_getD] at h2
   rcases Nat.lt_or_ge c o.length with h3 | h3
   ·rw [List.getElem?_eq_getElem h3, Option.getD_some] at h2
    exact h _ (List.getElem_mem h3) b h2
   ·rw [List.getElem?_eq_none h3] at h2; simp at h2
  ·simp at h2; subst h2
   exact ⟨ha.1, ha.2, by simp only; omega, by simp only; omega⟩
theorem tlRow_P {f : Nat → Nat} {m c : Nat} (row : List Ar) : ∀ o, TlP m o → (∀ a ∈ row, 0 ≤ a.1 ∧ a.1 ≤ 1025 ∧ f a.2.toNat < m) → TlP m (tlRow f c o row) := by
 induction row with
 | nil => intro o h _; exact h
 | cons a r ih =>
  intro o h hr
  have ha := hr a (by simp)
  exact ih _ (h.one ⟨ha.1, ha.2.1⟩ ha.2.2) fun b hb => hr b (List.mem_cons_of_mem _ hb)
theorem tlOut_P {f : Nat → Nat} {m : Nat} {R : List (List Ar)} (hR : ∀ r ∈ R, ∀ a ∈ r, 0 ≤ a.1 ∧ a.1 ≤ 1025 ∧ f a.2.toNat < m) : ∀ k, k ≤ R.length → TlP m (tlOut f m R k) := by
 intro k
 induction k with
 | zero =>
  intro _ r hr a ha
  have := List.eq_of_mem_replicate hr
  subst this; simp at ha
 | succ k ih =>
  intro h
  rw [tlOut]
  refine tlRow_P _ _ (ih (by omega)) fun a ha => ?_
  rw [List.getD_eq_getElem?_getD, List.getElem?_eq_getElem (by omega), Option.getD_some] at ha
  exact hR _ (List.getElem_mem (by omega)) a ha
end Go.Proofs.Ythlckclbjknldaa
namespace Go.Proofs.Ythlckclbjknldaa
set_option linter.unusedVariables false
set_option linter.unusedSimpArgs false
open Go.RowKit
set_option maxRecDepth 100000
attribute [local go_sem] List.set_cons_zero List.set_cons_succ List.map_cons List.map_nil List.take_succ_cons List.take_zero List.drop_zero List.drop_succ_cons C.pl C.one List.all_cons List.all_nil Bool.and_true Nat.mul_one Int.toNat_natCast

def RowOk (E : Nat → List Nat) (n j : Nat) (L : List Int) : Prop := ∃ B : List Bool, B.length = n ∧ (∀ u, seenB B u = true ↔ Rc E j u) ∧ L = ((List.range n).filter (seenB B)).map Int.ofNat
theorem RowOk.mem {E : Nat → List Nat} {n j : Nat} {L : List Int} (h : RowOk E n j L) {u : Nat} (hu : u < n) : (u : Int) ∈ L ↔ Rc E j u := by
 obtain ⟨B, _, h2, rfl⟩ := h
 rw [mem_cast, List.mem_filter, List.mem_range, h2]
 exact ⟨fun h => h.2, fun h => ⟨hu, h⟩⟩
theorem RowOk.len {E : Nat → List Nat} {n j : Nat} {L : List Int} (h : RowOk E n j L) : L.length ≤ n := by
 obtain ⟨B, _, h2, rfl⟩ := h
 rw [List.length_map]
 have := List.length_filter_le (seenB B) (List.range n)
 simpa using this
end Go.Proofs.Ythlckclbjknldaa
