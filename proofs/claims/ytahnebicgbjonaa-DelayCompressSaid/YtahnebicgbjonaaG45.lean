/- ref23: inStates; Reach. TauLoops as a plain function: numbers of the components, rows joined. The silent arcs of a sorted row come first: both closures see the same graph. delay.Arrows, ref25.DelayArrows, law27.arrows. ref23: Has at a tree; Components. Divergence, plain: predecessors, the search from the goals, states on silent cycles. Delay arrows of a system as rows, plain. -/
import Derived.Test.YtahnebicgbjonaaG42
import Derived.Test.YtahnebicgbjonaaTj1
import Derived.Test.YtahnebicgbjonaaMF
import Derived.Test.YtahnebicgbjonaaMG
namespace Go.Proofs.Ytahnebicgbjonaa
set_option linter.unusedVariables false
set_option linter.unusedSimpArgs false
open Go.RowKit
set_option maxRecDepth 100000
attribute [local go_sem] List.set_cons_zero List.set_cons_succ List.map_cons List.map_nil List.take_succ_cons List.take_zero List.drop_zero List.drop_succ_cons C.pl C.one List.all_cons List.all_nil Bool.and_true Nat.mul_one Int.toNat_natCast

def cBs (B : List Bool) : List C := B.map fun b => C.v (.bool b)
theorem cBs_len (B : List Bool) : (cBs B).length = B.length := by simp [cBs]
theorem cBs_get {B : List Bool} {i : Nat} {b : Bool} (h : B[i]? = some b) : (cBs B)[i]? = some (.v (.bool b)) := by simp [cBs, h]
theorem cBs_set (B : List Bool) (i : Nat) (b : Bool) : (cBs B).set i (.v (.bool b)) = cBs (B.set i b) := by simp [cBs, List.map_set]
theorem cBs_ren (f : List Nat) (B : List Bool) : (cBs B).map (C.ren f) = cBs B := by simp [cBs, C.ren, Function.comp_def]
def tauF (t : Bool) (r : List Ar) : List Ar := r.filter fun a => !t || a.1 == 0
def AdjF (t : Bool) (R : List (List Ar)) (v : Nat) : List Nat := (tauF t (R.getD v [])).map fun a => a.2.toNat
def seenB (B : List Bool) (u : Nat) : Bool := B.getD u false
structure Rs (E : Nat → List Nat) (n : Nat) (F : List Nat) (B : List Bool) (Q : List Nat) : Prop where
 len : B.length = n
 snd : ∀ u, seenB B u = true → ∃ v ∈ F, Rc E v u
 q : ∀ u ∈ Q, u < n ∧ ∃ v ∈ F, Rc E v u
 cl : ∀ u, seenB B u = true → ∀ w ∈ E u, seenB B w = true ∨ w ∈ Q
 st : ∀ v ∈ F, seenB B v = true ∨ v ∈ Q
variable {E : Nat → List Nat} {n u : Nat} {F : List Nat} {B : List Bool} {Q : List Nat}
theorem Rs.start (hF : ∀ v ∈ F, v < n) : Rs E n F (List.replicate n false) F := by
 have e : ∀ u, seenB (List.replicate n false) u = false := fun u => by
  unfold seenB; rw [List.getD_eq_getElem?_getD, List.getElem?_replicate]; split <;> rfl
 exact ⟨by simp, fun u h => (by rw [e] at h; cases h), fun u h => ⟨hF u h, u, h, .refl _⟩, fun u h => (by rw [e] at h; cases h), fun v h => .inr h⟩
theorem Rs.old (h : Rs E n F B (Q ++ [u])) (hs : seenB B u = true) : Rs E n F B Q := by
 refine ⟨h.len, h.snd, fun w hw => h.q w (List.mem_append_left _ hw), fun w hw x hx => ?_, fun v hv => ?_⟩
 ·rcases h.cl w hw x hx with h1 | h1
  ·exact .inl h1
  ·rcases List.mem_append.1 h1 with h1 | h1
   ·exact .inr h1
   ·simp at h1; subst h1; exact .inl hs
 ·rcases h.st v hv with h1 | h1
  ·exact .inl h1
  ·rcases List.mem_append.1 h1 with h1 | h1
   ·exact .inr h1
   ·simp at h1; subst h1; exact .inl hs
theorem Rs.done (h : Rs E n F B []) (u : Nat) : seenB B u = true ↔ ∃ v ∈ F, Rc E v u := by
 refine ⟨h.snd u, fun ⟨v, hv, hr⟩ => ?_⟩
 induction hr with
 | refl => exact (h.st v hv).resolve_right (by simp)
 | tail _ he ih => exact (h.cl _ (ih ⟨v, hv, ‹_›⟩) _ he).resolve_right (by simp)
end Go.Proofs.Ytahnebicgbjonaa
namespace Go.Proofs.Ytahnebicgbjonaa
set_option linter.unusedVariables false
set_option linter.unusedSimpArgs false

def tlA (f : Nat → Nat) (c : Nat) (o : List (List Ar)) (a : Ar) : List (List Ar) := o.set c (o.getD c [] ++ [(a.1, (f a.2.toNat : Int))])
def tlRow (f : Nat → Nat) (c : Nat) (o : List (List Ar)) (row : List Ar) : List (List Ar) := row.foldl (tlA f c) o
theorem tlA_len (f : Nat → Nat) (c : Nat) (o : List (List Ar)) (a : Ar) : (tlA f c o a).length = o.length := by simp [tlA]
theorem Rc.lt {E : Nat → List Nat} {n u v : Nat} (h : Rc E u v) (hu : u < n) (hE : ∀ x, x < n → ∀ y ∈ E x, y < n) : v < n := by
 induction h with
 | refl => exact hu
 | tail _ he ih => exact hE _ ih _ he
theorem adj_lt {R : List (List Ar)} (t : Bool) (hv : looB R = true) : ∀ x, x < R.length → ∀ y ∈ Adj t R x, y < R.length := by
 intro x hx y hy
 unfold Adj at hy
 rw [List.getD_eq_getElem?_getD, List.getElem?_eq_getElem hx, Option.getD_some] at hy
 obtain ⟨a, ha, rfl⟩ := List.mem_map.1 hy
 have h1 : a ∈ R[x] := by
  unfold tauOf at ha
  split at ha
  ·exact (List.takeWhile_sublist _).subset ha
  ·exact ha
 have h2 := (of_decide_eq_true hv).2.2.2 _ (List.getElem_mem hx) a h1
 omega
theorem totA_set (o : List (List Ar)) {c : Nat} (h : c < o.length) (x : Ar) : totA (o.set c (o.getD c [] ++ [x])) = totA o + 1 := by
 induction o generalizing c with
 | nil => simp at h
 | cons a r ih =>
  cases c with
  | zero => simp [totA]; omega
  | succ c =>
   have := ih (c := c) (by simpa using h)
   simp only [List.set_cons_succ, List.getD_cons_succ]
   simp only [totA, List.map_cons, List.sum_cons] at this ⊢
   omega
theorem totA_row (o : List (List Ar)) (c : Nat) : (o.getD c []).length ≤ totA o := by
 induction o generalizing c with
 | nil => simp
 | cons a r ih =>
  cases c with
  | zero => simp [totA]
  | succ c =>
   have := ih c
   simp only [List.getD_cons_succ]
   simp only [totA, List.map_cons, List.sum_cons] at this ⊢
   omega
theorem totA_rep (m : Nat) : totA (List.replicate m []) = 0 := by
 unfold totA
 rw [List.map_replicate, List.sum_replicate_nat]; simp
def TlP (m : Nat) (o : List (List Ar)) : Prop := ∀ r ∈ o, ∀ a ∈ r, 0 ≤ a.1 ∧ a.1 ≤ 1025 ∧ 0 ≤ a.2 ∧ a.2 < (m : Int)
theorem TlP.one {f : Nat → Nat} {m c : Nat} {o : List (List Ar)} {a : Ar} (h : TlP m o) (ha : 0 ≤ a.1 ∧ a.1 ≤ 1025) (hf : f a.2.toNat < m) : TlP m (tlA f c o a) := by
 intro r hr b hb
 rcases List.mem_or_eq_of_mem_set hr with h1 | h1
 ·exact h r h1 b hb
 ·subst h1
  rcases List.mem_append.1 hb with h2 | h2
  ·rw [List.getD_eq_getElem?_getD] at h2
   rcases Nat.lt_or_ge c o.length with h3 | h3
   ·rw [List.getElem?_eq_getElem h3, Option.getD_some] at h2
    exact h _ (List.getElem_mem h3) b h2
   ·rw [List.getElem?_eq_none h3] at h2; simp at h2
  ·simp at h2; subst h2
   exact ⟨ha.1, ha.2, by simp only; omega, by simp only; omega⟩
theorem tau_sorted {r : List Ar} (hs : SortA r) (h0 : ∀ a ∈ r, 0 ≤ a.1) (t : Bool) : tauF t r = tauOf t r := by
 cases t with
 | false => unfold tauF tauOf; simp
 | true =>
  unfold tauF tauOf
  rw [if_pos rfl]
  simp only [Bool.not_true, Bool.false_or]
  induction r with
  | nil => rfl
  | cons a r ih =>
   have hs2 := List.pairwise_cons.1 hs
   by_cases h : (a.1 == 0) = true
   ·rw [List.filter_cons, if_pos h, List.takeWhile_cons, if_pos h, ih hs2.2 fun b hb => h0 b (List.mem_cons_of_mem _ hb)]
   ·rw [List.filter_cons, if_neg h, List.takeWhile_cons, if_neg h]
    refine List.filter_eq_nil_iff.2 fun b hb => ?_
    have h1 := hs2.1 b hb
    rw [ltA_iff] at h1
    have h2 := h0 a List.mem_cons_self
    have h3 : a.1 ≠ 0 := fun e => h (by simp [e])
    have : b.1 ≠ 0 := by omega
    simpa using this
theorem adj_eq {R : List (List Ar)} (t : Bool) (hv : valB R = true) : AdjF t R = Adj t R := by
 funext v
 unfold AdjF Adj
 rcases Nat.lt_or_ge v R.length with h | h
 ·rw [List.getD_eq_getElem?_getD, List.getElem?_eq_getElem h, Option.getD_some]
  have h2 := of_decide_eq_true hv
  rw [tau_sorted (h2.2 _ (List.getElem_mem h)) fun a ha => (h2.1.2.2.2 _ (List.getElem_mem h) a ha).1]
 ·rw [List.getD_eq_getElem?_getD, List.getElem?_eq_none h, Option.getD_none]
  cases t <;> rfl
theorem Least.uniq {E : Nat → List Nat} {v : Nat} {x y : Int} (h1 : Least E v x) (h2 : Least E v y) : x = y := by
 obtain ⟨m, a1, a2, a3, a4⟩ := h1
 obtain ⟨k, b1, b2, b3, b4⟩ := h2
 have := a4 k b2 b3
 have := b4 m a2 a3
 omega
open Go.RowKit
set_option maxRecDepth 100000
attribute [local go_sem] List.set_cons_zero List.set_cons_succ List.map_cons List.map_nil List.take_succ_cons List.take_zero List.drop_zero List.drop_succ_cons C.pl C.one List.all_cons List.all_nil Bool.and_true Nat.mul_one Int.toNat_natCast
theorem asc_bd {l : List Int} {n : Nat} (h : Asc l) (hb : ∀ x ∈ l, 0 ≤ x ∧ x < (n : Int)) : l.length ≤ n := by
 have h1 : (l.map Int.toNat).Nodup := by
  unfold Asc at h
  rw [List.Nodup, List.pairwise_map]
  refine h.imp_of_mem fun {a b} ha hb2 hab e => ?_
  have := hb a ha
  have := hb b hb2
  omega
 have := nodup_le n (l.map Int.toNat) h1 fun u hu => by
  obtain ⟨x, hx, rfl⟩ := List.mem_map.1 hu
  have := hb x hx
  omega
 simpa using this
def cSetsO (L : List (List Int)) : List C := L.map fun r => C.o (1, 3) (tInts r)
theorem cSetsO_len (L : List (List Int)) : (cSetsO L).length = L.length := by simp [cSetsO]
theorem cSetsO_set (L : List (List Int)) (i : Nat) (x : List Int) : (cSetsO L).set i (.o (1, 3) (tInts x)) = cSetsO (L.set i x) := by simp [cSetsO, List.map_set]
theorem cSetsO_ren (f : List Nat) (L : List (List Int)) : (cSetsO L).map (C.ren f) = cSetsO L := by simp [cSetsO, C.ren, Function.comp_def]
def RowOk (E : Nat → List Nat) (n j : Nat) (L : List Int) : Prop := ∃ B : List Bool, B.length = n ∧ (∀ u, seenB B u = true ↔ Rc E j u) ∧ L = ((List.range n).filter (seenB B)).map Int.ofNat
theorem RowOk.len {E : Nat → List Nat} {n j : Nat} {L : List Int} (h : RowOk E n j L) : L.length ≤ n := by
 obtain ⟨B, _, h2, rfl⟩ := h
 rw [List.length_map]
 have := List.length_filter_le (seenB B) (List.range n)
 simpa using this
def Dv (R : List (List Ar)) (s : Nat) : Prop := ∃ g, Rc (Adj true R) s g ∧ ∃ w, w ∈ Adj true R g ∧ Rc (Adj true R) w g
def bfA (s : Nat) (o : List (List Int)) (a : Ar) : List (List Int) := o.set a.2.toNat (o.getD a.2.toNat [] ++ [(s : Int)])
def bfRow (s : Nat) (o : List (List Int)) (row : List Ar) : List (List Int) := row.foldl (bfA s) o
def bfL (R : List (List Ar)) : Nat → List (List Int)
 | 0 => List.replicate R.length []
 | k + 1 => bfRow k (bfL R k) (tauOf true (R.getD k []))
def totI (o : List (List Int)) : Nat := (o.map List.length).sum
theorem bfA_len (s : Nat) (o : List (List Int)) (a : Ar) : (bfA s o a).length = o.length := by simp [bfA]
theorem bfRow_len (s : Nat) (row : List Ar) : ∀ o, (bfRow s o row).length = o.length := by
 induction row with
 | nil => intro o; rfl
 | cons a r ih => intro o; show (bfRow s (bfA s o a) r).length = _; rw [ih, bfA_len]
theorem bfL_len (R : List (List Ar)) (k : Nat) : (bfL R k).length = R.length := by
 induction k with
 | zero => simp [bfL]
 | succ k ih => rw [bfL, bfRow_len, ih]
theorem bfRow_snoc (s : Nat) (o : List (List Int)) (row : List Ar) (a : Ar) : bfRow s o (row ++ [a]) = bfA s (bfRow s o row) a := by unfold bfRow; rw [List.foldl_append]; rfl
theorem totI_set (o : List (List Int)) {c : Nat} (h : c < o.length) (x : Int) : totI (o.set c (o.getD c [] ++ [x])) = totI o + 1 := by
 induction o generalizing c with
 | nil => simp at h
 | cons y r ih =>
  cases c with
  | zero => simp [totI]; omega
  | succ c =>
   have := ih (c := c) (by simpa using h)
   simp only [List.set_cons_succ, List.getD_cons_succ]
   simp only [totI, List.map_cons, List.sum_cons] at this ⊢
   omega
theorem totI_row (o : List (List Int)) (c : Nat) : (o.getD c []).length ≤ totI o := by
 induction o generalizing c with
 | nil => simp
 | cons y r ih =>
  cases c with
  | zero => simp [totI]
  | succ c =>
   have := ih c
   simp only [List.getD_cons_succ]
   simp only [totI, List.map_cons, List.sum_cons] at this ⊢
   omega
theorem totI_bf (s : Nat) (row : List Ar) : ∀ o : List (List Int), (∀ a ∈ row, a.2.toNat < o.length) → totI (bfRow s o row) = totI o + row.length := by
 induction row with
 | nil => intro o _; rfl
 | cons a r ih =>
  intro o h
  show totI (bfRow s (bfA s o a) r) = _
  rw [ih _ (by rw [bfA_len]; exact fun b hb => h b (List.mem_cons_of_mem _ hb))]
  unfold bfA
  rw [totI_set o (h a (by simp))]
  simp only [List.length_cons]; omega
theorem mem_bfA {s t : Nat} {o : List (List Int)} {a : Ar} {x : Int} (h : a.2.toNat < o.length) : x ∈ (bfA s o a).getD t [] ↔ x ∈ o.getD t [] ∨ (a.2.toNat = t ∧ x = (s : Int)) := by
 unfold bfA
 rw [List.getD_eq_getElem?_getD]
 by_cases e : a.2.toNat = t
 ·subst e
  rw [List.getElem?_set_self h, Option.getD_some, List.mem_append]
  simp
 ·rw [List.getElem?_set_ne e, ← List.getD_eq_getElem?_getD]
  simp [e]
theorem mem_bfRow {s t : Nat} {x : Int} : ∀ (row : List Ar) (o : List (List Int)), (∀ a ∈ row, a.2.toNat < o.length) → (x ∈ (bfRow s o row).getD t [] ↔ x ∈ o.getD t [] ∨ (x = (s : Int) ∧ t ∈ row.map fun a => a.2.toNat)) := by
 intro row
 induction row with
 | nil => intro o _; simp [bfRow]
 | cons a r ih =>
  intro o h
  show x ∈ (bfRow s (bfA s o a) r).getD t [] ↔ _
  rw [ih _ (by rw [bfA_len]; exact fun b hb => h b (List.mem_cons_of_mem _ hb)), mem_bfA (h a (by simp))]
  simp only [List.map_cons, List.mem_cons]
  constructor
  ·rintro ((h | ⟨h1, h2⟩) | ⟨h1, h2⟩)
   ·exact .inl h
   ·exact .inr ⟨h2, .inl h1.symm⟩
   ·exact .inr ⟨h1, .inr h2⟩
  ·rintro (h | ⟨h1, h2 | h2⟩)
   ·exact .inl (.inl h)
   ·exact .inl (.inr ⟨h2.symm, h1⟩)
   ·exact .inr ⟨h1, h2⟩
theorem tauOf_sub {t : Bool} {r : List Ar} : ∀ a ∈ tauOf t r, a ∈ r := fun a ha => by
 unfold tauOf at ha
 split at ha
 ·exact (List.takeWhile_sublist _).subset ha
 ·exact ha
theorem tauOf_len (t : Bool) (r : List Ar) : (tauOf t r).length ≤ r.length := by
 unfold tauOf
 split
 ·exact (List.takeWhile_sublist _).length_le
 ·exact Nat.le_refl _
theorem tau_lt {R : List (List Ar)} (hlo : looB R = true) {k : Nat} : ∀ a ∈ tauOf true (R.getD k []), 0 ≤ a.2 ∧ a.2.toNat < R.length := fun a ha => by
 have h1 := tauOf_sub a ha
 rcases Nat.lt_or_ge k R.length with h | h
 ·rw [List.getD_eq_getElem?_getD, List.getElem?_eq_getElem h] at h1
  have := (of_decide_eq_true hlo).2.2.2 _ (List.getElem_mem h) a h1
  omega
 ·rw [List.getD_eq_getElem?_getD, List.getElem?_eq_none h] at h1; simp at h1
theorem mem_bfL {R : List (List Ar)} (hlo : looB R = true) {t : Nat} {x : Int} : ∀ k, x ∈ (bfL R k).getD t [] ↔ ∃ s, s < k ∧ x = (s : Int) ∧ t ∈ Adj true R s := by
 intro k
 induction k with
 | zero =>
  simp only [bfL, List.getD_eq_getElem?_getD, List.getElem?_replicate]
  split <;> simp
 | succ k ih =>
  rw [bfL, mem_bfRow _ _ (by rw [bfL_len]; exact fun a ha => (tau_lt hlo a ha).2), ih]
  constructor
  ·rintro (⟨s, h1, h2, h3⟩ | ⟨h1, h2⟩)
   ·exact ⟨s, by omega, h2, h3⟩
   ·exact ⟨k, by omega, h1, h2⟩
  ·rintro ⟨s, h1, h2, h3⟩
   by_cases e : s = k
   ·subst e; exact .inr ⟨h2, h3⟩
   ·exact .inl ⟨s, by omega, h2, h3⟩
theorem totI_bfL {R : List (List Ar)} (hlo : looB R = true) : ∀ k, k ≤ R.length → totI (bfL R k) ≤ totA (R.take k) := by
 intro k
 induction k with
 | zero => intro _; simp [bfL, totI, totA]
 | succ k ih =>
  intro hk
  have h1 := ih (by omega)
  have h2 := totA_take (R := R) (k := k) hk
  have h3 := tauOf_len true (R.getD k [])
  have h4 : R.getD k [] = R[k] := by rw [List.getD_eq_getElem?_getD, List.getElem?_eq_getElem hk]; rfl
  rw [bfL, totI_bf _ _ _ (by rw [bfL_len]; exact fun a ha => (tau_lt hlo a ha).2)]
  rw [h4] at h3 ⊢
  omega
structure Bq (E : Nat → List Nat) (n : Nat) (G : Nat → Prop) (O : List Int) (Q : List Nat) : Prop where
 len : O.length = n
 lt : ∀ q ∈ Q, q < n
 nd : Q.Nodup
 iff : ∀ s, s < n → (0 ≤ fnL O (-1) s ↔ s ∈ Q)
 hi : ∀ s, fnL O (-1) s ≤ (Q.length : Int)
 rc : ∀ q ∈ Q, ∃ g, g < n ∧ G g ∧ Rc E q g
section
variable {E : Nat → List Nat} {n : Nat} {G : Nat → Prop} {O : List Int} {Q : List Nat}
theorem Bq.qlen (h : Bq E n G O Q) : Q.length ≤ n := by
 have := h.nd.length_le_of_subset (l₂ := List.range n) fun q hq => List.mem_range.2 (h.lt q hq)
 simpa using this
theorem Bq.start (E : Nat → List Nat) (n : Nat) (G : Nat → Prop) : Bq E n G (List.replicate n (-1)) [] := by
 refine ⟨by simp, by simp, List.nodup_nil, fun s hs => ?_, fun s => ?_, by simp⟩
 ·rw [fnL_get (by simpa using hs)]; simp
 ·unfold fnL
  rw [List.getElem?_replicate]
  split <;> simp
theorem Bq.push (h : Bq E n G O Q) {s : Nat} (hs : s < n) (hq : s ∉ Q) {v : Int} (h0 : 0 ≤ v) (h1 : v ≤ (Q.length : Int) + 1) (hr : ∃ g, g < n ∧ G g ∧ Rc E s g) : Bq E n G (O.set s v) (Q ++ [s]) := by
 have hl := h.len
 refine ⟨by simp [hl], fun q hq => ?_, ?_, fun t ht => ?_, fun t => ?_, fun q hq => ?_⟩
 ·rcases List.mem_append.1 hq with h2 | h2
  ·exact h.lt q h2
  ·simp at h2; subst h2; exact hs
 ·rw [List.nodup_append]
  exact ⟨h.nd, by simp, fun a ha b hb => by simp at hb; subst hb; intro e; subst e; exact hq ha⟩
 ·rw [fnL_set (by omega)]
  unfold upd
  split
  ·rename_i e; subst e; simp [h0]
  ·rename_i e; rw [h.iff t ht]; simp [e]
 ·rw [fnL_set (by omega)]
  unfold upd
  simp only [List.length_append, List.length_singleton]
  split
  ·omega
  ·have := h.hi t; omega
 ·rcases List.mem_append.1 hq with h2 | h2
  ·exact h.rc q h2
  ·simp at h2; subst h2; exact hr
theorem Bq.done (h : Bq E n G O Q) (hE : ∀ x, x < n → ∀ y ∈ E x, y < n) (hg : ∀ g, g < n → G g → g ∈ Q) (hc : ∀ q ∈ Q, ∀ p, p < n → q ∈ E p → p ∈ Q) {s : Nat} (hs : s < n) : 0 ≤ fnL O (-1) s ↔ ∃ g, g < n ∧ G g ∧ Rc E s g := by
 rw [h.iff s hs]
 constructor
 ·exact h.rc s
 ·rintro ⟨g, h1, h2, h3⟩
  have key : ∀ x, Rc E s x → x ∈ Q → s ∈ Q := by
   intro x hx
   induction hx with
   | refl => exact id
   | tail hv hw ih => exact fun hq => ih (hc _ hq _ (hv.lt hs hE) hw)
  exact key g h3 (hg g h1 h2)
end
def lp1 (D : List Int) (s : Nat) (row : List Ar) : Bool := row.any fun a => decide (D.getD a.2.toNat 0 = D.getD s 0)
def lpL (R : List (List Ar)) (D : List Int) (k : Nat) : List Bool := (List.range k).map fun s => lp1 D s (tauOf true (R.getD s []))
theorem lpL_len (R : List (List Ar)) (D : List Int) (k : Nat) : (lpL R D k).length = k := by simp [lpL]
theorem lp1_snoc (D : List Int) (s : Nat) (row : List Ar) (a : Ar) : lp1 D s (row ++ [a]) = (lp1 D s row || decide (D.getD a.2.toNat 0 = D.getD s 0)) := by simp [lp1]
theorem lpL_iff {R : List (List Ar)} {D : List Int} (hlo : looB R = true) (hD : D.length = R.length) (hL : ∀ v, v < R.length → Least (Adj true R) v (fnL D (-1) v)) {g : Nat} (hg : g < R.length) : (lpL R D R.length).getD g false = true ↔ ∃ w, w ∈ Adj true R g ∧ Rc (Adj true R) w g := by
 have e1 : (lpL R D R.length).getD g false = lp1 D g (tauOf true (R.getD g [])) := by simp [lpL, List.getD_eq_getElem?_getD, hg]
 have hE := adj_lt true hlo
 have hd : ∀ v, v < R.length → D.getD v 0 = fnL D (-1) v := fun v hv => by rw [fnL_get (by omega), List.getD_eq_getElem?_getD, List.getElem?_eq_getElem (by omega)]; rfl
 rw [e1]
 unfold lp1
 rw [List.any_eq_true]
 simp only [decide_eq_true_eq]
 constructor
 ·rintro ⟨a, ha, e⟩
  have hw : a.2.toNat ∈ Adj true R g := List.mem_map.2 ⟨a, ha, rfl⟩
  have hwl := hE g hg _ hw
  rw [hd _ hwl, hd _ hg] at e
  obtain ⟨x, ex, p1, p2, _⟩ := hL _ hwl
  obtain ⟨y, ey, q1, q2, _⟩ := hL _ hg
  have : x = y := by omega
  subst this
  exact ⟨_, hw, p1.trans q2⟩
 ·rintro ⟨w, hw, hr⟩
  obtain ⟨a, ha, rfl⟩ := List.mem_map.1 hw
  refine ⟨a, ha, ?_⟩
  have hwl := hE g hg _ hw
  rw [hd _ hwl, hd _ hg]
  obtain ⟨x, ex, p1, p2, p3⟩ := hL _ hwl
  obtain ⟨y, ey, q1, q2, q3⟩ := hL _ hg
  have hgw : Rc (Adj true R) g a.2.toNat := .one hw
  have l1 := p3 y (hr.trans q1) (q2.trans hgw)
  have l2 := q3 x (hgw.trans p1) (p2.trans hr)
  omega
def DvL (R : List (List Ar)) (B : List Bool) : Prop := B.length = R.length ∧ ∀ s, s < R.length → (B.getD s false = true ↔ Dv R s)
theorem DvL.uniq {R : List (List Ar)} {A B : List Bool} (h1 : DvL R A) (h2 : DvL R B) : A = B := by
 refine List.ext_getElem (by rw [h1.1, h2.1]) fun i hi hj => ?_
 have a := h1.2 i (by have := h1.1; omega)
 have b := h2.2 i (by have := h1.1; omega)
 rw [List.getD_eq_getElem?_getD, List.getElem?_eq_getElem hi, Option.getD_some] at a
 rw [List.getD_eq_getElem?_getD, List.getElem?_eq_getElem hj, Option.getD_some] at b
 rw [Bool.eq_iff_iff, a, b]
def evI (acc : List Int) (r : List Ar) : List Int := r.foldl (fun acc a => addI a.1 acc) acc
def evG (R : List (List Ar)) (k : Nat) : List Int := (R.take k).foldl evI [0]
theorem evG_succ {R : List (List Ar)} {k : Nat} (h : k < R.length) : evG R (k + 1) = evI (evG R k) R[k] := by
 unfold evG
 rw [List.take_succ_eq_append_getElem h, List.foldl_append]; rfl
theorem mem_evI {x : Int} : ∀ (r : List Ar) (acc : List Int), x ∈ evI acc r ↔ x ∈ acc ∨ ∃ a ∈ r, a.1 = x
 | [], acc => by simp [evI]
 | a :: r, acc => by
  show x ∈ evI (addI a.1 acc) r ↔ _
  rw [mem_evI r, mem_addI]
  simp only [List.mem_cons, exists_eq_or_imp]
  constructor
  ·rintro ((rfl | h) | h)
   ·exact .inr (.inl rfl)
   ·exact .inl h
   ·exact .inr (.inr h)
  ·rintro (h | h | h)
   ·exact .inl (.inr h)
   ·exact .inl (.inl h.symm)
   ·exact .inr h
theorem evI_asc : ∀ (r : List Ar) (acc : List Int), Asc acc → Asc (evI acc r)
 | [], _, h => h
 | _ :: r, _, h => evI_asc r _ (addI_asc h)
theorem evG_ok {R : List (List Ar)} (hb : ∀ r ∈ R, ∀ a ∈ r, 0 ≤ a.1 ∧ a.1 ≤ 1025) (k : Nat) : k ≤ R.length → Asc (evG R k) ∧ (∀ x ∈ evG R k, 0 ≤ x ∧ x < 1026) ∧ (0 : Int) ∈ evG R k ∧ ∀ r ∈ R.take k, ∀ a ∈ r, a.1 ∈ evG R k := by
 induction k with
 | zero => intro _; exact ⟨by simp [evG, Asc], by simp [evG], by simp [evG], by simp⟩
 | succ k ih =>
  intro hk
  obtain ⟨h1, h2, h3, h4⟩ := ih (by omega)
  have hkl : k < R.length := hk
  rw [evG_succ hkl]
  refine ⟨evI_asc _ _ h1, fun x hx => ?_, (mem_evI _ _).2 (.inl h3), fun r hr a ha => ?_⟩
  ·rcases (mem_evI _ _).1 hx with h | ⟨a, ha, rfl⟩
   ·exact h2 x h
   ·have := hb _ (List.getElem_mem hkl) a ha; omega
  ·rw [mem_evI]
   rw [List.take_succ_eq_append_getElem hkl] at hr
   rcases List.mem_append.1 hr with h | h
   ·exact .inl (h4 r h a ha)
   ·simp at h; subst h; exact .inr ⟨a, ha, rfl⟩
noncomputable def sgc (R : List (List Ar)) (s : Nat) : List Nat := ordN R.length (fun u => @decide (Rc (Adj true R) s u) (Classical.propDecidable _))
theorem mem_sgc {R : List (List Ar)} {s u : Nat} : u ∈ sgc R s ↔ u < R.length ∧ Rc (Adj true R) s u := by
 unfold sgc
 rw [mem_ordN]
 simp
noncomputable def dAL (R : List (List Ar)) (s : Nat) (e : Int) : List Int := if e = 0 then (sgc R s).map Int.ofNat else (ordN R.length (fun u => decide (u ∈ tg R (sgc R s) e))).map Int.ofNat
theorem mem_dAL {R : List (List Ar)} (hlo : looB R = true) {s : Nat} (hs : s < R.length) {e x : Int} : x ∈ dAL R s e ↔ (e = 0 ∧ ∃ u : Nat, x = (u : Int) ∧ Rc (Adj true R) s u) ∨ (e ≠ 0 ∧ ∃ t, Rc (Adj true R) s t ∧ ∃ a ∈ R.getD t [], a.1 = e ∧ a.2 = x) := by
 have hE := adj_lt true hlo
 unfold dAL
 by_cases e0 : e = 0
 ·rw [if_pos e0, List.mem_map]
  constructor
  ·rintro ⟨u, hu, rfl⟩
   exact .inl ⟨e0, u, rfl, (mem_sgc.1 hu).2⟩
  ·rintro (⟨_, u, rfl, hu⟩ | ⟨h, _⟩)
   ·exact ⟨u, mem_sgc.2 ⟨hu.lt hs hE, hu⟩, rfl⟩
   ·exact absurd e0 h
 ·rw [if_neg e0, List.mem_map]
  constructor
  ·rintro ⟨u, hu, rfl⟩
   rw [mem_ordN, decide_eq_true_iff, mem_tg] at hu
   obtain ⟨_, t, ht, h2⟩ := hu
   obtain ⟨a, ha, h3, h4⟩ := mem_tgR.1 h2
   have htl := (mem_sgc.1 ht).1
   have hb : 0 ≤ a.2 := by
    rw [List.getD_eq_getElem?_getD, List.getElem?_eq_getElem htl, Option.getD_some] at ha
    exact ((of_decide_eq_true hlo).2.2.2 _ (List.getElem_mem htl) a ha).2.2.1
   exact .inr ⟨e0, t, (mem_sgc.1 ht).2, a, ha, h3, by simp only [Int.ofNat_eq_natCast]; omega⟩
  ·rintro (⟨h, _⟩ | ⟨_, t, ht, a, ha, h3, rfl⟩)
   ·exact absurd h e0
   ·have htl := ht.lt hs hE
    have hb := ha
    rw [List.getD_eq_getElem?_getD, List.getElem?_eq_getElem htl, Option.getD_some] at hb
    have hb2 := (of_decide_eq_true hlo).2.2.2 _ (List.getElem_mem htl) a hb
    refine ⟨a.2.toNat, ?_, by simp only [Int.ofNat_eq_natCast]; omega⟩
    rw [mem_ordN, decide_eq_true_iff, mem_tg]
    exact ⟨by omega, t, mem_sgc.2 ⟨htl, ht⟩, mem_tgR.2 ⟨a, ha, h3, rfl⟩⟩
theorem dAL_bd {R : List (List Ar)} (hlo : looB R = true) {s : Nat} {e : Int} (hs : s < R.length) : (dAL R s e).length ≤ R.length ∧ ∀ x ∈ dAL R s e, 0 ≤ x ∧ x < (R.length : Int) := by
 have hl : ∀ p : Nat → Bool, (ordN R.length p).length ≤ R.length := fun p => by
  unfold ordN
  exact Nat.le_trans (List.length_filter_le _ _) (by simp)
 refine ⟨?_, fun x hx => ?_⟩
 ·unfold dAL
  split <;> rw [List.length_map] <;> exact hl _
 ·unfold dAL at hx
  split at hx
  ·obtain ⟨u, hu, rfl⟩ := List.mem_map.1 hx
   have := (mem_ordN.1 hu).1
   simp only [Int.ofNat_eq_natCast]; omega
  ·obtain ⟨u, hu, rfl⟩ := List.mem_map.1 hx
   have := (mem_ordN.1 hu).1
   simp only [Int.ofNat_eq_natCast]; omega
noncomputable def saE (R : List (List Ar)) (s : Nat) (e : Int) : List Ar := (dAL R s e).map fun u => (e, u)
noncomputable def saP (R : List (List Ar)) (Ev : List Int) (s k : Nat) : List Ar := (Ev.take k).flatMap (saE R s)
noncomputable def saR (R : List (List Ar)) (Ev : List Int) (s : Nat) : List Ar := saP R Ev s Ev.length
noncomputable def saL (R : List (List Ar)) (Ev : List Int) (k : Nat) : List (List Ar) := (List.range k).map (saR R Ev)
theorem saL_len (R : List (List Ar)) (Ev : List Int) (k : Nat) : (saL R Ev k).length = k := by simp [saL]
theorem saP_succ {R : List (List Ar)} {Ev : List Int} {s k : Nat} (h : k < Ev.length) : saP R Ev s (k + 1) = saP R Ev s k ++ saE R s Ev[k] := by
 unfold saP
 rw [List.take_succ_eq_append_getElem h, List.flatMap_append]
 simp
theorem saP_len {R : List (List Ar)} (hlo : looB R = true) {Ev : List Int} {s : Nat} (hs : s < R.length) : ∀ k, k ≤ Ev.length → (saP R Ev s k).length ≤ k * R.length := by
 intro k
 induction k with
 | zero => intro _; simp [saP]
 | succ k ih =>
  intro hk
  have h1 := ih (by omega)
  have h2 := (dAL_bd hlo (e := Ev[k]) hs).1
  rw [saP_succ hk, List.length_append, saE, List.length_map, Nat.succ_mul]
  omega
noncomputable def satR (R : List (List Ar)) : List (List Ar) := saL R (evG R R.length) R.length
theorem mem_satR {R : List (List Ar)} (hv : valB R = true) {s : Nat} (hs : s < R.length) {a : Ar} : a ∈ (satR R).getD s [] ↔ (a.1 = 0 ∧ ∃ u : Nat, a.2 = (u : Int) ∧ Rc (Adj true R) s u) ∨ (a.1 ≠ 0 ∧ ∃ t, Rc (Adj true R) s t ∧ a ∈ R.getD t []) := by
 have hlo : looB R = true := decide_eq_true (of_decide_eq_true hv).1
 have hg : (satR R).getD s [] = saR R (evG R R.length) s := by simp [satR, saL, List.getD_eq_getElem?_getD, hs]
 have hev := evG_ok (R := R) (fun r hr a ha => by have := (of_decide_eq_true hlo).2.2.2 r hr a ha; omega) R.length (Nat.le_refl _)
 rw [List.take_length] at hev
 rw [hg]
 unfold saR saP
 rw [List.take_length, List.mem_flatMap]
 constructor
 ·rintro ⟨e, he, h⟩
  obtain ⟨x, hx, rfl⟩ := List.mem_map.1 h
  rcases (mem_dAL hlo hs).1 hx with ⟨h1, u, rfl, h2⟩ | ⟨h1, t, h2, b, hb, h3, h4⟩
  ·exact .inl ⟨h1, u, rfl, h2⟩
  ·refine .inr ⟨h1, t, h2, ?_⟩
   have : b = (e, x) := by rcases b with ⟨p, q⟩; simp only at h3 h4; rw [h3, h4]
   rw [← this]; exact hb
 ·rintro (⟨h1, u, h2, h3⟩ | ⟨h1, t, h2, h3⟩)
  ·refine ⟨0, hev.2.2.1, List.mem_map.2 ⟨(u : Int), (mem_dAL hlo hs).2 (.inl ⟨rfl, u, rfl, h3⟩), ?_⟩⟩
   rcases a with ⟨p, q⟩; simp only at h1 h2 ⊢; rw [h1, h2]
  ·have htl := h2.lt hs (adj_lt true hlo)
   have h4 := h3
   rw [List.getD_eq_getElem?_getD, List.getElem?_eq_getElem htl, Option.getD_some] at h4
   exact ⟨a.1, hev.2.2.2 _ (List.getElem_mem htl) a h4, List.mem_map.2 ⟨a.2, (mem_dAL hlo hs).2 (.inr ⟨h1, t, h2, a, h3, rfl, rfl⟩), rfl⟩⟩
theorem satR_bd {R : List (List Ar)} (hv : valB R = true) (hn : R.length ≤ 100) : (satR R).length = R.length ∧ ∀ r ∈ satR R, r.length ≤ 1000000 ∧ ∀ a ∈ r, 0 ≤ a.2 ∧ a.2 < (R.length : Int) := by
 have hlo : looB R = true := decide_eq_true (of_decide_eq_true hv).1
 have hl : (satR R).length = R.length := saL_len _ _ _
 have hev := evG_ok (R := R) (fun r hr a ha => by have := (of_decide_eq_true hlo).2.2.2 r hr a ha; omega) R.length (Nat.le_refl _)
 have hevl : (evG R R.length).length ≤ 1026 := asc_bd hev.1 (by simpa using hev.2.1)
 refine ⟨hl, fun r hr => ?_⟩
 obtain ⟨s, hs, rfl⟩ := List.mem_map.1 hr
 rw [List.mem_range] at hs
 have h1 := saP_len hlo (Ev := evG R R.length) hs _ (Nat.le_refl _)
 have h2 : (evG R R.length).length * R.length ≤ 1026 * 100 := Nat.mul_le_mul hevl hn
 refine ⟨by unfold saR; omega, fun a ha => ?_⟩
 unfold saR saP at ha
 obtain ⟨e, _, h⟩ := List.mem_flatMap.1 ha
 obtain ⟨x, hx, rfl⟩ := List.mem_map.1 h
 exact (dAL_bd hlo hs).2 x hx
def dv0 (B : List Bool) (s : Nat) : Int := if B.getD s false = B.getD 0 false then 0 else 1
def dvC (B : List Bool) (n : Nat) : List Int := (List.range n).map (dv0 B)
theorem dvC_get {B : List Bool} {n s : Nat} (h : s < n) : (dvC B n).getD s 0 = dv0 B s := by simp [dvC, List.getD_eq_getElem?_getD, h]
theorem dv_nm {B : List Bool} : ∀ n, 1 ≤ n → (nmG (fun s => B.getD s false) n).1 = dvC B n ∧ ((nmG (fun s => B.getD s false) n).2 = 1 ∧ (∀ s, s < n → B.getD s false = B.getD 0 false) ∨ (nmG (fun s => B.getD s false) n).2 = 2 ∧ ∃ s, s < n ∧ B.getD s false ≠ B.getD 0 false) := by
 intro n
 induction n with
 | zero => intro h; omega
 | succ n ih =>
  intro _
  by_cases h0 : n = 0
  ·subst h0
   refine ⟨?_, .inl ⟨rfl, fun s hs => by rw [show s = 0 by omega]⟩⟩
   show ([] ++ [((0 : Nat) : Int)]) = _
   simp [dvC, dv0]
  ·obtain ⟨h1, h2⟩ := ih (by omega)
   have hd : dvC B (n + 1) = dvC B n ++ [dv0 B n] := by simp [dvC, List.range_succ]
   rcases nm_cases (fun s => B.getD s false) n with ⟨t, a1, a2, a3, a4⟩ | ⟨a3, a4⟩
   ·rw [a4, hd, h1, dvC_get a1]
    have e1 : dv0 B t = dv0 B n := by unfold dv0; rw [a2]
    refine ⟨by rw [e1], ?_⟩
    rcases h2 with ⟨b1, b2⟩ | ⟨b1, s, b2, b3⟩
    ·refine .inl ⟨b1, fun s hs => ?_⟩
     by_cases e : s = n
     ·subst e; rw [← a2]; exact b2 t a1
     ·exact b2 s (by omega)
    ·exact .inr ⟨b1, s, by omega, b3⟩
   ·have hne := a3 0 (by omega)
    have hone : (nmG (fun s => B.getD s false) n).2 = 1 := by
     rcases h2 with ⟨b1, _⟩ | ⟨_, s, b2, b3⟩
     ·exact b1
     ·exfalso
      have c1 := a3 s b2
      revert hne c1 b3
      generalize B.getD s false = x
      generalize B.getD 0 false = y
      generalize B.getD n false = z
      cases x <;> cases y <;> cases z <;> simp
    rw [a4, hd, h1, hone]
    refine ⟨by unfold dv0; rw [if_neg (Ne.symm hne)]; rfl, .inr ⟨rfl, n, by omega, Ne.symm hne⟩⟩
theorem dvC_nrm (B : List Bool) {n : Nat} (h : 1 ≤ n) : Nrm n (dvC B n) := by
 rw [← (dv_nm n h).1]
 exact nrm_nm _ _
def DlC (R : List (List Ar)) (c : List Int) : Prop := ∃ B, DvL R B ∧ FxS (satR R) (dvC B R.length) c
end Go.Proofs.Ytahnebicgbjonaa
