/- Canonical forms depend on the rows as sets; rows joined by insertion. The canonical form of a loose system is valid. Quotients, plain: numbered classes, rows joined by classes. Numbered classes: weak.numbered, ref25.Numbered, count, slices.Max. flow.Canonical. diamond.TauLoops. -/
import Derived.Test.YtahnebicgbjonaaGreatG45
import Derived.Test.YtahnebicgbjonaaGreatMF
import Derived.Test.YtahnebicgbjonaaGreatZk
import Derived.Test.YtahnebicgbjonaaGreatG11
import Derived.Test.YtahnebicgbjonaaGreatG77
import Derived.Test.YtahnebicgbjonaaGreatG12
import Derived.Test.YtahnebicgbjonaaGreatG42
import Derived.Test.YtahnebicgbjonaaGreatMG
namespace Go.Proofs.YtahnebicgbjonaaGreat
set_option linter.unusedVariables false
set_option linter.unusedSimpArgs false

def tiA (f : Nat → Nat) (c : Nat) (o : List (List Ar)) (a : Ar) : List (List Ar) := o.set c (insA (a.1, (f a.2.toNat : Int)) (o.getD c []))
def tiRow (f : Nat → Nat) (c : Nat) (o : List (List Ar)) (row : List Ar) : List (List Ar) := row.foldl (tiA f c) o
theorem tiA_len (f : Nat → Nat) (c : Nat) (o : List (List Ar)) (a : Ar) : (tiA f c o a).length = o.length := by simp [tiA]
def SameS (o p : List (List Ar)) : Prop := o.length = p.length ∧ ∀ i a, a ∈ o.getD i [] ↔ a ∈ p.getD i []
theorem SameS.one {f : Nat → Nat} {c : Nat} {o p : List (List Ar)} (h : SameS o p) (a : Ar) : SameS (tiA f c o a) (tlA f c p a) := by
 refine ⟨by rw [tiA_len, tlA_len]; exact h.1, fun i b => ?_⟩
 have h1 := h.1
 unfold tiA tlA
 simp only [List.getD_eq_getElem?_getD, List.getElem?_set]
 by_cases hi : c = i
 ·subst hi
  by_cases hc : c < o.length
  ·have h2 := h.2 c b
   simp only [List.getD_eq_getElem?_getD] at h2
   rw [if_pos rfl, if_pos hc, if_pos rfl, if_pos (by omega)]
   simp only [Option.getD_some, mem_insA, List.mem_append, List.mem_singleton, h2, or_comm]
  ·rw [if_pos rfl, if_neg hc, if_pos rfl, if_neg (by omega)]
 ·rw [if_neg hi, if_neg hi]
  have h2 := h.2 i b
  simpa only [List.getD_eq_getElem?_getD] using h2
theorem SameS.row {f : Nat → Nat} {c : Nat} : ∀ (row : List Ar) {o p : List (List Ar)}, SameS o p → SameS (tiRow f c o row) (tlRow f c p row)
 | [], _, _, h => h
 | a :: r, _, _, h => SameS.row r (h.one a)
open Go.RowKit
def NumSur (num old : List Int) : Prop := ∀ (j : Nat) (s : Int), old[j]? = some s → 0 ≤ s ∧ num[s.toNat]? = some (j : Int)
theorem NumSur.one {num old : List Int} (h : NumSur num old) {t : Int} (h0 : 0 ≤ t) (h1 : t < num.length) : NumSur (numOne num old t).1 (numOne num old t).2 := by
 have htl : t.toNat < num.length := by omega
 unfold numOne
 split
 ·rename_i hneg
  intro j s hs
  simp only at hs ⊢
  rcases Nat.lt_or_ge j old.length with hj | hj
  ·rw [List.getElem?_append_left hj] at hs
   obtain ⟨q1, q2⟩ := h j s hs
   refine ⟨q1, ?_⟩
   rw [List.getElem?_set, if_neg, q2]
   intro e
   rw [e, List.getD_eq_getElem?_getD, q2, Option.getD_some] at hneg
   omega
  ·rw [List.getElem?_append_right hj] at hs
   have hj' : j = old.length := by
    have := (List.getElem?_eq_some_iff.1 hs).1
    simp at this
    omega
   subst hj'
   simp at hs
   subst hs
   exact ⟨h0, by rw [List.getElem?_set, if_pos rfl, if_pos htl]⟩
 ·exact h
theorem numL_sur (r : List Ar) {num old : List Int} (hr : ∀ a ∈ r, 0 ≤ a.2 ∧ a.2 < num.length) (h : NumSur num old) : NumSur (numL r num old).1 (numL r num old).2.1 := by
 induction r generalizing num old with
 | nil => exact h
 | cons a tl ih =>
  have ha := hr a (by simp)
  exact ih (fun b hb => by rw [numOne_len]; exact hr b (by simp [hb])) (h.one ha.1 ha.2)
theorem numOne_old (num old : List Int) (t : Int) {j : Nat} {s : Int} (h : old[j]? = some s) : (numOne num old t).2[j]? = some s := by
 unfold numOne
 split
 ·simp only
  rw [List.getElem?_append_left (List.getElem?_eq_some_iff.1 h).1, h]
 ·exact h
theorem numL_old (r : List Ar) {num old : List Int} {j : Nat} {s : Int} (h : old[j]? = some s) : (numL r num old).2.1[j]? = some s := by
 induction r generalizing num old with
 | nil => exact h
 | cons a tl ih => exact ih (numOne_old num old a.2 h)
theorem numL_grow (r : List Ar) (num old : List Int) : old.length ≤ (numL r num old).2.1.length := by
 rcases Nat.eq_zero_or_pos old.length with h | h
 ·omega
 ·have := numL_old r (num := num) (old := old) (j := old.length - 1) (s := old[old.length - 1]) (List.getElem?_eq_getElem (by omega))
  have := (List.getElem?_eq_some_iff.1 this).1
  omega
theorem NumSur.start {n : Nat} (hn : 0 < n) : NumSur ((List.replicate n (-1)).set 0 0) [0] := by
 intro j s hs
 cases j with
 | succ j => simp at hs
 | zero =>
  simp at hs; subst hs
  exact ⟨by omega, by simp [hn]⟩
theorem totA_setE (V : List (List Ar)) (s : Nat) : totA (V.set s []) + (V.getD s []).length = totA V := by
 induction V generalizing s with
 | nil => simp [totA]
 | cons x r ih =>
  cases s with
  | zero => simp [totA]; omega
  | succ s =>
   have := ih s
   simp only [List.set_cons_succ, List.getD_cons_succ]
   simp only [totA, List.map_cons, List.sum_cons] at this ⊢
   omega
theorem foldIns_sort (l acc : List Ar) (h : SortA acc) : SortA (l.foldl (fun acc a => insA a acc) acc) := by
 induction l generalizing acc with
 | nil => exact h
 | cons a r ih => exact ih _ (insA_sort h)
structure RowsG (n : Nat) (out : List (List Ar)) : Prop where
 so : ∀ r ∈ out, SortA r
 bd : ∀ r ∈ out, ∀ a ∈ r, 0 ≤ a.1 ∧ a.1 ≤ 1025 ∧ 0 ≤ a.2 ∧ a.2 < (n : Int)
theorem RowsG.le {n m : Nat} {out : List (List Ar)} (h : RowsG n out) (hm : n ≤ m) : RowsG m out := ⟨h.so, fun r hr a ha => by have := h.bd r hr a ha; omega⟩
theorem canGo_val {R : List (List Ar)} {B : Nat} (hb : ∀ r ∈ R, ∀ a ∈ r, 0 ≤ a.1 ∧ a.1 ≤ 1025 ∧ 0 ≤ a.2 ∧ a.2 < (R.length : Int)) : ∀ (f i : Nat) (num old : List Int) (out V : List (List Ar)), NumOk R.length num old → NumInj num old → NumSur num old → i = out.length → i ≤ old.length → R.length ≤ f + i →
  RowsG old.length out → V.length = R.length → (∀ s, s < R.length → (∀ j, j < i → old[j]? ≠ some (s : Int)) → V.getD s [] = R.getD s []) → totA out + totA V ≤ B →
  old.length ≤ (canGo R f i num old out).1.length ∧ (canGo R f i num old out).1.length ≤ R.length ∧ RowsG (canGo R f i num old out).1.length (canGo R f i num old out).1 ∧ totA (canGo R f i num old out).1 ≤ B := by
 intro f
 induction f with
 | zero =>
  intro i num old out V hN hI hS hi ho hf hG hVl hV ht
  have hle := hN.le
  simp only [canGo]
  exact ⟨by omega, by omega, hG.le (by omega), by omega⟩
 | succ f ih =>
  intro i num old out V hN hI hS hi ho hf hG hVl hV ht
  have hle := hN.le
  unfold canGo
  split
  ·rename_i hs
   have := List.getElem?_eq_none_iff.1 hs
   exact ⟨by simp only; omega, by simp only; omega, hG.le (by simp only; omega), by simp only; omega⟩
  ·rename_i s hs
   have hs0 := hN.st s (List.mem_of_getElem? hs)
   have hsl : s.toNat < R.length := by omega
   have hil := (List.getElem?_eq_some_iff.1 hs).1
   have hg : R.getD s.toNat [] = R[s.toNat] := by rw [List.getD_eq_getElem?_getD, List.getElem?_eq_getElem hsl]; rfl
   have hrm := List.getElem_mem hsl
   have hVs : V.getD s.toNat [] = R.getD s.toNat [] := hV s.toNat hsl fun j hj he => by
    have e : ((s.toNat : Nat) : Int) = s := by omega
    rw [e] at he
    have q1 := (hS j s he).2
    have q2 := (hS i s hs).2
    rw [q1] at q2
    injection q2 with q2
    omega
   have hts := totA_setE V s.toNat
   rw [hVs, hg] at hts
   rw [hg]
   have hq : ∀ a ∈ rowOf R[s.toNat], 0 ≤ a.2 ∧ a.2 < (num.length : Int) := fun a ha => by
    have := hb _ hrm a ((mem_rowOf _ a).1 ha); rw [hN.len]; omega
   have hqe : ∀ a ∈ rowOf R[s.toNat], 0 ≤ a.1 ∧ a.1 ≤ 1025 := fun a ha => by
    have := hb _ hrm a ((mem_rowOf _ a).1 ha); omega
   have hl3 := len_rowOf R[s.toNat]
   generalize rowOf R[s.toNat] = q at *
   have hN2 := NumOk.go q [] hN (by rw [← hN.len]; exact hq)
   have hn2 := rowGo_numL q num old []
   rw [hn2] at hN2 ⊢
   simp only at hN2 ⊢
   have hI2 := numL_inj q hq hI
   have hS2 := numL_sur q hq hS
   obtain ⟨hm1, hm2⟩ := numL_map (old := old) q hq
   have hgr := numL_grow q num old
   have hold : ∀ (j : Nat) (x : Int), old[j]? = some x → (numL q num old).2.1[j]? = some x := fun j x h => numL_old q h
   have hrow : SortA ((numL q num old).2.2.foldl (fun acc a => insA a acc) []) := foldIns_sort _ _ List.Pairwise.nil
   have hrl := len_foldl_ins (numL q num old).2.2 []
   have hrb : ∀ a ∈ (numL q num old).2.2.foldl (fun acc a => insA a acc) [], 0 ≤ a.1 ∧ a.1 ≤ 1025 ∧ 0 ≤ a.2 ∧ a.2 < ((numL q num old).2.1.length : Int) := fun a ha => by
    rw [mem_foldl_ins] at ha
    rcases ha with ha | ha
    ·simp at ha
    ·rw [hm1] at ha
     obtain ⟨b, hb1, rfl⟩ := List.mem_map.1 ha
     obtain ⟨x, hx, hp⟩ := hm2 b hb1
     have h1 := hqe b hb1
     have h2 := (List.getElem?_eq_some_iff.1 (hI2.inj _ _ hx hp)).1
     simp only [List.getD_eq_getElem?_getD, hx, Option.getD_some]
     omega
   rw [hm1, List.length_map] at hrl
   simp only [List.length_nil, Nat.zero_add] at hrl
   rw [← hm1] at hrl
   generalize (numL q num old).2.2.foldl (fun acc a => insA a acc) [] = nr at *
   generalize (numL q num old).1 = num2 at *
   generalize (numL q num old).2.1 = old2 at *
   obtain ⟨k1, k2, k3, k4⟩ := ih (i + 1) num2 old2 (out ++ [nr]) (V.set s.toNat []) hN2 hI2 hS2 (by simp; omega) (by omega) (by omega) ⟨fun r hr => by
    rcases List.mem_append.1 hr with h | h
    ·exact hG.so r h
    ·simp at h; subst h; exact hrow, fun r hr a ha => by
    rcases List.mem_append.1 hr with h | h
    ·have := hG.bd r h a ha; omega
    ·simp at h; subst h; exact hrb a ha⟩ (by simp [hVl]) (fun t htl hto => by
    have hne : s.toNat ≠ t := fun e => hto i (by omega) (by rw [hold i s hs]; congr 1; omega)
    rw [List.getD_eq_getElem?_getD, List.getElem?_set_ne hne, ← List.getD_eq_getElem?_getD]
    exact hV t htl fun j hj he => hto j (by omega) (hold j _ he)) (by rw [totA_snoc]; omega)
   exact ⟨by omega, k2, k3, k4⟩
def mx1 (m c : Int) : Int := if m < c + 1 then c + 1 else m
def mxI (m : Int) (l : List Int) : Int := l.foldl mx1 m
def nmGo : List Int → Int → Bool
 | [], _ => true
 | c :: r, m => (!decide (c < 0) && !decide (c > m)) && nmGo r (mx1 m c)
def numB (C : List Int) (n : Nat) : Bool := nmGo C 0 && decide (C.length = n)
theorem mxI_snoc (m : Int) (l : List Int) (c : Int) : mxI m (l ++ [c]) = mx1 (mxI m l) c := by unfold mxI; rw [List.foldl_append]; rfl
theorem mxI_ge (l : List Int) : ∀ m : Int, m ≤ mxI m l ∧ ∀ c ∈ l, c + 1 ≤ mxI m l := by
 induction l with
 | nil => intro m; exact ⟨Int.le_refl _, by simp⟩
 | cons a r ih =>
  intro m
  obtain ⟨h1, h2⟩ := ih (mx1 m a)
  have e : mxI m (a :: r) = mxI (mx1 m a) r := rfl
  have h3 : m ≤ mx1 m a ∧ a + 1 ≤ mx1 m a := by unfold mx1; split <;> omega
  rw [e]
  refine ⟨by omega, fun c hc => ?_⟩
  rcases List.mem_cons.1 hc with rfl | hc
  ·omega
  ·exact h2 c hc
theorem mxI_le {n : Nat} (l : List Int) : ∀ m : Int, nmGo l m = true → 0 ≤ m → mxI m l ≤ m + l.length ∧ (∀ c ∈ l, 0 ≤ c) := by
 induction l with
 | nil => intro m _ _; exact ⟨by simp [mxI], by simp⟩
 | cons a r ih =>
  intro m h hm
  simp only [nmGo, Bool.and_eq_true, Bool.not_eq_true', decide_eq_false_iff_not] at h
  obtain ⟨⟨h1, h2⟩, h3⟩ := h
  have h4 : 0 ≤ mx1 m a ∧ mx1 m a ≤ m + 1 := by unfold mx1; split <;> omega
  obtain ⟨q1, q2⟩ := ih (mx1 m a) h3 h4.1
  have e : mxI m (a :: r) = mxI (mx1 m a) r := rfl
  rw [e]
  refine ⟨by simp only [List.length_cons]; omega, fun c hc => ?_⟩
  rcases List.mem_cons.1 hc with rfl | hc
  ·omega
  ·exact q2 c hc
def maxL (x : Int) (l : List Int) : Int := l.foldl (fun a b => if a < b then b else a) x
theorem maxL_snoc (x : Int) (l : List Int) (y : Int) : maxL x (l ++ [y]) = if maxL x l < y then y else maxL x l := by unfold maxL; rw [List.foldl_append]; rfl
theorem mxI_max (l : List Int) : ∀ x : Int, mxI (x + 1) l = maxL x l + 1 := by
 induction l with
 | nil => intro x; rfl
 | cons a r ih =>
  intro x
  have e : mx1 (x + 1) a = (if x < a then a else x) + 1 := by unfold mx1; split <;> split <;> omega
  show mxI (mx1 (x + 1) a) r = maxL (if x < a then a else x) r + 1
  rw [e, ih]
theorem mxI_cons {x : Int} (l : List Int) (h : 0 ≤ x) : mxI 0 (x :: l) = maxL x (x :: l) + 1 := by
 have e1 : mx1 0 x = x + 1 := by unfold mx1; rw [if_pos (by omega)]
 have e2 : maxL x (x :: l) = maxL x l := by show maxL (if x < x then x else x) l = _; simp
 rw [e2, ← mxI_max, ← e1]; rfl
def clf (C : List Int) (v : Nat) : Nat := (C.getD v 0).toNat
def mxN (C : List Int) : Nat := (mxI 0 C).toNat
theorem num_ok {C : List Int} {n : Nat} (h : numB C n = true) : C.length = n ∧ mxN C ≤ n ∧ (∀ v, v < n → clf C v < mxN C ∧ C[v]? = some ((clf C v : Nat) : Int)) ∧ mxI 0 C = (mxN C : Int) := by
 simp only [numB, Bool.and_eq_true, decide_eq_true_eq] at h
 obtain ⟨h1, h2⟩ := h
 obtain ⟨q1, q2⟩ := mxI_le (n := n) C 0 h1 (Int.le_refl _)
 obtain ⟨p1, p2⟩ := mxI_ge C 0
 refine ⟨h2, by unfold mxN; omega, fun v hv => ?_, by unfold mxN; omega⟩
 have hl : v < C.length := by omega
 have a1 := q2 _ (List.getElem_mem hl)
 have a2 := p2 _ (List.getElem_mem hl)
 unfold clf mxN
 rw [List.getD_eq_getElem?_getD, List.getElem?_eq_getElem hl, Option.getD_some]
 refine ⟨by omega, by congr 1; omega⟩
def qp1 (f : Nat → Nat) (c : Nat) (a : Ar) : Option Ar := if a.1 ≠ 0 ∨ f a.2.toNat ≠ c then some (a.1, (f a.2.toNat : Int)) else none
def pushO (x : Option Ar) (c : Nat) (o : List (List Ar)) : List (List Ar) := match x with | some b => o.set c (o.getD c [] ++ [b]) | none => o
def qpRow (f : Nat → Nat) (c : Nat) (o : List (List Ar)) (row : List Ar) : List (List Ar) := row.foldl (fun o a => pushO (qp1 f c a) c o) o
def qpOut (f : Nat → Nat) (m : Nat) (R : List (List Ar)) : Nat → List (List Ar)
 | 0 => List.replicate m []
 | k + 1 => qpRow f (f k) (qpOut f m R k) (R.getD k [])
def lpO (b : Bool) (c : Nat) : Option Ar := if b then some (0, (c : Int)) else none
def lcL (f : Nat → Nat) (m : Nat) (B : List Bool) (k : Nat) : List Bool := (List.range m).map fun c => (List.range k).any fun s => decide (f s = c) && B.getD s false
def qlOut (L : List Bool) (o : List (List Ar)) : Nat → List (List Ar)
 | 0 => o
 | c + 1 => pushO (lpO (L.getD c false) c) c (qlOut L o c)
def qR (R : List (List Ar)) (C : List Int) (B : List Bool) : List (List Ar) := qlOut (lcL (clf C) (mxN C) B R.length) (qpOut (clf C) (mxN C) R R.length) (mxN C)
theorem pushO_len (x : Option Ar) (c : Nat) (o : List (List Ar)) : (pushO x c o).length = o.length := by cases x <;> simp [pushO]
theorem qpRow_len (f : Nat → Nat) (c : Nat) (row : List Ar) : ∀ o, (qpRow f c o row).length = o.length := by
 induction row with
 | nil => intro o; rfl
 | cons a r ih => intro o; show (qpRow f c (pushO (qp1 f c a) c o) r).length = _; rw [ih, pushO_len]
theorem qpOut_len (f : Nat → Nat) (m : Nat) (R : List (List Ar)) (k : Nat) : (qpOut f m R k).length = m := by
 induction k with
 | zero => simp [qpOut]
 | succ k ih => rw [qpOut, qpRow_len, ih]
theorem qlOut_len (L : List Bool) (o : List (List Ar)) (k : Nat) : (qlOut L o k).length = o.length := by
 induction k with
 | zero => rfl
 | succ k ih => rw [qlOut, pushO_len, ih]
theorem qpRow_snoc (f : Nat → Nat) (c : Nat) (o : List (List Ar)) (row : List Ar) (a : Ar) : qpRow f c o (row ++ [a]) = pushO (qp1 f c a) c (qpRow f c o row) := by unfold qpRow; rw [List.foldl_append]; rfl
theorem mem_pushO {x : Option Ar} {c d : Nat} {o : List (List Ar)} {a : Ar} (h : c < o.length) : a ∈ (pushO x c o).getD d [] ↔ a ∈ o.getD d [] ∨ (d = c ∧ x = some a) := by
 cases x with
 | none => simp [pushO]
 | some b =>
  unfold pushO
  simp only
  rw [List.getD_eq_getElem?_getD]
  by_cases e : c = d
  ·subst e
   rw [List.getElem?_set_self h, Option.getD_some, List.mem_append]
   simp [eq_comm]
  ·rw [List.getElem?_set_ne e, ← List.getD_eq_getElem?_getD]
   simp [Ne.symm e]
theorem mem_qpRow {f : Nat → Nat} {c d : Nat} {a : Ar} : ∀ (row : List Ar) (o : List (List Ar)), c < o.length → (a ∈ (qpRow f c o row).getD d [] ↔ a ∈ o.getD d [] ∨ (d = c ∧ ∃ b ∈ row, qp1 f c b = some a)) := by
 intro row
 induction row with
 | nil => intro o _; simp [qpRow]
 | cons b r ih =>
  intro o h
  show a ∈ (qpRow f c (pushO (qp1 f c b) c o) r).getD d [] ↔ _
  rw [ih _ (by rw [pushO_len]; exact h), mem_pushO h]
  simp only [List.mem_cons, exists_eq_or_imp]
  rw [or_assoc, ← and_or_left]
def QA (R : List (List Ar)) (f : Nat → Nat) (k d : Nat) (a : Ar) : Prop := ∃ s, s < k ∧ f s = d ∧ ∃ b ∈ R.getD s [], qp1 f d b = some a
def QL (f : Nat → Nat) (B : List Bool) (k d : Nat) (a : Ar) : Prop := a = (0, (d : Int)) ∧ ∃ s, s < k ∧ f s = d ∧ B.getD s false = true
theorem QA.succ {R : List (List Ar)} {f : Nat → Nat} {k d : Nat} {a : Ar} : QA R f (k + 1) d a ↔ QA R f k d a ∨ (d = f k ∧ ∃ b ∈ R.getD k [], qp1 f (f k) b = some a) := by
 constructor
 ·rintro ⟨s, h1, h2, h3⟩
  by_cases e : s = k
  ·subst e; subst h2; exact .inr ⟨rfl, h3⟩
  ·exact .inl ⟨s, by omega, h2, h3⟩
 ·rintro (⟨s, h1, h2, h3⟩ | ⟨rfl, h3⟩)
  ·exact ⟨s, by omega, h2, h3⟩
  ·exact ⟨k, by omega, rfl, h3⟩
theorem QL.succ {f : Nat → Nat} {B : List Bool} {k d : Nat} {a : Ar} : QL f B (k + 1) d a ↔ QL f B k d a ∨ (d = f k ∧ lpO (B.getD k false) (f k) = some a) := by
 unfold QL lpO
 constructor
 ·rintro ⟨h0, s, h1, h2, h3⟩
  by_cases e : s = k
  ·subst e; subst h2; exact .inr ⟨rfl, by rw [if_pos h3, h0]⟩
  ·exact .inl ⟨h0, s, by omega, h2, h3⟩
 ·rintro (⟨h0, s, h1, h2, h3⟩ | ⟨rfl, h3⟩)
  ·exact ⟨h0, s, by omega, h2, h3⟩
  ·split at h3
   ·rename_i hb
    injection h3 with h3
    exact ⟨h3.symm, k, by omega, rfl, hb⟩
   ·cases h3
theorem getD_rep {m d : Nat} : (List.replicate m ([] : List Ar)).getD d [] = [] := by
 rw [List.getD_eq_getElem?_getD, List.getElem?_replicate]; split <;> rfl
theorem mem_qpOut {f : Nat → Nat} {m d : Nat} {R : List (List Ar)} {a : Ar} {n : Nat} (hf : ∀ v, v < n → f v < m) : ∀ k, k ≤ n → (a ∈ (qpOut f m R k).getD d [] ↔ QA R f k d a) := by
 intro k
 induction k with
 | zero => intro _; rw [qpOut, getD_rep]; simp [QA]
 | succ k ih =>
  intro hk
  rw [qpOut, mem_qpRow _ _ (by rw [qpOut_len]; exact hf k hk), ih (by omega), QA.succ]
theorem mem_qlOut {L : List Bool} {d : Nat} {o : List (List Ar)} {a : Ar} : ∀ k, k ≤ o.length → (a ∈ (qlOut L o k).getD d [] ↔ a ∈ o.getD d [] ∨ (d < k ∧ L.getD d false = true ∧ a = (0, (d : Int)))) := by
 intro k
 induction k with
 | zero => intro _; simp [qlOut]
 | succ k ih =>
  intro hk
  rw [qlOut, mem_pushO (by rw [qlOut_len]; exact hk), ih (by omega)]
  unfold lpO
  constructor
  ·rintro ((h | ⟨h1, h2, h3⟩) | ⟨rfl, h2⟩)
   ·exact .inl h
   ·exact .inr ⟨by omega, h2, h3⟩
   ·split at h2
    ·rename_i hb; injection h2 with h2; exact .inr ⟨by omega, hb, h2.symm⟩
    ·cases h2
  ·rintro (h | ⟨h1, h2, h3⟩)
   ·exact .inl (.inl h)
   ·by_cases e : d = k
    ·subst e; exact .inr ⟨rfl, by rw [if_pos h2, h3]⟩
    ·exact .inl (.inr ⟨by omega, h2, h3⟩)
theorem lcL_len (f : Nat → Nat) (m : Nat) (B : List Bool) (k : Nat) : (lcL f m B k).length = m := by simp [lcL]
theorem lcL_get {f : Nat → Nat} {m : Nat} {B : List Bool} {k d : Nat} (hd : d < m) : (lcL f m B k).getD d false = (List.range k).any fun s => decide (f s = d) && B.getD s false := by
 simp [lcL, List.getD_eq_getElem?_getD, hd]
theorem lcL_set {f : Nat → Nat} {m : Nat} {B : List Bool} {k : Nat} (hf : f k < m) : (lcL f m B k).set (f k) ((lcL f m B k).getD (f k) false || B.getD k false) = lcL f m B (k + 1) := by
 have hl := lcL_len f m B k
 refine List.ext_getElem (by simp [lcL]) fun i h1 h2 => ?_
 rw [lcL_len] at h2
 have e2 : (lcL f m B (k + 1))[i]'(by rw [lcL_len]; exact h2) = ((List.range (k + 1)).any fun s => decide (f s = i) && B.getD s false) := by simp [lcL]
 rw [e2, List.range_succ, List.any_append]
 by_cases e : f k = i
 ·subst e
  rw [List.getElem_set_self, lcL_get hf]
  simp
 ·rw [List.getElem_set_ne e]
  have e3 : (lcL f m B k)[i]'(by rw [lcL_len]; exact h2) = ((List.range k).any fun s => decide (f s = i) && B.getD s false) := by simp [lcL]
  rw [e3]
  simp [e]
theorem mem_qR {R : List (List Ar)} {C : List Int} {B : List Bool} (h : numB C R.length = true) {d : Nat} {a : Ar} : a ∈ (qR R C B).getD d [] ↔ QA R (clf C) R.length d a ∨ QL (clf C) B R.length d a := by
 obtain ⟨h1, h2, h3, _⟩ := num_ok h
 have hf : ∀ v, v < R.length → clf C v < mxN C := fun v hv => (h3 v hv).1
 unfold qR
 rw [mem_qlOut _ (by rw [qpOut_len]; exact Nat.le_refl _), mem_qpOut hf _ (Nat.le_refl _)]
 refine or_congr Iff.rfl ?_
 unfold QL
 constructor
 ·rintro ⟨g1, g2, g3⟩
  rw [lcL_get g1, List.any_eq_true] at g2
  obtain ⟨s, hs, hb⟩ := g2
  simp only [Bool.and_eq_true, decide_eq_true_eq] at hb
  exact ⟨g3, s, List.mem_range.1 hs, hb.1, hb.2⟩
 ·rintro ⟨g3, s, hs, rfl, hb⟩
  refine ⟨hf s hs, ?_, g3⟩
  rw [lcL_get (hf s hs), List.any_eq_true]
  exact ⟨s, List.mem_range.2 hs, by simp only [Bool.and_eq_true, decide_eq_true_eq]; exact ⟨trivial, hb⟩⟩
theorem pushO_tot (x : Option Ar) (c : Nat) (o : List (List Ar)) : totA (pushO x c o) ≤ totA o + 1 := by
 cases x with
 | none => simp [pushO]
 | some b =>
  unfold pushO
  by_cases h : c < o.length
  ·simp only; rw [totA_set o h]; exact Nat.le_refl _
  ·simp only; rw [List.set_eq_of_length_le (by omega)]; omega
theorem qpRow_tot (f : Nat → Nat) (c : Nat) (row : List Ar) : ∀ o, totA (qpRow f c o row) ≤ totA o + row.length := by
 induction row with
 | nil => intro o; exact Nat.le_refl _
 | cons a r ih =>
  intro o
  have h1 := ih (pushO (qp1 f c a) c o)
  have h2 := pushO_tot (qp1 f c a) c o
  show totA (qpRow f c (pushO (qp1 f c a) c o) r) ≤ _
  simp only [List.length_cons]; omega
theorem qpOut_tot (f : Nat → Nat) (m : Nat) (R : List (List Ar)) : ∀ k, k ≤ R.length → totA (qpOut f m R k) ≤ totA (R.take k) := by
 intro k
 induction k with
 | zero => intro _; rw [qpOut, totA_rep]; omega
 | succ k ih =>
  intro hk
  have h1 := ih (by omega)
  have h2 := totA_take (R := R) (k := k) hk
  have h3 := qpRow_tot f (f k) (R.getD k []) (qpOut f m R k)
  have h4 : R.getD k [] = R[k] := by rw [List.getD_eq_getElem?_getD, List.getElem?_eq_getElem hk]; rfl
  rw [qpOut]
  rw [h4] at h3 ⊢
  omega
theorem qlOut_tot (L : List Bool) (o : List (List Ar)) : ∀ k, totA (qlOut L o k) ≤ totA o + k := by
 intro k
 induction k with
 | zero => exact Nat.le_refl _
 | succ k ih =>
  have := pushO_tot (lpO (L.getD k false) k) k (qlOut L o k)
  rw [qlOut]; omega
theorem QA.bd {R : List (List Ar)} {f : Nat → Nat} {m k d : Nat} {a : Ar} (hlo : looB R = true) (hk : k ≤ R.length) (hf : ∀ v, v < R.length → f v < m) (h : QA R f k d a) : 0 ≤ a.1 ∧ a.1 ≤ 1025 ∧ 0 ≤ a.2 ∧ a.2 < (m : Int) := by
 obtain ⟨s, h1, h2, b, hb, h3⟩ := h
 have hs : s < R.length := by omega
 rw [List.getD_eq_getElem?_getD, List.getElem?_eq_getElem hs] at hb
 have hbd := (of_decide_eq_true hlo).2.2.2 _ (List.getElem_mem hs) b hb
 unfold qp1 at h3
 split at h3
 ·injection h3 with h3
  subst h3
  have := hf b.2.toNat (by omega)
  simp only; omega
 ·cases h3
theorem qR_bd {R : List (List Ar)} {C : List Int} {B : List Bool} (hlo : looB R = true) (h : numB C R.length = true) : (qR R C B).length = mxN C ∧ (∀ r ∈ qR R C B, ∀ a ∈ r, 0 ≤ a.1 ∧ a.1 ≤ 1025 ∧ 0 ≤ a.2 ∧ a.2 < ((qR R C B).length : Int)) ∧ totA (qR R C B) ≤ totA R + R.length := by
 obtain ⟨h1, h2, h3, _⟩ := num_ok h
 have hf : ∀ v, v < R.length → clf C v < mxN C := fun v hv => (h3 v hv).1
 have hl : (qR R C B).length = mxN C := by unfold qR; rw [qlOut_len, qpOut_len]
 refine ⟨hl, fun r hr a ha => ?_, ?_⟩
 ·obtain ⟨d, hd, rfl⟩ := List.getElem_of_mem hr
  have hd2 : d < mxN C := by omega
  have ha2 : a ∈ (qR R C B).getD d [] := by rw [List.getD_eq_getElem?_getD, List.getElem?_eq_getElem hd]; exact ha
  rw [hl]
  rcases (mem_qR h).1 ha2 with q | ⟨q, _⟩
  ·exact q.bd hlo (Nat.le_refl _) hf
  ·subst q; simp only; omega
 ·have a1 := qlOut_tot (lcL (clf C) (mxN C) B R.length) (qpOut (clf C) (mxN C) R R.length) (mxN C)
  have a2 := qpOut_tot (clf C) (mxN C) R R.length (Nat.le_refl _)
  rw [List.take_length] at a2
  unfold qR
  omega
set_option maxRecDepth 100000
attribute [local go_sem] List.set_cons_zero List.set_cons_succ List.map_cons List.map_nil List.take_succ_cons List.take_zero List.drop_zero List.drop_succ_cons C.pl C.one List.all_cons List.all_nil Bool.and_true Nat.mul_one Int.toNat_natCast
theorem nm_step {C : List Int} {k : Nat} (h : k < C.length) {m : Int} : nmGo (C.drop k) m = ((!decide (C[k] < 0) && !decide (C[k] > m)) && nmGo (C.drop (k + 1)) (mx1 m C[k])) := by
 rw [List.drop_eq_getElem_cons h, nmGo]
theorem mx_step {C : List Int} {k : Nat} (h : k < C.length) : mxI 0 (C.take (k + 1)) = mx1 (mxI 0 (C.take k)) C[k] := by
 rw [List.take_succ_eq_append_getElem h, mxI_snoc]
theorem num_fc (C : List Int) (n : Nat) (hC : C.length ≤ 9223372036854775807) : FC Tryz.prog 71 [aInts C, .i n] [] (fun r o => o = [] ∧ r = .b (numB C n)) := by
 refine fc_intro Tryz.func71 rfl (by rw [Tryz.ntmps71]; simp) ?_
 rw [Tryz.ntmps71]
 simp only [enum, aInts]
 (refine wk1 @tInts_len ?_;(repeat clear hK K);repeat refine kq fun K hK=>?_)
 refine aw_loop (fun k : Nat => { tm := [(0, .a (.c (.t 1 (tInts C)))), (1, .i n), (5, .i (mxI 0 (C.take k))), (8, .a (.c (.t 1 (tInts C)))), (9, .i C.length), (10, .i k)], hp := [], n := 30, pin := 0 }) (fun k => k ≤ C.length ∧ nmGo C 0 = nmGo (C.drop k) (mxI 0 (C.take k)) ∧ 0 ≤ mxI 0 (C.take k) ∧ mxI 0 (C.take k) ≤ k) (fun k => C.length - k) 0 ?_ ?_ ?_
 ·exact ⟨by omega, by simp [mxI], by simp [mxI], by simp [mxI]⟩
 ·have e : mxI 0 (C.take 0) = 0 := by simp [mxI]
  rw [e]
  exact lmz
 ·rintro k ⟨hk, hg, hm0, hmk⟩ K hK
  by_cases hlt : k < C.length
  ·have d1 : decide ((k : Int) < (C.length : Int)) = true := by simpa using hlt
   have gc := tInts_get (List.getElem?_eq_getElem hlt)
   have hs := nm_step hlt (m := mxI 0 (C.take k))
   have hx := mx_step hlt
   generalize C[k] = c at *
   generalize mxI 0 (C.take k) = m at *
   rw [hs] at hg
   by_cases h1 : c < 0
   ·have d2 : decide (c < 0) = true := by simpa using h1
    (refine wk1 @d1 ?_;(repeat clear hK K);repeat refine kq fun K hK=>?_)
    refine cxz ?_
    (refine wk1 (an @tInts_len (an @gc @d2)) ?_;(repeat clear hK K);repeat refine kq fun K hK=>?_)
    refine cxz ?_
    (refine wk0 ?_;(repeat clear hK K);repeat refine kq fun K hK=>?_)
    refine rq0 Tryz.results71 ?_
    simp [numB, hg, h1]
   ·have d2 : decide (c < 0) = false := by simpa using h1
    by_cases h2 : c > m
    ·have d3 : decide (c > m) = true := by simpa using h2
     (refine wk1 @d1 ?_;(repeat clear hK K);repeat refine kq fun K hK=>?_)
     refine cxz ?_
     (refine wk1 (an @tInts_len (an @gc (an @d2 @d3))) ?_;(repeat clear hK K);repeat refine kq fun K hK=>?_)
     refine cxz ?_
     (refine wk0 ?_;(repeat clear hK K);repeat refine kq fun K hK=>?_)
     refine rq0 Tryz.results71 ?_
     simp [numB, hg, h2]
    ·have d3 : decide (c > m) = false := by simpa using h2
     (refine wk1 @d1 ?_;(repeat clear hK K);repeat refine kq fun K hK=>?_)
     refine cxz ?_
     (refine wk1 (an @tInts_len (an @gc (an @d2 @d3))) ?_;(repeat clear hK K);repeat refine kq fun K hK=>?_)
     refine cyz ?_
     (refine wk0 ?_;(repeat clear hK K);repeat refine kq fun K hK=>?_)
     refine rnz ?_
     have h3 : 0 ≤ mx1 m c ∧ mx1 m c ≤ m + 1 := by unfold mx1; split <;> omega
     refine hK _ (k + 1) ⟨by omega, by rw [hg, hx, d2, d3]; simp, by rw [hx]; omega, by rw [hx]; omega⟩ (by omega) ?_
     have e : (if c + 1 > m then c + 1 else m) = mxI 0 (C.take (k + 1)) := by rw [hx]; rfl
     rw [← e]
     exact lmz
  ·have d1 : decide ((k : Int) < (C.length : Int)) = false := by simpa using hlt
   have hd : nmGo C 0 = true := by rw [hg, List.drop_of_length_le (by omega)]; rfl
   (refine wk1 @d1 ?_;(repeat clear hK K);repeat refine kq fun K hK=>?_)
   refine cyz ?_
   (refine ekz ?_;repeat clear hK K)
   (refine wk1 @tInts_len ?_;(repeat clear hK K);repeat refine kq fun K hK=>?_)
   refine rq0 Tryz.results71 ?_
   have e : ((C.length : Int) == (n : Int)) = decide (C.length = n) := by rw [Bool.eq_iff_iff, beq_iff_eq, decide_eq_true_iff]; omega
   rw [numB, hd, Bool.true_and, e]
theorem max_fc (C : List Int) (h1 : 0 < C.length) (hC : C.length ≤ 140737488355328) : FC Tryz.prog 72 [aInts C] [] (fun r o => o = [] ∧ r = .i (maxL C[0] C)) := by
 refine fc_intro Tryz.func72 rfl (by rw [Tryz.ntmps72]; simp) ?_
 rw [Tryz.ntmps72]
 simp only [enum, aInts]
 have d0 : decide ((C.length : Int) < 1) = false := by simp; omega
 have g0 : (tInts C)[0]? = some (.v (.int .i64 C[0])) := tInts_get (List.getElem?_eq_getElem h1)
 (refine wk1 (an @tInts_len @d0) ?_;(repeat clear hK K);repeat refine kq fun K hK=>?_)
 refine cyz ?_
 (refine wk1 (an @tInts_len (an @g0 @Int.toNat_zero)) ?_;(repeat clear hK K);repeat refine kq fun K hK=>?_)
 refine aw_loop (fun k : Nat => { tm := [(0, .a (.c (.t 1 (tInts C)))), (3, .i (maxL C[0] (C.take k))), (4, .i k)], hp := [], n := 25, pin := 0 }) (fun k => 1 ≤ k ∧ k ≤ C.length) (fun k => C.length - k) 1 ?_ ?_ ?_
 ·omega
 ·have e : C.take 1 = [C[0]] := by rw [List.take_succ_eq_append_getElem h1]; rfl
  have e2 : maxL C[0] [C[0]] = C[0] := by simp [maxL]
  (refine le_tm ?_; simp only [LeTm, go_sem, e, e2]; try simp)
 ·rintro k ⟨hk1, hk⟩ K hK
  by_cases hlt : k < C.length
  ·have d1 : decide ((k : Int) < (C.length : Int)) = true := by simpa using hlt
   have g1 := tInts_get (List.getElem?_eq_getElem hlt)
   (refine wk1 (an @tInts_len @d1) ?_;(repeat clear hK K);repeat refine kq fun K hK=>?_)
   refine cxz ?_
   (refine wk1 (an @tInts_len @g1) ?_;(repeat clear hK K);repeat refine kq fun K hK=>?_)
   refine rnz ?_
   refine hK _ (k + 1) ⟨by omega, by omega⟩ (by omega) ?_
   have e := List.take_succ_eq_append_getElem hlt
   (refine le_tm ?_; simp only [LeTm, go_sem, e, maxL_snoc]; try simp)
  ·have d1 : decide ((k : Int) < (C.length : Int)) = false := by simpa using hlt
   have he : C.take k = C := List.take_of_length_le (by omega)
   rw [he]
   (refine wk1 (an @tInts_len @d1) ?_;(repeat clear hK K);repeat refine kq fun K hK=>?_)
   refine cyz ?_
   (refine ekz ?_;repeat clear hK K)
   (refine wk0 ?_;(repeat clear hK K);repeat refine kq fun K hK=>?_)
   exact rqc0 Tryz.results72
theorem canGo_pre (R : List (List Ar)) : ∀ (f i : Nat) (num old : List Int) (out : List (List Ar)), ∃ l, (canGo R f i num old out).1 = out ++ l := by
 intro f
 induction f with
 | zero => intro i num old out; exact ⟨[], by simp [canGo]⟩
 | succ f ih =>
  intro i num old out
  unfold canGo
  split
  ·exact ⟨[], by simp⟩
  ·obtain ⟨l, hl⟩ := ih (i + 1) (rowGo (rowOf (R.getD (Int.toNat ‹_›) [])) num old []).1 (rowGo (rowOf (R.getD (Int.toNat ‹_›) [])) num old []).2.1 (out ++ [(rowGo (rowOf (R.getD (Int.toNat ‹_›) [])) num old []).2.2])
   exact ⟨_ :: l, by rw [hl, List.append_assoc]; rfl⟩
theorem totA_app (x y : List (List Ar)) : totA (x ++ y) = totA x + totA y := by simp [totA]
theorem totA_one (r : List Ar) : totA [r] = r.length := by simp [totA]
def fcR (q : List (List Ar)) (r : AV) (o : List Ob) : Prop :=
 if totA q ≤ 262144 then o = [.r ⟨25, 1, false, [.t 1 (tRows q)]⟩] ∧ r = .tup [.g [.t 1 (tRows q)], .c (.v (.bool true))]
 else o = [.r ⟨25, 1, false, [.v (.slice none 0 0)]⟩] ∧ r = .tup [.g [.v (.slice none 0 0)], .c (.v (.bool false))]
set_option maxHeartbeats 8000000 in
theorem fcanon_fc (R : List (List Ar)) (h1 : 1 ≤ R.length) (hbd : ∀ r ∈ R, ∀ a ∈ r, 0 ≤ a.2 ∧ a.2 < (R.length : Int)) (hn : R.length ≤ 1000000) (hr : ∀ r ∈ R, r.length ≤ 1000000) : FC Tryz.prog 73 [.a (.c (.t 1 (tRows R)))] [] (fcR (canonR R).1) := by
 refine fc_intro Tryz.func73 rfl (by rw [Tryz.ntmps73]; simp) ?_
 rw [Tryz.ntmps73]
 simp only [enum]
 (refine wk1 @tRows_len ?_;(repeat clear hK K);repeat refine kq fun K hK=>?_)
 (refine lst_cons rfl ?_; intro K1 hK1; refine stp_callσ (ids := []) [1] (repeat_fc (-1) R.length h1 hn) rfl rfl (by simp only [go_sem]) (by first | assumption | kernel_rfl) rfl rfl (by (simp only [List.map_append, List.append_nil, go_sem]) <;> rfl) (by (simp only [pkh, rInts, cInts, go_sem]) <;> rfl) ?_ ?_)
 ·rintro _ _ ⟨rfl, rfl⟩; rfl
 rintro _ _ ⟨rfl, rfl⟩
 (simp only [aInts, aSets, rInts, cInts_up, List.append_nil, List.nil_append, List.length_map, go_sem]; refine hK1 _ ?_; clear hK1 K1)
 have g0 : 0 < (List.replicate R.length (-1 : Int)).length := by simp; omega
 (refine wks1 (an @cInts_len (an @List.length_replicate.{0} @cInts_set)) ?_;(repeat clear hK K);repeat refine kq fun K hK=>?_)
 refine aw_le (le_new 45 1) ?_
 simp only [List.cons_append, List.nil_append]
 refine aw_le (le_cell 4 0 5 (by decide) rfl rfl rfl) ?_
 simp only [List.set_cons_zero, List.set_cons_succ]
 refine aw_le (le_pick [0, 2, 3, 4, 5] rfl rfl) ?_
 (try simp only [List.set_nil, List.take_nil, List.take_zero, List.map_append, go_sem])
 (try simp only [cInts_ren])
 refine aw_loop (fun x : Nat × List Int × List Int × List (List Ar) => { tm := [(0, .a (.c (.t 1 (tRows R)))), (2, .a (.c (.p 0 0))), (4, .a (.c (.s 1 R.length))), (5, .a (.c (.s 2 x.2.2.1.length))), (6, .i (totA x.2.2.2)), (7, .a (.c (.p 3 0))), (8, .i x.1)], hp := [.r ⟨25, 1, false, [.v (.slice none 0 0)]⟩, .r ⟨3, 1, true, cInts x.2.1⟩, .r ⟨3, 1, true, cInts x.2.2.1⟩, .r ⟨25, 1, false, [.s 4 x.1]⟩, .r ⟨45, 1, true, cRows x.2.2.2⟩], n := 87, pin := 0 }) (fun x => NumOk R.length x.2.1 x.2.2.1 ∧ NumInj x.2.1 x.2.2.1 ∧ canGo R (R.length - x.1) x.1 x.2.1 x.2.2.1 x.2.2.2 = canonR R ∧ x.1 ≤ x.2.2.1.length ∧ x.2.2.2.length = x.1 ∧ totA x.2.2.2 ≤ 262144) (fun x => R.length - x.1) (0, (List.replicate R.length (-1)).set 0 0, [0], []) ?_ ?_ ?_
 ·exact ⟨NumOk.start h1, NumInj.start h1, rfl, by simp, rfl, by simp [totA]⟩
 ·simp only [totA, List.map_nil, List.sum_nil]
  exact lmz
 ·rintro ⟨i, num, old, out⟩ ⟨hN, hI, hC, hio, hoi, hto⟩ K hK
  simp only at hN hI hC hio hoi hto
  have hlen := hN.len
  have hle := hN.le
  by_cases hlt : i < old.length
  ·have d1 : decide ((i : Int) < (old.length : Int)) = true := by simpa using hlt
   have hs0 := hN.st _ (List.getElem_mem hlt)
   obtain ⟨sn, hsn⟩ : ∃ sn : Nat, old[i] = sn := ⟨old[i].toNat, by omega⟩
   have hsl : sn < R.length := by omega
   have go : (cInts old)[i]? = some (.v (.int .i64 sn)) := by rw [← hsn]; exact cInts_get (List.getElem?_eq_getElem hlt)
   have hgR := List.getElem?_eq_getElem hsl
   have hrl := hr _ (List.getElem_mem hsl)
   have hst := canGo_step (rows := R) (n := R.length) (i := i) (num := num) (old := old) (out := out) (s := (sn : Int)) (r := R[sn]) (by omega) (by rw [List.getElem?_eq_getElem hlt, hsn]) (by simp [hgR]) rfl
   generalize hrr : R[sn] = r at *
   have hcl := clone_arcs (tArcs r) (by rw [tArcs_len]; omega)
   rw [tArcs_of, tArcs_len, half2] at hcl
   (refine wk1 (an @d1 @cInts_len) ?_;(repeat clear hK K);repeat refine kq fun K hK=>?_)
   refine cxz ?_
   (refine wk1 (an @tRows_len (an (tRows_get hgR) (an @cInts_len @go))) ?_;(repeat clear hK K);repeat refine kq fun K hK=>?_)
   (refine ckz hcl ?_; intro K1 hK1)
   rintro _ _ ⟨rfl, rfl⟩
   (simp only [aInts, aSets, cArcs_up3, List.append_nil, List.nil_append, List.length_map, go_sem]; refine hK1 _ ?_; clear hK1 K1)
   (refine wk0 ?_;(repeat clear hK K);repeat refine kq fun K hK=>?_)
   (refine lst_cons rfl ?_; intro K1 hK1; refine stp_callσ (ids := []) [5] (sortA_fc 85 (by kernel_rfl) fcmp_fc r (by omega)) rfl rfl (by simp only [go_sem]) (by first | assumption | kernel_rfl) rfl rfl (by (simp only [List.map_append, List.append_nil, go_sem]) <;> rfl) (by (simp only [pkh, cArcs_ren3, go_sem]) <;> rfl) ?_ ?_)
   ·rintro _ _ ⟨rfl, L', _, _, rfl⟩; rfl
   rintro _ _ ⟨rfl, L', hperm, hsort, rfl⟩
   (simp only [aInts, aSets, cArcs_up3, List.append_nil, List.nil_append, List.length_map, go_sem]; refine hK1 _ ?_; clear hK1 K1)
   have hLl := hperm.length_eq
   have hq : cmpA L' = rowOf r := by rw [cmpA_comp]; exact comp_sort hperm hsort
   rw [← hLl]
   (refine wk0 ?_;(repeat clear hK K);repeat refine kq fun K hK=>?_)
   (refine lst_cons rfl ?_; intro K1 hK1; refine stp_callσ (ids := []) [5] (compact_arcs L' (by omega)) rfl rfl (by simp only [go_sem]) (by first | assumption | kernel_rfl) rfl rfl (by (simp only [List.map_append, List.append_nil, go_sem]) <;> rfl) (by (simp only [pkh, cArcs_ren3, go_sem]) <;> rfl) ?_ ?_)
   ·rintro _ _ ⟨rfl, rest, us, _, _, rfl⟩; rfl
   rintro _ _ ⟨rfl, rest, us, hrest, hr0, rfl⟩
   (simp only [aInts, aSets, cArcs_up3, List.append_nil, List.nil_append, List.length_map, go_sem]; refine hK1 _ ?_; clear hK1 K1)
   (refine wk0 ?_;(repeat clear hK K);repeat refine kq fun K hK=>?_)
   obtain ⟨q, hqd⟩ : ∃ q, q = rowOf r := ⟨_, rfl⟩
   rw [← hqd] at hq hst
   have hqs : SortA q := by rw [hqd]; exact rowOf_sorted r
   have hql : q.length ≤ 1000000 := by rw [hqd]; exact Nat.le_trans (len_rowOf r) (by omega)
   have hqb : ∀ a ∈ q, 0 ≤ a.2 ∧ a.2 < (R.length : Int) := fun a ha => by
    rw [hqd, mem_rowOf] at ha
    exact hbd r (by rw [← hrr]; exact List.getElem_mem hsl) a ha
   rw [hq]
   refine aw_le (le_take 5 (q.length * 2) rfl ?_) ?_
   ·intro _ h
    rw [cut_arcs _ _ _ (cArcs_up3 _ _)] at h
    have hq0 : q = [] := by
     have := congrArg List.length h
     rw [cArcs_len] at this
     exact List.length_eq_zero_iff.1 (by simp at this; omega)
    have hL0 : L' = [] := by
     cases L' with
     | nil => rfl
     | cons x xs =>
      have : cmpA (x :: xs) = [] := by rw [hq, hq0]
      simp [cmpA] at this
    rw [hr0 hL0, hq0]; rfl
   simp only [cut_arcs _ _ _ (cArcs_up3 _ _), go_sem]
   refine aw_loop (fun x : Nat × List Int × List Int × List Ar => { tm := [(0, .a (.c (.t 1 (tRows R)))), (2, .a (.c (.p 0 0))), (4, .a (.c (.s 1 R.length))), (5, .a (.c (.s 2 x.2.2.1.length))), (6, .i (totA out)), (7, .a (.c (.p 3 0))), (8, .i i), (9, .a (.c (.s 5 q.length))), (37, .a (.c (.s 5 q.length))), (38, .i q.length), (39, .i x.1)], hp := [.r ⟨25, 1, false, [.v (.slice none 0 0)]⟩, .r ⟨3, 1, true, cInts x.2.1⟩, .r ⟨3, 1, true, cInts x.2.2.1⟩, .r ⟨25, 1, false, [.s 4 i]⟩, .r ⟨45, 1, true, cRows out⟩, .r ⟨49, 2, true, cArcs x.2.2.2⟩], n := 87, pin := 0 }) (fun x => x.1 ≤ q.length ∧ x.2.2.2.length = q.length ∧ NumOk R.length x.2.1 x.2.2.1 ∧ old.length ≤ x.2.2.1.length ∧ NL (numL q num old) x.2.2.2 q x.1 x.2.1 x.2.2.1) (fun x => q.length - x.1) (0, num, old, q) ?_ ?_ ?_
   ·exact ⟨by simp, rfl, hN, Nat.le_refl _, NL.start q num old⟩
   ·exact lmz
   ·rintro ⟨k, num1, old1, ya⟩ ⟨hk, hyl, hN1, hol, hNL⟩ K hK
    simp only at hk hyl hN1 hol hNL
    have hlen1 := hN1.len
    have hle1 := hN1.le
    by_cases hlt2 : k < q.length
    ·have d2 : decide ((k : Int) < (q.length : Int)) = true := by simpa using hlt2
     have hky : k < ya.length := by omega
     have hyq : ya[k] = q[k] := by
      have := congrArg (fun l => l[0]?) hNL.2.2.2
      simp only [List.getElem?_drop, Nat.add_zero] at this
      rw [List.getElem?_eq_getElem hky, List.getElem?_eq_getElem hlt2] at this
      exact Option.some.inj this
     have hyb := hqb _ (List.getElem_mem hlt2)
     rw [← hyq] at hyb
     obtain ⟨e, tn, hya⟩ : ∃ (e : Int) (tn : Nat), ya[k] = (e, (tn : Int)) := ⟨ya[k].1, ya[k].2.toNat, by
      have : (ya[k].2.toNat : Int) = ya[k].2 := by omega
      rw [this]⟩
     have hyk : ya[k]? = some (e, (tn : Int)) := by rw [List.getElem?_eq_getElem hky, hya]
     have htl : tn < R.length := by rw [hya] at hyb; have := hyb.2; simp only at this; omega
     have hat := cArcs_at hky
     rw [hya] at hat
     have gn : (cInts num1)[tn]? = some (.v (.int .i64 num1[tn])) := cInts_get (List.getElem?_eq_getElem (by omega))
     have gn2 : num1[tn]? = some num1[tn] := List.getElem?_eq_getElem (by omega)
     (refine wk1 @d2 ?_;(repeat clear hK K);repeat refine kq fun K hK=>?_)
     refine cxz ?_
     by_cases hx : num1[tn] < 0
     ·have d3 : decide (num1[tn] < 0) = true := by simpa using hx
      have gs : (cInts (num1.set tn (old1.length : Int)))[tn]? = some (.v (.int .i64 (old1.length : Int))) := cInts_get (List.getElem?_set_self (by omega))
      have op := old_push old1 (tn : Int)
      have cs := cArcs_set1 hyk (old1.length : Int)
      (refine wks1 (an @hat (an @cArcs_len (an @hyl (an @gn (an @d3 (an @cInts_len @hlen1)))))) ?_;(repeat clear hK K);repeat refine kq fun K hK=>?_)
      refine cxz ?_
      (refine wks1 (an @cInts_len (an @hlen1 (an @cInts_set (an @op (an @gs (an @cs (an @cArcs_len (an @hyl @List.length_set.{0})))))))) ?_;(repeat clear hK K);repeat refine kq fun K hK=>?_)
      refine rnz ?_
      have hone : numOne num1 old1 (tn : Int) = (num1.set tn (old1.length : Int), old1 ++ [(tn : Int)]) := by
       simp only [numOne, Int.toNat_natCast, List.getD, gn2, Option.getD_some, if_pos hx]
      have hN2 := hN1.one (t := (tn : Int)) (by omega) (by omega)
      rw [hone] at hN2
      refine hK _ (k + 1, num1.set tn (old1.length : Int), old1 ++ [(tn : Int)], ya.set k (e, (old1.length : Int))) ⟨hlt2, by simp [hyl], hN2, by simp; omega, hNL.neg hyk gn2 hx rfl⟩ (by simp only; omega) ?_
      refine Le.trans (le_pick [0, 1, 8, 3, 4, 5] rfl rfl) ?_
      (try simp only [List.set_nil, List.take_nil, List.take_zero, List.map_append, go_sem])
      (try simp only [cInts_ren, cArcs_ren3, cRows_ren])
      simp only [List.length_append, List.length_cons, List.length_nil]
      exact lmz
     ·have d3 : decide (num1[tn] < 0) = false := by simpa using hx
      have cs := cArcs_set1 hyk num1[tn]
      (refine wks1 (an @hat (an @cArcs_len (an @hyl (an @gn (an @d3 (an @cInts_len @hlen1)))))) ?_;(repeat clear hK K);repeat refine kq fun K hK=>?_)
      refine cyz ?_
      (refine wks1 (an @gn (an @cs (an @cArcs_len (an @hyl (an @cInts_len @hlen1))))) ?_;(repeat clear hK K);repeat refine kq fun K hK=>?_)
      refine rnz ?_
      refine hK _ (k + 1, num1, old1, ya.set k (e, num1[tn])) ⟨hlt2, by simp [hyl], hN1, hol, hNL.pos hyk gn2 hx⟩ (by simp only; omega) ?_
      refine Le.trans (le_pick [0, 1, 2, 3, 4, 5] rfl rfl) ?_
      (try simp only [List.set_nil, List.take_nil, List.take_zero, List.map_append, go_sem])
      (try simp only [cInts_ren, cArcs_ren3, cRows_ren])
      exact lmz
    ·have d2 : decide ((k : Int) < (q.length : Int)) = false := by simpa using hlt2
     obtain ⟨f1, f2, f3⟩ := hNL.fin (by omega) hyl
     have hnd : ya.Nodup := by rw [f1]; exact numL_nodup q hqs (fun a ha => by rw [hlen]; exact hqb a ha) hI
     have hI2 : NumInj num1 old1 := by rw [f2, f3]; exact numL_inj q (fun a ha => by rw [hlen]; exact hqb a ha) hI
     (refine wk1 @d2 ?_;(repeat clear hK K);repeat refine kq fun K hK=>?_)
     refine cyz ?_
     (refine ekz ?_;repeat clear hK K)
     rw [← hyl]
     (refine wk0 ?_;(repeat clear hK K);repeat refine kq fun K hK=>?_)
     (refine lst_cons rfl ?_; intro K1 hK1; refine stp_callσ (ids := []) [5] (sortA_fc 85 (by kernel_rfl) fcmp_fc ya (by omega)) rfl rfl (by simp only [go_sem]) (by first | assumption | kernel_rfl) rfl rfl (by (simp only [List.map_append, List.append_nil, go_sem]) <;> rfl) (by (simp only [pkh, cArcs_ren3, go_sem]) <;> rfl) ?_ ?_)
     ·rintro _ _ ⟨rfl, L2, _, _, rfl⟩; rfl
     rintro _ _ ⟨rfl, L2, hp2, hs2, rfl⟩
     (simp only [aInts, aSets, cArcs_up3, List.append_nil, List.nil_append, List.length_map, go_sem]; refine hK1 _ ?_; clear hK1 K1)
     have hL2 : L2 = rowOf ya := sort_nodup hnd hp2 hs2
     have hL2l := hp2.length_eq
     rw [← hL2l]
     (refine lst_le (le_frz (r := ⟨49, 2, true, cArcs L2⟩) 5 (tArcs L2) rfl (fz_ca _) (show 0 < (2 : Nat) by omega)) ?_; simp only [ST.frz, A0.frz, AV.frz, C.frz, Nat.le_refl, List.set_cons_zero, List.set_cons_succ, go_sem, tArcs_len, half2, tArcs_take, List.take_length])
     have htt : totA (out ++ [L2]) = totA out + L2.length := by rw [totA_app, totA_one]
     have hCn : canGo R (R.length - (i + 1)) (i + 1) num1 old1 (out ++ [L2]) = canonR R := by
      rw [← hC, hst, rowGo_numL, f2, f3, hL2, f1]
      rfl
     by_cases htb : totA (out ++ [L2]) > 262144
     ·have d5 : decide ((totA out : Int) + (L2.length : Int) > 262144) = true := decide_eq_true (by omega)
      (refine wk1 (an @tArcs_len (an @half2 @d5)) ?_;(repeat clear hK K);repeat refine kq fun K hK=>?_)
      refine cxz ?_
      (refine wks0 ?_;(repeat clear hK K);repeat refine kq fun K hK=>?_)
      refine rp0 [0] Tryz.results73 ?_
      obtain ⟨l, hl⟩ := canGo_pre R (R.length - (i + 1)) (i + 1) num1 old1 (out ++ [L2])
      rw [hCn] at hl
      unfold fcR
      rw [if_neg (by rw [hl, totA_app]; omega)]
      exact ⟨rfl, rfl⟩
     ·have d5 : decide ((totA out : Int) + (L2.length : Int) > 262144) = false := decide_eq_false (by omega)
      have crp := cRows_push out L2 hoi
      have ett : (totA out : Int) + (L2.length : Int) = (totA (out ++ [L2]) : Int) := by omega
      (refine wk1 (an @tArcs_len (an @half2 @d5)) ?_;(repeat clear hK K);repeat refine kq fun K hK=>?_)
      refine cyz ?_
      (refine wks1 (an @crp (an @cRows_len @hoi)) ?_;(repeat clear hK K);repeat refine kq fun K hK=>?_)
      refine rnz ?_
      refine hK _ (i + 1, num1, old1, out ++ [L2]) ⟨hN1, hI2, hCn, by simp only; omega, by simp [hoi], by simp only; omega⟩ (by simp only; omega) ?_
      refine Le.trans (le_pick [0, 1, 2, 3, 7] rfl rfl) ?_
      (try simp only [List.set_nil, List.take_nil, List.take_zero, List.map_append, go_sem])
      (try simp only [cInts_ren, cRows_ren, ett])
      exact lmz
  ·have d1 : decide ((i : Int) < (old.length : Int)) = false := by simpa using hlt
   have hfin : canonR R = (out, old) := by rw [← hC]; exact canGo_stop (by omega)
   (refine wk1 (an @d1 @cInts_len) ?_;(repeat clear hK K);repeat refine kq fun K hK=>?_)
   refine cyz ?_
   (refine ekz ?_;repeat clear hK K)
   refine aw_le (le_sink (r := ⟨45, 1, true, cRows out⟩) (ri := ⟨25, 1, false, [.s 4 i]⟩) (ts := tRows out) 3 0 4 i (by decide) rfl rfl rfl rfl (show 0 < 1 by omega) (by simp only [cRows_len, hoi]; omega) (fz_cr _)) ?_
   simp only [go_sem]
   refine aw_le (le_ot 3 rfl) ?_
   simp only [otC, go_sem]
   (refine wks0 ?_;(repeat clear hK K);repeat refine kq fun K hK=>?_)
   refine rp0 [0] Tryz.results73 ?_
   rw [hfin]
   unfold fcR
   rw [if_pos hto]
   exact ⟨rfl, rfl⟩
theorem set_two2 (L : List C) (s : Nat) (x y : C) : (L.set s x).set s y = L.set s y := by simp
end Go.Proofs.YtahnebicgbjonaaGreat
