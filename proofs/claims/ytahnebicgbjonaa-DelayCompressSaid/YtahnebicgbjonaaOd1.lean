/- flow.Order, plain: components, successors first. Systems side by side, plain: components, divergence, the components' order. The classes are determined; small drawn systems are valid. Canonical forms depend on the rows as sets; rows joined by insertion. The canonical form of a loose system is valid. Quotients, plain: numbered classes, rows joined by classes. The canonical form, row by row: the old rows' arcs by the final numbers. The quotient by delay bisimulation, plain: keys that agree with the delay arrows, systems side by side, and the quotient against the system. -/
import Derived.Test.YtahnebicgbjonaaG45
import Derived.Test.YtahnebicgbjonaaMF
namespace Go.Proofs.Ytahnebicgbjonaa
set_option linter.unusedVariables false
set_option linter.unusedSimpArgs false

abbrev Ed := Nat × Nat
def edA (f : Nat → Nat) (s : Nat) (a : Ar) : Option Ed := if a.1 = 0 ∧ f s ≠ f a.2.toNat then some (f s, f a.2.toNat) else none
def edR (f : Nat → Nat) (s : Nat) (row : List Ar) : List Ed := row.filterMap (edA f s)
def edL (f : Nat → Nat) (R : List (List Ar)) (k : Nat) : List Ed := (List.range k).flatMap fun s => edR f s (R.getD s [])
theorem edR_snoc (f : Nat → Nat) (s : Nat) (row : List Ar) (a : Ar) : edR f s (row ++ [a]) = edR f s row ++ (edA f s a).toList := by
 unfold edR
 rw [List.filterMap_append]
 cases h : edA f s a <;> simp [h]
theorem edL_succ (f : Nat → Nat) (R : List (List Ar)) (k : Nat) : edL f R (k + 1) = edL f R k ++ edR f k (R.getD k []) := by simp [edL, List.range_succ]
theorem mem_edL {f : Nat → Nat} {R : List (List Ar)} {k : Nat} {e : Ed} : e ∈ edL f R k ↔ ∃ s, s < k ∧ ∃ a ∈ R.getD s [], a.1 = 0 ∧ f s ≠ f a.2.toNat ∧ e = (f s, f a.2.toNat) := by
 unfold edL edR
 simp only [List.mem_flatMap, List.mem_range, List.mem_filterMap]
 constructor
 ·rintro ⟨s, hs, a, ha, h⟩
  unfold edA at h
  split at h
  ·rename_i hc
   injection h with h
   exact ⟨s, hs, a, ha, hc.1, hc.2, h.symm⟩
  ·cases h
 ·rintro ⟨s, hs, a, ha, h1, h2, rfl⟩
  exact ⟨s, hs, a, ha, by unfold edA; rw [if_pos ⟨h1, h2⟩]⟩
theorem edL_len (f : Nat → Nat) (R : List (List Ar)) : ∀ k, k ≤ R.length → (edL f R k).length ≤ totA (R.take k) := by
 intro k
 induction k with
 | zero => intro _; simp [edL, totA]
 | succ k ih =>
  intro hk
  have h1 := ih (by omega)
  have h2 := totA_take (R := R) (k := k) hk
  have h3 : R.getD k [] = R[k] := by rw [List.getD_eq_getElem?_getD, List.getElem?_eq_getElem hk]; rfl
  have h4 := List.length_filterMap_le (edA f k) R[k]
  rw [edL_succ, List.length_append, h3]
  unfold edR
  omega
def cn1 (E : List Ed) (c : Nat) : Nat := E.countP fun e => e.1 == c
def wtL (n : Nat) (E : List Ed) : List Int := (List.range n).map fun c => (cn1 E c : Int)
def bfE (E : List Ed) (t : Nat) : List Nat := (E.filter fun e => e.2 == t).map (·.1)
def bfEL (n : Nat) (E : List Ed) : List (List Int) := (List.range n).map fun t => (bfE E t).map Int.ofNat
theorem wtL_len (n : Nat) (E : List Ed) : (wtL n E).length = n := by simp [wtL]
theorem wtL_get {n : Nat} {E : List Ed} {c : Nat} (h : c < n) : (wtL n E)[c]? = some (cn1 E c : Int) := by simp [wtL, h]
theorem bfEL_len (n : Nat) (E : List Ed) : (bfEL n E).length = n := by simp [bfEL]
theorem bfEL_get {n : Nat} {E : List Ed} {t : Nat} (h : t < n) : (bfEL n E)[t]? = some ((bfE E t).map Int.ofNat) := by simp [bfEL, h]
theorem cn1_snoc (E : List Ed) (c t d : Nat) : cn1 (E ++ [(c, t)]) d = cn1 E d + if c = d then 1 else 0 := by
 unfold cn1
 rw [List.countP_append]
 by_cases h : c = d <;> simp [h]
theorem wtL_snoc {n : Nat} {E : List Ed} {c t : Nat} (h : c < n) : (wtL n E).set c ((cn1 E c : Int) + 1) = wtL n (E ++ [(c, t)]) := by
 refine List.ext_getElem (by simp [wtL]) fun i h1 h2 => ?_
 rw [wtL_len] at h2
 have e2 : (wtL n (E ++ [(c, t)]))[i]'(by rw [wtL_len]; exact h2) = (cn1 (E ++ [(c, t)]) i : Int) := by simp [wtL]
 rw [e2, cn1_snoc, List.getElem_set]
 by_cases e : c = i
 ·subst e; simp
 ·rw [if_neg e, if_neg e]; simp [wtL]
theorem bfE_snoc (E : List Ed) (c t d : Nat) : bfE (E ++ [(c, t)]) d = bfE E d ++ if t = d then [c] else [] := by
 unfold bfE
 rw [List.filter_append, List.map_append]
 by_cases h : t = d <;> simp [h]
theorem bfEL_snoc {n : Nat} {E : List Ed} {c t : Nat} (h : t < n) : (bfEL n E).set t ((bfE E t).map Int.ofNat ++ [(c : Int)]) = bfEL n (E ++ [(c, t)]) := by
 refine List.ext_getElem (by simp [bfEL]) fun i h1 h2 => ?_
 rw [bfEL_len] at h2
 have e2 : (bfEL n (E ++ [(c, t)]))[i]'(by rw [bfEL_len]; exact h2) = (bfE (E ++ [(c, t)]) i).map Int.ofNat := by simp [bfEL]
 rw [e2, bfE_snoc, List.getElem_set]
 by_cases e : t = i
 ·subst e; simp
 ·rw [if_neg e, if_neg e]; simp [bfEL]
theorem bfE_len (E : List Ed) (t : Nat) : (bfE E t).length ≤ E.length := by
 unfold bfE; rw [List.length_map]; exact List.length_filter_le _ _
theorem cn1_le (E : List Ed) (c : Nat) : cn1 E c ≤ E.length := List.countP_le_length
def dnE (E : List Ed) (P : List Nat) (c : Nat) : Nat := E.countP fun e => e.1 == c && decide (e.2 ∈ P)
theorem dnE_le (E : List Ed) (P : List Nat) (c : Nat) : dnE E P c ≤ cn1 E c := List.countP_mono_left fun e _ h => by simp only [Bool.and_eq_true] at h; exact h.1
theorem dnE_snoc {E : List Ed} {P : List Nat} {q : Nat} (h : q ∉ P) (c : Nat) : dnE E (P ++ [q]) c = dnE E P c + (bfE E q).countP (· == c) := by
 unfold dnE bfE
 rw [List.countP_map, List.countP_filter]
 induction E with
 | nil => rfl
 | cons e r ih =>
  simp only [List.countP_cons, ih]
  by_cases h1 : e.1 = c
  ·by_cases h2 : e.2 = q
   ·have h3 : e.2 ∉ P := by rw [h2]; exact h
    simp [h1, h2, h]; omega
   ·by_cases h3 : e.2 ∈ P <;> simp [h1, h2, h3]; omega
  ·simp [h1]
theorem dnE_nil (E : List Ed) (c : Nat) : dnE E [] c = 0 := by simp [dnE]
theorem countP_eq_all {γ : Type} {p q : γ → Bool} : ∀ {l : List γ}, (∀ x ∈ l, p x = true → q x = true) → l.countP p = l.countP q → ∀ x ∈ l, q x = true → p x = true
 | [], _, _, x, hx, _ => by simp at hx
 | a :: r, h, e, x, hx, hq => by
  have hle := List.countP_mono_left (p := p) (q := q) (l := r) fun y hy => h y (List.mem_cons_of_mem _ hy)
  rw [List.countP_cons, List.countP_cons] at e
  have ha := h a (by simp)
  rcases List.mem_cons.1 hx with rfl | hx
  ·cases hp : p x with
   | true => rfl
   | false => rw [hp, hq] at e; simp at e; omega
  ·refine countP_eq_all (fun y hy => h y (List.mem_cons_of_mem _ hy)) ?_ x hx hq
   cases hp : p a with
   | true => rw [hp, ha hp] at e; simp at e; exact e
   | false =>
    rw [hp] at e
    cases hqa : q a with
    | true => rw [hqa] at e; simp at e; omega
    | false => rw [hqa] at e; simpa using e
theorem dnE_full {E : List Ed} {P : List Nat} {c : Nat} (h : dnE E P c = cn1 E c) : ∀ e ∈ E, e.1 = c → e.2 ∈ P := by
 intro e he h1
 have := countP_eq_all (p := fun e : Ed => e.1 == c && decide (e.2 ∈ P)) (q := fun e : Ed => e.1 == c) (l := E) (fun x _ hx => by simp only [Bool.and_eq_true] at hx; exact hx.1) h e he (by simpa using h1)
 simp only [Bool.and_eq_true, decide_eq_true_eq] at this
 exact this.2
structure Kh (E : List Ed) (n : Nat) (f : Nat → Nat) (i m : Nat) (Q : List Nat) (W : List Int) : Prop where
 len : W.length = n
 wt : ∀ c, c < n → W[c]? = some (((cn1 E c : Nat) : Int) - (dnE E (Q.take i) c : Nat) - (((bfE E (Q.getD i 0)).take m).countP (· == c) : Nat))
 nd : Q.Nodup
 rep : ∀ c ∈ Q, c < n ∧ f c = c
 zero : ∀ c, c < n → f c = c → (c ∈ Q ↔ W[c]? = some 0)
 topo : ∀ (j c : Nat), Q[j]? = some c → ∀ e ∈ E, e.1 = c → ∃ j', j' < j ∧ Q[j']? = some e.2
section
variable {E : List Ed} {n : Nat} {f : Nat → Nat} {i m : Nat} {Q : List Nat} {W : List Int}
theorem Kh.qlen (h : Kh E n f i m Q W) : Q.length ≤ n := by
 have := h.nd.length_le_of_subset (l₂ := List.range n) fun q hq => List.mem_range.2 (h.rep q hq).1
 simpa using this
theorem Kh.step (h : Kh E n f i m Q W) (hi : i < Q.length) (hE : ∀ e ∈ E, e.1 < n ∧ f e.1 = e.1) {c : Nat} (hc : (bfE E (Q.getD i 0))[m]? = some c) :
  c < n ∧ f c = c ∧ ∃ w : Int, W[c]? = some w ∧ 1 ≤ w ∧ w ≤ cn1 E c ∧ (w ≠ 1 → Kh E n f i (m + 1) Q (W.set c (w - 1))) ∧ (w = 1 → Kh E n f i (m + 1) (Q ++ [c]) (W.set c (w - 1))) := by
 have hqi : Q[i]? = some (Q.getD i 0) := by rw [List.getD_eq_getElem?_getD, List.getElem?_eq_getElem hi]; rfl
 have hwt := h.wt
 generalize hq : Q.getD i 0 = q at *
 have hmem : c ∈ bfE E q := List.mem_of_getElem? hc
 have hce : ∃ e ∈ E, e.2 = q ∧ e.1 = c := by
  obtain ⟨e, he, h1⟩ := List.mem_map.1 hmem
  have := List.mem_filter.1 he
  exact ⟨e, this.1, by simpa using this.2, h1⟩
 obtain ⟨e0, he0, he1, he2⟩ := hce
 have hcn := hE e0 he0
 rw [he2] at hcn
 obtain ⟨hc1, hc2⟩ := hcn
 have hml := (List.getElem?_eq_some_iff.1 hc).1
 have hcv := (List.getElem?_eq_some_iff.1 hc).2
 have hqn : q ∉ Q.take i := fun hin => by
  obtain ⟨j, hj, hj2⟩ := List.mem_take_iff_getElem.1 hin
  have hji : j < i := by have := List.length_take_le i Q; omega
  have e1 : Q[j] = Q[i] := by rw [hj2, (List.getElem?_eq_some_iff.1 hqi).2]
  exact List.pairwise_iff_getElem.1 h.nd j i (by omega) hi hji e1
 have htk : Q.take (i + 1) = Q.take i ++ [q] := by rw [List.take_succ_eq_append_getElem hi, (List.getElem?_eq_some_iff.1 hqi).2]
 have hsn := dnE_snoc (E := E) hqn
 have hle := fun d => dnE_le E (Q.take (i + 1)) d
 rw [htk] at hle
 have htm : (bfE E q).take (m + 1) = (bfE E q).take m ++ [c] := by rw [List.take_succ_eq_append_getElem hml, hcv]
 have hcnt : ∀ d, ((bfE E q).take (m + 1)).countP (· == d) = ((bfE E q).take m).countP (· == d) + if c = d then 1 else 0 := fun d => by
  rw [htm, List.countP_append]
  by_cases e : c = d <;> simp [e]
 have hsub : ∀ d k, ((bfE E q).take k).countP (· == d) ≤ (bfE E q).countP (· == d) := fun d k => (List.take_sublist k _).countP_le
 have hw := hwt c hc1
 have hb1 := hcnt c
 rw [if_pos rfl] at hb1
 have hb2 := hsub c (m + 1)
 have hb3 := hle c
 rw [hsn] at hb3
 refine ⟨hc1, hc2, _, hw, by omega, by omega, fun hw1 => ?_, fun hw1 => ?_⟩
 ·refine ⟨by simp [h.len], fun d hd => ?_, h.nd, h.rep, fun d hd hd2 => ?_, h.topo⟩
  ·rw [hq, List.getElem?_set, hcnt d]
   by_cases e : c = d
   ·subst e
    rw [if_pos rfl, if_pos (by rw [h.len]; exact hc1), if_pos rfl]
    congr 1; omega
   ·rw [if_neg e, if_neg e, hwt d hd, Nat.add_zero]
  ·rw [List.getElem?_set]
   by_cases e : c = d
   ·subst e
    rw [if_pos rfl, if_pos (by rw [h.len]; exact hc1), h.zero c hd hd2, hw]
    constructor
    ·intro h0; injection h0 with h0; omega
    ·intro h0; injection h0 with h0; omega
   ·rw [if_neg e]; exact h.zero d hd hd2
 ·have hcq : c ∉ Q := fun hin => by
   have := (h.zero c hc1 hc2).1 hin
   rw [hw] at this
   injection this with this
   omega
  have htk2 : (Q ++ [c]).take i = Q.take i := List.take_append_of_le_length (by omega)
  have hgq : (Q ++ [c]).getD i 0 = q := by rw [List.getD_eq_getElem?_getD, List.getElem?_append_left hi, hqi]; rfl
  refine ⟨by simp [h.len], fun d hd => ?_, ?_, fun d hd => ?_, fun d hd hd2 => ?_, fun j d hj e he h1 => ?_⟩
  ·rw [htk2, hgq, List.getElem?_set, hcnt d]
   by_cases e : c = d
   ·subst e
    rw [if_pos rfl, if_pos (by rw [h.len]; exact hc1), if_pos rfl]
    congr 1; omega
   ·rw [if_neg e, if_neg e, hwt d hd, Nat.add_zero]
  ·rw [List.nodup_append]
   exact ⟨h.nd, by simp, fun a ha b hb => by simp at hb; subst hb; intro e; subst e; exact hcq ha⟩
  ·rcases List.mem_append.1 hd with h1 | h1
   ·exact h.rep d h1
   ·simp at h1; subst h1; exact ⟨hc1, hc2⟩
  ·rw [List.getElem?_set, List.mem_append, List.mem_singleton]
   by_cases e : c = d
   ·subst e
    rw [if_pos rfl, if_pos (by rw [h.len]; exact hc1)]
    exact ⟨fun _ => by congr 1; omega, fun _ => .inr rfl⟩
   ·rw [if_neg e, ← h.zero d hd hd2]
    exact ⟨fun h1 => h1.elim id fun h2 => absurd h2.symm e, .inl⟩
  ·rcases Nat.lt_or_ge j Q.length with hl | hl
   ·rw [List.getElem?_append_left hl] at hj
    obtain ⟨j', a1, a2⟩ := h.topo j d hj e he h1
    exact ⟨j', a1, by rw [List.getElem?_append_left (List.getElem?_eq_some_iff.1 a2).1]; exact a2⟩
   ·rw [List.getElem?_append_right hl] at hj
    have hj0 : j = Q.length := by
     have := (List.getElem?_eq_some_iff.1 hj).1
     simp at this; omega
    subst hj0
    simp at hj
    subst hj
    have hfull : dnE E (Q.take i ++ [q]) c = cn1 E c := by rw [hsn]; omega
    have hin := dnE_full hfull e he h1
    rw [← htk] at hin
    obtain ⟨j', hj', hj2⟩ := List.mem_take_iff_getElem.1 hin
    exact ⟨j', by omega, by rw [List.getElem?_append_left (by omega), List.getElem?_eq_getElem (by omega), hj2]⟩
theorem Kh.next (h : Kh E n f i m Q W) (hi : i < Q.length) (hm : (bfE E (Q.getD i 0)).length ≤ m) : Kh E n f (i + 1) 0 Q W := by
 have hqi : Q[i]? = some (Q.getD i 0) := by rw [List.getD_eq_getElem?_getD, List.getElem?_eq_getElem hi]; rfl
 refine ⟨h.len, fun c hc => ?_, h.nd, h.rep, h.zero, h.topo⟩
 have hqn : Q.getD i 0 ∉ Q.take i := fun hin => by
  obtain ⟨j, hj, hj2⟩ := List.mem_take_iff_getElem.1 hin
  have hji : j < i := by have := List.length_take_le i Q; omega
  have e1 : Q[j] = Q[i] := by rw [hj2, (List.getElem?_eq_some_iff.1 hqi).2]
  exact List.pairwise_iff_getElem.1 h.nd j i (by omega) hi hji e1
 have htk : Q.take (i + 1) = Q.take i ++ [Q.getD i 0] := by rw [List.take_succ_eq_append_getElem hi, (List.getElem?_eq_some_iff.1 hqi).2]
 rw [h.wt c hc, htk, dnE_snoc hqn, List.take_of_length_le hm]
 congr 1
 simp only [List.take_zero, List.countP_nil]
 omega
end
def OrdOk (E : List Ed) (n : Nat) (f : Nat → Nat) (Q : List Nat) : Prop := Q.Nodup ∧ (∀ c, c ∈ Q ↔ c < n ∧ f c = c) ∧ ∀ (j c : Nat), Q[j]? = some c → ∀ e ∈ E, e.1 = c → ∃ j', j' < j ∧ Q[j']? = some e.2
theorem Kh.done {E : List Ed} {n : Nat} {f : Nat → Nat} {Q : List Nat} {W : List Int} (h : Kh E n f Q.length 0 Q W) (rk : Nat → Nat) (hE : ∀ e ∈ E, e.2 < n ∧ f e.2 = e.2 ∧ rk e.2 < rk e.1) : OrdOk E n f Q := by
 refine ⟨h.nd, fun c => ⟨h.rep c, ?_⟩, h.topo⟩
 have key : ∀ k c, rk c ≤ k → c < n → f c = c → c ∈ Q := by
  intro k
  induction k with
  | zero =>
   intro c hk hc hf
   rw [h.zero c hc hf, h.wt c hc, List.take_length]
   have h0 : cn1 E c = 0 := by
    unfold cn1
    rw [List.countP_eq_zero]
    intro e he h1
    have := (hE e he).2.2
    have h2 : e.1 = c := by simpa using h1
    rw [h2] at this; omega
   have h1 := dnE_le E Q c
   rw [List.take_zero, List.countP_nil]
   congr 1; omega
  | succ k ih =>
   intro c hk hc hf
   rw [h.zero c hc hf, h.wt c hc, List.take_length]
   have hall : ∀ e ∈ E, e.1 = c → e.2 ∈ Q := fun e he h1 => by
    obtain ⟨a1, a2, a3⟩ := hE e he
    rw [h1] at a3
    exact ih e.2 (by omega) a1 a2
   have h1 : dnE E Q c = cn1 E c := by
    unfold dnE cn1
    refine List.countP_congr fun e he => ?_
    simp only [Bool.and_eq_true, decide_eq_true_eq, beq_iff_eq]
    exact ⟨fun h => h.1, fun h => ⟨h, hall e he h⟩⟩
   rw [h1, List.take_zero, List.countP_nil]
   congr 1; omega
 exact fun ⟨h1, h2⟩ => key _ c (Nat.le_refl _) h1 h2
def shA (n : Nat) (r : List Ar) : List Ar := r.map fun a => (a.1, a.2 + (n : Int))
def shR (n : Nat) (R : List (List Ar)) : List (List Ar) := R.map (shA n)
def bthR (A R : List (List Ar)) : List (List Ar) := A ++ shR A.length R
theorem shA_len (n : Nat) (r : List Ar) : (shA n r).length = r.length := by simp [shA]
theorem shR_len (n : Nat) (R : List (List Ar)) : (shR n R).length = R.length := by simp [shR]
theorem bthR_len (A R : List (List Ar)) : (bthR A R).length = A.length + R.length := by simp [bthR, shR_len]
theorem bthR_nil (R : List (List Ar)) : bthR [] R = R := by
 have : shA 0 = id := by funext r; simp [shA]
 simp [bthR, shR, this]
theorem bth_lt {A R : List (List Ar)} {s : Nat} (h : s < A.length) : (bthR A R).getD s [] = A.getD s [] := by
 rw [List.getD_eq_getElem?_getD, List.getD_eq_getElem?_getD, bthR, List.getElem?_append_left h]
theorem bth_ge (A R : List (List Ar)) (s : Nat) : (bthR A R).getD (A.length + s) [] = shA A.length (R.getD s []) := by
 rw [List.getD_eq_getElem?_getD, List.getD_eq_getElem?_getD, bthR, List.getElem?_append_right (by omega), Nat.add_sub_cancel_left, shR, List.getElem?_map]
 cases R[s]? <;> simp [shA]
theorem tau_sh (n : Nat) (r : List Ar) : tauOf true (shA n r) = shA n (tauOf true r) := by
 simp [tauOf, shA, List.takeWhile_map, Function.comp_def]
theorem adj_b1 {A R : List (List Ar)} {s : Nat} (h : s < A.length) : Adj true (bthR A R) s = Adj true A s := by unfold Adj; rw [bth_lt h]
theorem adj_b2 {A R : List (List Ar)} (hlo : looB R = true) (s : Nat) : Adj true (bthR A R) (A.length + s) = (Adj true R s).map (A.length + ·) := by
 unfold Adj
 rw [bth_ge, tau_sh]
 unfold shA
 rw [List.map_map, List.map_map]
 refine List.map_congr_left fun a ha => ?_
 have := (tau_lt hlo (k := s) a ha).1
 simp only [Function.comp_apply]
 omega
theorem rc_b1 {A R : List (List Ar)} (hA : ∀ x, x < A.length → ∀ y ∈ Adj true A x, y < A.length) {s u : Nat} (hs : s < A.length) : Rc (Adj true (bthR A R)) s u ↔ Rc (Adj true A) s u := by
 constructor
 ·intro h
  induction h with
  | refl => exact .refl _
  | tail h1 h2 ih =>
   refine ih.tail ?_
   rwa [adj_b1 (ih.lt hs hA)] at h2
 ·intro h
  induction h with
  | refl => exact .refl _
  | tail h1 h2 ih =>
   refine ih.tail ?_
   rwa [adj_b1 (h1.lt hs hA)]
theorem rc_b2 {A R : List (List Ar)} (hlo : looB R = true) {s u : Nat} : Rc (Adj true (bthR A R)) (A.length + s) u ↔ ∃ v, u = A.length + v ∧ Rc (Adj true R) s v := by
 constructor
 ·intro h
  generalize hx : A.length + s = x at h
  induction h with
  | refl => exact ⟨s, hx.symm, .refl _⟩
  | tail h1 h2 ih =>
   obtain ⟨v, e, h3⟩ := ih
   rw [e, adj_b2 hlo] at h2
   obtain ⟨w, hw, rfl⟩ := List.mem_map.1 h2
   exact ⟨w, rfl, h3.tail hw⟩
 ·rintro ⟨v, rfl, h⟩
  induction h with
  | refl => exact .refl _
  | tail h1 h2 ih =>
   refine ih.tail ?_
   rw [adj_b2 hlo]
   exact List.mem_map.2 ⟨_, h2, rfl⟩
theorem dv_b1 {A R : List (List Ar)} (hA : ∀ x, x < A.length → ∀ y ∈ Adj true A x, y < A.length) {s : Nat} (hs : s < A.length) : Dv (bthR A R) s ↔ Dv A s := by
 constructor
 ·rintro ⟨g, h1, w, h2, h3⟩
  rw [rc_b1 hA hs] at h1
  have hg := h1.lt hs hA
  rw [adj_b1 hg] at h2
  exact ⟨g, h1, w, h2, (rc_b1 hA (hA _ hg _ h2)).1 h3⟩
 ·rintro ⟨g, h1, w, h2, h3⟩
  have hg := h1.lt hs hA
  exact ⟨g, (rc_b1 hA hs).2 h1, w, by rwa [adj_b1 hg], (rc_b1 hA (hA _ hg _ h2)).2 h3⟩
theorem dv_b2 {A R : List (List Ar)} (hlo : looB R = true) {s : Nat} : Dv (bthR A R) (A.length + s) ↔ Dv R s := by
 constructor
 ·rintro ⟨g, h1, w, h2, h3⟩
  obtain ⟨g, rfl, p1⟩ := (rc_b2 hlo).1 h1
  rw [adj_b2 hlo] at h2
  obtain ⟨w, p2, rfl⟩ := List.mem_map.1 h2
  obtain ⟨g2, e, p3⟩ := (rc_b2 hlo).1 h3
  have : g2 = g := by omega
  subst this
  exact ⟨_, p1, w, p2, p3⟩
 ·rintro ⟨g, h1, w, h2, h3⟩
  refine ⟨A.length + g, (rc_b2 hlo).2 ⟨g, rfl, h1⟩, A.length + w, ?_, (rc_b2 hlo).2 ⟨g, rfl, h3⟩⟩
  rw [adj_b2 hlo]
  exact List.mem_map.2 ⟨w, h2, rfl⟩
def CpOk (R : List (List Ar)) (D : List Int) : Prop := D.length = R.length ∧ ∀ v, v < R.length → Least (Adj true R) v (fnL D (-1) v)
theorem fnL_at {D : List Int} {s : Nat} {x : Int} (h : D[s]? = some x) : fnL D (-1) s = x := by unfold fnL; rw [h]; rfl
theorem CpOk.both {A R : List (List Ar)} {C D : List Int} (hA : ∀ x, x < A.length → ∀ y ∈ Adj true A x, y < A.length) (hlo : looB R = true) (h1 : CpOk A C) (h2 : CpOk R D) : CpOk (bthR A R) (C ++ D.map (· + (A.length : Int))) := by
 refine ⟨by rw [bthR_len, List.length_append, List.length_map, h1.1, h2.1], fun v hv => ?_⟩
 rw [bthR_len] at hv
 rcases Nat.lt_or_ge v A.length with h | h
 ·have e : fnL (C ++ D.map (· + (A.length : Int))) (-1) v = fnL C (-1) v := by
   unfold fnL; rw [List.getElem?_append_left (by rw [h1.1]; exact h)]
  rw [e]
  obtain ⟨m, a1, a2, a3, a4⟩ := h1.2 v h
  have hm := a2.lt h hA
  refine ⟨m, a1, (rc_b1 hA h).2 a2, (rc_b1 hA hm).2 a3, fun u b1 b2 => ?_⟩
  have b1 := (rc_b1 hA h).1 b1
  exact a4 u b1 ((rc_b1 hA (b1.lt h hA)).1 b2)
 ·obtain ⟨s, rfl⟩ : ∃ s, v = A.length + s := ⟨v - A.length, by omega⟩
  have hs : s < R.length := by omega
  obtain ⟨m, a1, a2, a3, a4⟩ := h2.2 s hs
  have hsD : s < D.length := by rw [h2.1]; exact hs
  have e : fnL (C ++ D.map (· + (A.length : Int))) (-1) (A.length + s) = fnL D (-1) s + (A.length : Int) := by
   unfold fnL
   rw [List.getElem?_append_right (by rw [h1.1]; omega), h1.1, Nat.add_sub_cancel_left, List.getElem?_map, List.getElem?_eq_getElem hsD]; rfl
  rw [e, a1]
  refine ⟨A.length + m, by omega, (rc_b2 hlo).2 ⟨m, rfl, a2⟩, (rc_b2 hlo).2 ⟨s, rfl, a3⟩, fun u b1 b2 => ?_⟩
  obtain ⟨u, rfl, p1⟩ := (rc_b2 hlo).1 b1
  obtain ⟨s2, e2, p2⟩ := (rc_b2 hlo).1 b2
  have : s2 = s := by omega
  subst this
  have := a4 u p1 p2
  omega
theorem DvL.both {A R : List (List Ar)} {B C : List Bool} (hA : ∀ x, x < A.length → ∀ y ∈ Adj true A x, y < A.length) (hlo : looB R = true) (h1 : DvL A B) (h2 : DvL R C) : DvL (bthR A R) (B ++ C) := by
 refine ⟨by rw [bthR_len, List.length_append, h1.1, h2.1], fun v hv => ?_⟩
 rw [bthR_len] at hv
 rcases Nat.lt_or_ge v A.length with h | h
 ·rw [List.getD_eq_getElem?_getD, List.getElem?_append_left (by rw [h1.1]; exact h), ← List.getD_eq_getElem?_getD, h1.2 v h, dv_b1 hA h]
 ·obtain ⟨s, rfl⟩ : ∃ s, v = A.length + s := ⟨v - A.length, by omega⟩
  rw [List.getD_eq_getElem?_getD, List.getElem?_append_right (by rw [h1.1]; omega), h1.1, Nat.add_sub_cancel_left, ← List.getD_eq_getElem?_getD, h2.2 s (by omega), dv_b2 hlo]
theorem adj_mem {X : List (List Ar)} (hv : valB X = true) {n m : Nat} : m ∈ Adj true X n ↔ (0, (m : Int)) ∈ X.getD n [] := by
 rw [← adj_eq true hv]
 unfold AdjF tauF
 simp only [List.mem_map, List.mem_filter, Bool.not_true, Bool.false_or, beq_iff_eq]
 constructor
 ·rintro ⟨a, ⟨h1, h2⟩, rfl⟩
  have h3 : 0 ≤ a.2 := by
   rcases Nat.lt_or_ge n X.length with h | h
   ·rw [List.getD_eq_getElem?_getD, List.getElem?_eq_getElem h, Option.getD_some] at h1
    have := (of_decide_eq_true hv).1.2.2.2 _ (List.getElem_mem h) a h1
    omega
   ·rw [List.getD_eq_getElem?_getD, List.getElem?_eq_none h] at h1; simp at h1
  have e : ((0 : Int), ((a.2.toNat : Nat) : Int)) = a := by
   rcases a with ⟨x, y⟩
   simp only at h2 h3 ⊢
   rw [h2]; congr 1; omega
  rw [e]; exact h1
 ·intro h
  exact ⟨_, ⟨h, rfl⟩, by simp⟩
def cpF (D : List Int) (v : Nat) : Nat := (D.getD v 0).toNat
theorem cpF_ok {X : List (List Ar)} {D : List Int} (hv : valB X = true) (h : CpOk X D) {v : Nat} (hs : v < X.length) : D[v]? = some (cpF D v : Int) ∧ cpF D v < X.length ∧ Rc (Adj true X) v (cpF D v) ∧ Rc (Adj true X) (cpF D v) v ∧ cpF D (cpF D v) = cpF D v := by
 have hlo : looB X = true := decide_eq_true (of_decide_eq_true hv).1
 have hE := adj_lt true hlo
 obtain ⟨m, a1, a2, a3, a4⟩ := h.2 v hs
 have hg : D[v]? = some (m : Int) := by
  have : v < D.length := by rw [h.1]; exact hs
  unfold fnL at a1
  rw [List.getElem?_eq_getElem this] at a1 ⊢
  rw [← a1]; rfl
 have e : cpF D v = m := by unfold cpF; rw [List.getD_eq_getElem?_getD, hg]; rfl
 have hm := a2.lt hs hE
 obtain ⟨m2, b1, b2, b3, b4⟩ := h.2 m hm
 have e2 : cpF D m = m := by
  have hg2 : D[m]? = some (m2 : Int) := by
   have : m < D.length := by rw [h.1]; exact hm
   unfold fnL at b1
   rw [List.getElem?_eq_getElem this] at b1 ⊢
   rw [← b1]; rfl
  have c1 := a4 m2 (a2.trans b2) (b3.trans a3)
  have c2 := b4 m (.refl _) (.refl _)
  unfold cpF; rw [List.getD_eq_getElem?_getD, hg2]
  show ((m2 : Int)).toNat = m
  omega
 rw [e]
 exact ⟨hg, hm, a2, a3, e2⟩
theorem cpF_eq {X : List (List Ar)} {D : List Int} (hv : valB X = true) (h : CpOk X D) {v w : Nat} (hs : v < X.length) (h1 : Rc (Adj true X) v w) (h2 : Rc (Adj true X) w v) : cpF D v = cpF D w := by
 have hlo : looB X = true := decide_eq_true (of_decide_eq_true hv).1
 have hw := h1.lt hs (adj_lt true hlo)
 obtain ⟨m, a1, a2, a3, a4⟩ := h.2 v hs
 obtain ⟨k, b1, b2, b3, b4⟩ := h.2 w hw
 have c1 := a4 k (h1.trans b2) (b3.trans h2)
 have c2 := b4 m (h2.trans a2) (a3.trans h1)
 have d1 : fnL D (-1) v = fnL D (-1) w := by rw [a1, b1]; omega
 have e1 := (cpF_ok hv h hs).1
 have e2 := (cpF_ok hv h hw).1
 rw [fnL_at e1, fnL_at e2] at d1
 omega
noncomputable def rkF (X : List (List Ar)) (v : Nat) : Nat := (List.range X.length).countP fun u => @decide (Rc (Adj true X) v u) (Classical.propDecidable _)
theorem countP_lt {γ : Type} {p q : γ → Bool} : ∀ {l : List γ}, (∀ x ∈ l, p x = true → q x = true) → ∀ x ∈ l, q x = true → p x = false → l.countP p < l.countP q
 | a :: l, h, x, hx, h1, h2 => by
  have hm : l.countP p ≤ l.countP q := List.countP_mono_left fun y hy => h y (List.mem_cons_of_mem _ hy)
  have ha := h a List.mem_cons_self
  rw [List.countP_cons, List.countP_cons]
  rcases List.mem_cons.1 hx with rfl | hx
  ·rw [h1, h2]; simp; omega
  ·have ih := countP_lt (fun y hy => h y (List.mem_cons_of_mem _ hy)) x hx h1 h2
   cases hp : p a with
   | false => simp; split <;> omega
   | true => rw [ha hp]; simp; omega
theorem edL_down {X : List (List Ar)} {D : List Int} (hv : valB X = true) (h : CpOk X D) : ∀ e ∈ edL (cpF D) X X.length, (e.1 < X.length ∧ cpF D e.1 = e.1) ∧ e.2 < X.length ∧ cpF D e.2 = e.2 ∧ rkF X e.2 < rkF X e.1 := by
 intro e he
 have hlo : looB X = true := decide_eq_true (of_decide_eq_true hv).1
 have hE := adj_lt true hlo
 obtain ⟨s, hs, a, ha, h0, hne, rfl⟩ := mem_edL.1 he
 have hg : X.getD s [] = X[s] := by rw [List.getD_eq_getElem?_getD, List.getElem?_eq_getElem hs]; rfl
 rw [hg] at ha
 have hb := (of_decide_eq_true hlo).2.2.2 _ (List.getElem_mem hs) a ha
 have ht : a.2.toNat < X.length := by omega
 have hadj : a.2.toNat ∈ Adj true X s := by
  rw [adj_mem hv, hg]
  have : ((0 : Int), ((a.2.toNat : Nat) : Int)) = a := by
   rcases a with ⟨x, y⟩
   simp only at h0 hb ⊢
   rw [h0]; congr 1; omega
  rw [this]; exact ha
 obtain ⟨_, p2, p3, p4, p5⟩ := cpF_ok hv h hs
 obtain ⟨_, q2, q3, q4, q5⟩ := cpF_ok hv h ht
 refine ⟨⟨p2, p5⟩, q2, q5, ?_⟩
 have hst : Rc (Adj true X) (cpF D s) (cpF D a.2.toNat) := (p4.trans (.one hadj)).trans q3
 unfold rkF
 refine countP_lt (fun u _ hu => ?_) (cpF D s) (List.mem_range.2 p2) (@decide_eq_true _ (Classical.propDecidable _) (.refl _)) ?_
 ·simp only [decide_eq_true_eq] at hu ⊢
  exact hst.trans hu
 ·refine @decide_eq_false _ (Classical.propDecidable _) fun hc => hne ?_
  refine cpF_eq hv h hs (.one hadj) ?_
  exact (q3.trans hc).trans p4
theorem valB_both {A R : List (List Ar)} (hA : A = [] ∨ valB A = true) (hR : valB R = true) (h1 : A.length + R.length ≤ maxS) (h2 : totA A + totA R ≤ maxA) : valB (bthR A R) = true := by
 have h := of_decide_eq_true hR
 have hA2 : ∀ r ∈ A, (∀ a ∈ r, 0 ≤ a.1 ∧ a.1 ≤ 1025 ∧ 0 ≤ a.2 ∧ a.2 < (A.length : Int)) ∧ SortA r := by
  rcases hA with rfl | hA
  ·intro r hr; simp at hr
  ·have h3 := of_decide_eq_true hA
   exact fun r hr => ⟨h3.1.2.2.2 r hr, h3.2 r hr⟩
 refine decide_eq_true ⟨⟨by rw [bthR_len]; have := h.1.1; omega, by rw [bthR_len]; exact h1, ?_, fun r hr a ha => ?_⟩, fun r hr => ?_⟩
 ·have : totA (bthR A R) = totA A + totA R := by
   unfold totA bthR shR
   rw [List.map_append, List.sum_append, List.map_map]
   have : (List.length ∘ shA A.length) = List.length := by funext r; exact shA_len _ r
   rw [this]
  omega
 ·rw [bthR_len]
  rcases List.mem_append.1 hr with h3 | h3
  ·have := (hA2 r h3).1 a ha; omega
  ·obtain ⟨q, hq, rfl⟩ := List.mem_map.1 h3
   obtain ⟨b, hb, rfl⟩ := List.mem_map.1 ha
   have := h.1.2.2.2 q hq b hb
   simp only
   omega
 ·rcases List.mem_append.1 hr with h3 | h3
  ·exact (hA2 r h3).2
  ·obtain ⟨q, hq, rfl⟩ := List.mem_map.1 h3
   have h4 := h.2 q hq
   unfold SortA shA at *
   rw [List.pairwise_map]
   refine h4.imp fun {a b} hab => ?_
   rw [ltA_iff] at hab ⊢
   simp only
   omega
open Go.RowKit
theorem DlC.uniq {R : List (List Ar)} {c d : List Int} (h1 : DlC R c) (h2 : DlC R d) : c = d := by
 obtain ⟨B, b1, b2⟩ := h1
 obtain ⟨B', b3, b4⟩ := h2
 have e := b1.uniq b3
 subst e
 exact b2.uniq b4
theorem row_tot3 {X : List (List Ar)} : ∀ r ∈ X, r.length ≤ totA X := fun r hr => by
 obtain ⟨j, hj, rfl⟩ := List.getElem_of_mem hr
 have h := totA_row X j
 rw [List.getD_eq_getElem?_getD, List.getElem?_eq_getElem hj, Option.getD_some] at h
 exact h
theorem totA_mul3 {B : Nat} : ∀ {X : List (List Ar)}, (∀ r ∈ X, r.length ≤ B) → totA X ≤ X.length * B
 | [], _ => by simp [totA]
 | x :: r, h => by
  have h1 := h x (by simp)
  have h2 := totA_mul3 (X := r) fun q hq => h q (List.mem_cons_of_mem _ hq)
  simp only [totA, List.map_cons, List.sum_cons, List.length_cons, Nat.succ_mul] at h2 ⊢
  omega
theorem ok_val {k m : Nat} {R : List (List Ar)} (h : OkSys k m R) (hm : m = R.length) (h1 : 1 ≤ R.length) (hn : R.length ≤ 20) (hk : k ≤ 10) : valB R = true ∧ totA R ≤ 200 ∧ ∀ r ∈ R, r.length ≤ 10 := by
 subst hm
 have hr : ∀ r ∈ R, r.length ≤ 10 := fun r hr => Nat.le_trans (h.2 r hr).2.1 hk
 have ht := totA_mul3 hr
 exact ⟨decide_eq_true ⟨⟨h1, by show R.length ≤ 16384; omega, by show totA R ≤ 262144; omega, fun r hr => (h.2 r hr).2.2⟩, fun r hr => (h.2 r hr).1⟩, by omega, hr⟩
theorem totA_bth (A R : List (List Ar)) : totA (bthR A R) = totA A + totA R := by
 simp [totA, bthR, shR, shA, Function.comp_def]
theorem bth_row {A R : List (List Ar)} {B : Nat} (h1 : ∀ r ∈ A, r.length ≤ B) (h2 : ∀ r ∈ R, r.length ≤ B) : ∀ r ∈ bthR A R, r.length ≤ B := fun r hr => by
 unfold bthR shR at hr
 rcases List.mem_append.1 hr with h | h
 ·exact h1 r h
 ·obtain ⟨q, hq, rfl⟩ := List.mem_map.1 h
  rw [shA_len]
  exact h2 q hq
def tiA (f : Nat → Nat) (c : Nat) (o : List (List Ar)) (a : Ar) : List (List Ar) := o.set c (insA (a.1, (f a.2.toNat : Int)) (o.getD c []))
def tiRow (f : Nat → Nat) (c : Nat) (o : List (List Ar)) (row : List Ar) : List (List Ar) := row.foldl (tiA f c) o
theorem tiA_len (f : Nat → Nat) (c : Nat) (o : List (List Ar)) (a : Ar) : (tiA f c o a).length = o.length := by simp [tiA]
def SameS (o p : List (List Ar)) : Prop := o.length = p.length ∧ ∀ i a, a ∈ o.getD i [] ↔ a ∈ p.getD i []
theorem SameS.one {f : Nat → Nat} {c : Nat} {o p : List (List Ar)} (h : SameS o p) (a : Ar) : SameS (tiA f c o a) (tlA f c p a) := by
 refine ⟨by rw [tiA_len, tlA_len]; exact h.1, fun i b => ?_⟩
 have h1 := h.1
 unfold tiA tlA
 simp only [List.getD_eq_getElem?_getD, List.getElem?_set]
 by_cases hi : c = i
 ·subst hi
  by_cases hc : c < o.length
  ·have h2 := h.2 c b
   simp only [List.getD_eq_getElem?_getD] at h2
   rw [if_pos rfl, if_pos hc, if_pos rfl, if_pos (by omega)]
   simp only [Option.getD_some, mem_insA, List.mem_append, List.mem_singleton, h2, or_comm]
  ·rw [if_pos rfl, if_neg hc, if_pos rfl, if_neg (by omega)]
 ·rw [if_neg hi, if_neg hi]
  have h2 := h.2 i b
  simpa only [List.getD_eq_getElem?_getD] using h2
theorem SameS.row {f : Nat → Nat} {c : Nat} : ∀ (row : List Ar) {o p : List (List Ar)}, SameS o p → SameS (tiRow f c o row) (tlRow f c p row)
 | [], _, _, h => h
 | a :: r, _, _, h => SameS.row r (h.one a)
def NumSur (num old : List Int) : Prop := ∀ (j : Nat) (s : Int), old[j]? = some s → 0 ≤ s ∧ num[s.toNat]? = some (j : Int)
theorem NumSur.one {num old : List Int} (h : NumSur num old) {t : Int} (h0 : 0 ≤ t) (h1 : t < num.length) : NumSur (numOne num old t).1 (numOne num old t).2 := by
 have htl : t.toNat < num.length := by omega
 unfold numOne
 split
 ·rename_i hneg
  intro j s hs
  simp only at hs ⊢
  rcases Nat.lt_or_ge j old.length with hj | hj
  ·rw [List.getElem?_append_left hj] at hs
   obtain ⟨q1, q2⟩ := h j s hs
   refine ⟨q1, ?_⟩
   rw [List.getElem?_set, if_neg, q2]
   intro e
   rw [e, List.getD_eq_getElem?_getD, q2, Option.getD_some] at hneg
   omega
  ·rw [List.getElem?_append_right hj] at hs
   have hj' : j = old.length := by
    have := (List.getElem?_eq_some_iff.1 hs).1
    simp at this
    omega
   subst hj'
   simp at hs
   subst hs
   exact ⟨h0, by rw [List.getElem?_set, if_pos rfl, if_pos htl]⟩
 ·exact h
theorem numL_sur (r : List Ar) {num old : List Int} (hr : ∀ a ∈ r, 0 ≤ a.2 ∧ a.2 < num.length) (h : NumSur num old) : NumSur (numL r num old).1 (numL r num old).2.1 := by
 induction r generalizing num old with
 | nil => exact h
 | cons a tl ih =>
  have ha := hr a (by simp)
  exact ih (fun b hb => by rw [numOne_len]; exact hr b (by simp [hb])) (h.one ha.1 ha.2)
theorem numOne_old (num old : List Int) (t : Int) {j : Nat} {s : Int} (h : old[j]? = some s) : (numOne num old t).2[j]? = some s := by
 unfold numOne
 split
 ·simp only
  rw [List.getElem?_append_left (List.getElem?_eq_some_iff.1 h).1, h]
 ·exact h
theorem numL_old (r : List Ar) {num old : List Int} {j : Nat} {s : Int} (h : old[j]? = some s) : (numL r num old).2.1[j]? = some s := by
 induction r generalizing num old with
 | nil => exact h
 | cons a tl ih => exact ih (numOne_old num old a.2 h)
theorem numL_grow (r : List Ar) (num old : List Int) : old.length ≤ (numL r num old).2.1.length := by
 rcases Nat.eq_zero_or_pos old.length with h | h
 ·omega
 ·have := numL_old r (num := num) (old := old) (j := old.length - 1) (s := old[old.length - 1]) (List.getElem?_eq_getElem (by omega))
  have := (List.getElem?_eq_some_iff.1 this).1
  omega
theorem NumSur.start {n : Nat} (hn : 0 < n) : NumSur ((List.replicate n (-1)).set 0 0) [0] := by
 intro j s hs
 cases j with
 | succ j => simp at hs
 | zero =>
  simp at hs; subst hs
  exact ⟨by omega, by simp [hn]⟩
theorem totA_setE (V : List (List Ar)) (s : Nat) : totA (V.set s []) + (V.getD s []).length = totA V := by
 induction V generalizing s with
 | nil => simp [totA]
 | cons x r ih =>
  cases s with
  | zero => simp [totA]; omega
  | succ s =>
   have := ih s
   simp only [List.set_cons_succ, List.getD_cons_succ]
   simp only [totA, List.map_cons, List.sum_cons] at this ⊢
   omega
theorem foldIns_sort (l acc : List Ar) (h : SortA acc) : SortA (l.foldl (fun acc a => insA a acc) acc) := by
 induction l generalizing acc with
 | nil => exact h
 | cons a r ih => exact ih _ (insA_sort h)
structure RowsG (n : Nat) (out : List (List Ar)) : Prop where
 so : ∀ r ∈ out, SortA r
 bd : ∀ r ∈ out, ∀ a ∈ r, 0 ≤ a.1 ∧ a.1 ≤ 1025 ∧ 0 ≤ a.2 ∧ a.2 < (n : Int)
theorem RowsG.le {n m : Nat} {out : List (List Ar)} (h : RowsG n out) (hm : n ≤ m) : RowsG m out := ⟨h.so, fun r hr a ha => by have := h.bd r hr a ha; omega⟩
theorem canGo_val {R : List (List Ar)} {B : Nat} (hb : ∀ r ∈ R, ∀ a ∈ r, 0 ≤ a.1 ∧ a.1 ≤ 1025 ∧ 0 ≤ a.2 ∧ a.2 < (R.length : Int)) : ∀ (f i : Nat) (num old : List Int) (out V : List (List Ar)), NumOk R.length num old → NumInj num old → NumSur num old → i = out.length → i ≤ old.length → R.length ≤ f + i →
  RowsG old.length out → V.length = R.length → (∀ s, s < R.length → (∀ j, j < i → old[j]? ≠ some (s : Int)) → V.getD s [] = R.getD s []) → totA out + totA V ≤ B →
  old.length ≤ (canGo R f i num old out).1.length ∧ (canGo R f i num old out).1.length ≤ R.length ∧ RowsG (canGo R f i num old out).1.length (canGo R f i num old out).1 ∧ totA (canGo R f i num old out).1 ≤ B := by
 intro f
 induction f with
 | zero =>
  intro i num old out V hN hI hS hi ho hf hG hVl hV ht
  have hle := hN.le
  simp only [canGo]
  exact ⟨by omega, by omega, hG.le (by omega), by omega⟩
 | succ f ih =>
  intro i num old out V hN hI hS hi ho hf hG hVl hV ht
  have hle := hN.le
  unfold canGo
  split
  ·rename_i hs
   have := List.getElem?_eq_none_iff.1 hs
   exact ⟨by simp only; omega, by simp only; omega, hG.le (by simp only; omega), by simp only; omega⟩
  ·rename_i s hs
   have hs0 := hN.st s (List.mem_of_getElem? hs)
   have hsl : s.toNat < R.length := by omega
   have hil := (List.getElem?_eq_some_iff.1 hs).1
   have hg : R.getD s.toNat [] = R[s.toNat] := by rw [List.getD_eq_getElem?_getD, List.getElem?_eq_getElem hsl]; rfl
   have hrm := List.getElem_mem hsl
   have hVs : V.getD s.toNat [] = R.getD s.toNat [] := hV s.toNat hsl fun j hj he => by
    have e : ((s.toNat : Nat) : Int) = s := by omega
    rw [e] at he
    have q1 := (hS j s he).2
    have q2 := (hS i s hs).2
    rw [q1] at q2
    injection q2 with q2
    omega
   have hts := totA_setE V s.toNat
   rw [hVs, hg] at hts
   rw [hg]
   have hq : ∀ a ∈ rowOf R[s.toNat], 0 ≤ a.2 ∧ a.2 < (num.length : Int) := fun a ha => by
    have := hb _ hrm a ((mem_rowOf _ a).1 ha); rw [hN.len]; omega
   have hqe : ∀ a ∈ rowOf R[s.toNat], 0 ≤ a.1 ∧ a.1 ≤ 1025 := fun a ha => by
    have := hb _ hrm a ((mem_rowOf _ a).1 ha); omega
   have hl3 := len_rowOf R[s.toNat]
   generalize rowOf R[s.toNat] = q at *
   have hN2 := NumOk.go q [] hN (by rw [← hN.len]; exact hq)
   have hn2 := rowGo_numL q num old []
   rw [hn2] at hN2 ⊢
   simp only at hN2 ⊢
   have hI2 := numL_inj q hq hI
   have hS2 := numL_sur q hq hS
   obtain ⟨hm1, hm2⟩ := numL_map (old := old) q hq
   have hgr := numL_grow q num old
   have hold : ∀ (j : Nat) (x : Int), old[j]? = some x → (numL q num old).2.1[j]? = some x := fun j x h => numL_old q h
   have hrow : SortA ((numL q num old).2.2.foldl (fun acc a => insA a acc) []) := foldIns_sort _ _ List.Pairwise.nil
   have hrl := len_foldl_ins (numL q num old).2.2 []
   have hrb : ∀ a ∈ (numL q num old).2.2.foldl (fun acc a => insA a acc) [], 0 ≤ a.1 ∧ a.1 ≤ 1025 ∧ 0 ≤ a.2 ∧ a.2 < ((numL q num old).2.1.length : Int) := fun a ha => by
    rw [mem_foldl_ins] at ha
    rcases ha with ha | ha
    ·simp at ha
    ·rw [hm1] at ha
     obtain ⟨b, hb1, rfl⟩ := List.mem_map.1 ha
     obtain ⟨x, hx, hp⟩ := hm2 b hb1
     have h1 := hqe b hb1
     have h2 := (List.getElem?_eq_some_iff.1 (hI2.inj _ _ hx hp)).1
     simp only [List.getD_eq_getElem?_getD, hx, Option.getD_some]
     omega
   rw [hm1, List.length_map] at hrl
   simp only [List.length_nil, Nat.zero_add] at hrl
   rw [← hm1] at hrl
   generalize (numL q num old).2.2.foldl (fun acc a => insA a acc) [] = nr at *
   generalize (numL q num old).1 = num2 at *
   generalize (numL q num old).2.1 = old2 at *
   obtain ⟨k1, k2, k3, k4⟩ := ih (i + 1) num2 old2 (out ++ [nr]) (V.set s.toNat []) hN2 hI2 hS2 (by simp; omega) (by omega) (by omega) ⟨fun r hr => by
    rcases List.mem_append.1 hr with h | h
    ·exact hG.so r h
    ·simp at h; subst h; exact hrow, fun r hr a ha => by
    rcases List.mem_append.1 hr with h | h
    ·have := hG.bd r h a ha; omega
    ·simp at h; subst h; exact hrb a ha⟩ (by simp [hVl]) (fun t htl hto => by
    have hne : s.toNat ≠ t := fun e => hto i (by omega) (by rw [hold i s hs]; congr 1; omega)
    rw [List.getD_eq_getElem?_getD, List.getElem?_set_ne hne, ← List.getD_eq_getElem?_getD]
    exact hV t htl fun j hj he => hto j (by omega) (hold j _ he)) (by rw [totA_snoc]; omega)
   exact ⟨by omega, k2, k3, k4⟩
theorem canonR_val {R : List (List Ar)} (h : looB R = true) : valB (canonR R).1 = true := by
 have hp : LooP R := of_decide_eq_true h
 have h1 := hp.1
 obtain ⟨k1, k2, k3, k4⟩ := canGo_val (B := totA R) hp.2.2.2 R.length 0 _ _ [] R (NumOk.start h1) (NumInj.start h1) (NumSur.start h1) rfl (by simp) (by omega) ⟨by simp, by simp⟩ rfl (fun _ _ _ => rfl) (by simp [totA])
 have h2 := hp.2.1
 have h3 := hp.2.2.1
 simp only [List.length_singleton] at k1
 exact decide_eq_true ⟨⟨k1, Nat.le_trans k2 h2, Nat.le_trans k4 h3, k3.bd⟩, k3.so⟩
def mx1 (m c : Int) : Int := if m < c + 1 then c + 1 else m
def mxI (m : Int) (l : List Int) : Int := l.foldl mx1 m
def nmGo : List Int → Int → Bool
 | [], _ => true
 | c :: r, m => (!decide (c < 0) && !decide (c > m)) && nmGo r (mx1 m c)
def numB (C : List Int) (n : Nat) : Bool := nmGo C 0 && decide (C.length = n)
theorem mxI_snoc (m : Int) (l : List Int) (c : Int) : mxI m (l ++ [c]) = mx1 (mxI m l) c := by unfold mxI; rw [List.foldl_append]; rfl
theorem mxI_ge (l : List Int) : ∀ m : Int, m ≤ mxI m l ∧ ∀ c ∈ l, c + 1 ≤ mxI m l := by
 induction l with
 | nil => intro m; exact ⟨Int.le_refl _, by simp⟩
 | cons a r ih =>
  intro m
  obtain ⟨h1, h2⟩ := ih (mx1 m a)
  have e : mxI m (a :: r) = mxI (mx1 m a) r := rfl
  have h3 : m ≤ mx1 m a ∧ a + 1 ≤ mx1 m a := by unfold mx1; split <;> omega
  rw [e]
  refine ⟨by omega, fun c hc => ?_⟩
  rcases List.mem_cons.1 hc with rfl | hc
  ·omega
  ·exact h2 c hc
theorem mxI_le {n : Nat} (l : List Int) : ∀ m : Int, nmGo l m = true → 0 ≤ m → mxI m l ≤ m + l.length ∧ (∀ c ∈ l, 0 ≤ c) := by
 induction l with
 | nil => intro m _ _; exact ⟨by simp [mxI], by simp⟩
 | cons a r ih =>
  intro m h hm
  simp only [nmGo, Bool.and_eq_true, Bool.not_eq_true', decide_eq_false_iff_not] at h
  obtain ⟨⟨h1, h2⟩, h3⟩ := h
  have h4 : 0 ≤ mx1 m a ∧ mx1 m a ≤ m + 1 := by unfold mx1; split <;> omega
  obtain ⟨q1, q2⟩ := ih (mx1 m a) h3 h4.1
  have e : mxI m (a :: r) = mxI (mx1 m a) r := rfl
  rw [e]
  refine ⟨by simp only [List.length_cons]; omega, fun c hc => ?_⟩
  rcases List.mem_cons.1 hc with rfl | hc
  ·omega
  ·exact q2 c hc
def maxL (x : Int) (l : List Int) : Int := l.foldl (fun a b => if a < b then b else a) x
theorem maxL_snoc (x : Int) (l : List Int) (y : Int) : maxL x (l ++ [y]) = if maxL x l < y then y else maxL x l := by unfold maxL; rw [List.foldl_append]; rfl
theorem mxI_max (l : List Int) : ∀ x : Int, mxI (x + 1) l = maxL x l + 1 := by
 induction l with
 | nil => intro x; rfl
 | cons a r ih =>
  intro x
  have e : mx1 (x + 1) a = (if x < a then a else x) + 1 := by unfold mx1; split <;> split <;> omega
  show mxI (mx1 (x + 1) a) r = maxL (if x < a then a else x) r + 1
  rw [e, ih]
theorem mxI_cons {x : Int} (l : List Int) (h : 0 ≤ x) : mxI 0 (x :: l) = maxL x (x :: l) + 1 := by
 have e1 : mx1 0 x = x + 1 := by unfold mx1; rw [if_pos (by omega)]
 have e2 : maxL x (x :: l) = maxL x l := by show maxL (if x < x then x else x) l = _; simp
 rw [e2, ← mxI_max, ← e1]; rfl
def clf (C : List Int) (v : Nat) : Nat := (C.getD v 0).toNat
def mxN (C : List Int) : Nat := (mxI 0 C).toNat
theorem num_ok {C : List Int} {n : Nat} (h : numB C n = true) : C.length = n ∧ mxN C ≤ n ∧ (∀ v, v < n → clf C v < mxN C ∧ C[v]? = some ((clf C v : Nat) : Int)) ∧ mxI 0 C = (mxN C : Int) := by
 simp only [numB, Bool.and_eq_true, decide_eq_true_eq] at h
 obtain ⟨h1, h2⟩ := h
 obtain ⟨q1, q2⟩ := mxI_le (n := n) C 0 h1 (Int.le_refl _)
 obtain ⟨p1, p2⟩ := mxI_ge C 0
 refine ⟨h2, by unfold mxN; omega, fun v hv => ?_, by unfold mxN; omega⟩
 have hl : v < C.length := by omega
 have a1 := q2 _ (List.getElem_mem hl)
 have a2 := p2 _ (List.getElem_mem hl)
 unfold clf mxN
 rw [List.getD_eq_getElem?_getD, List.getElem?_eq_getElem hl, Option.getD_some]
 refine ⟨by omega, by congr 1; omega⟩
def qp1 (f : Nat → Nat) (c : Nat) (a : Ar) : Option Ar := if a.1 ≠ 0 ∨ f a.2.toNat ≠ c then some (a.1, (f a.2.toNat : Int)) else none
def pushO (x : Option Ar) (c : Nat) (o : List (List Ar)) : List (List Ar) := match x with | some b => o.set c (o.getD c [] ++ [b]) | none => o
def qpRow (f : Nat → Nat) (c : Nat) (o : List (List Ar)) (row : List Ar) : List (List Ar) := row.foldl (fun o a => pushO (qp1 f c a) c o) o
def qpOut (f : Nat → Nat) (m : Nat) (R : List (List Ar)) : Nat → List (List Ar)
 | 0 => List.replicate m []
 | k + 1 => qpRow f (f k) (qpOut f m R k) (R.getD k [])
def lpO (b : Bool) (c : Nat) : Option Ar := if b then some (0, (c : Int)) else none
def lcL (f : Nat → Nat) (m : Nat) (B : List Bool) (k : Nat) : List Bool := (List.range m).map fun c => (List.range k).any fun s => decide (f s = c) && B.getD s false
def qlOut (L : List Bool) (o : List (List Ar)) : Nat → List (List Ar)
 | 0 => o
 | c + 1 => pushO (lpO (L.getD c false) c) c (qlOut L o c)
def qR (R : List (List Ar)) (C : List Int) (B : List Bool) : List (List Ar) := qlOut (lcL (clf C) (mxN C) B R.length) (qpOut (clf C) (mxN C) R R.length) (mxN C)
theorem pushO_len (x : Option Ar) (c : Nat) (o : List (List Ar)) : (pushO x c o).length = o.length := by cases x <;> simp [pushO]
theorem qpRow_len (f : Nat → Nat) (c : Nat) (row : List Ar) : ∀ o, (qpRow f c o row).length = o.length := by
 induction row with
 | nil => intro o; rfl
 | cons a r ih => intro o; show (qpRow f c (pushO (qp1 f c a) c o) r).length = _; rw [ih, pushO_len]
theorem qpOut_len (f : Nat → Nat) (m : Nat) (R : List (List Ar)) (k : Nat) : (qpOut f m R k).length = m := by
 induction k with
 | zero => simp [qpOut]
 | succ k ih => rw [qpOut, qpRow_len, ih]
theorem qlOut_len (L : List Bool) (o : List (List Ar)) (k : Nat) : (qlOut L o k).length = o.length := by
 induction k with
 | zero => rfl
 | succ k ih => rw [qlOut, pushO_len, ih]
theorem qpRow_snoc (f : Nat → Nat) (c : Nat) (o : List (List Ar)) (row : List Ar) (a : Ar) : qpRow f c o (row ++ [a]) = pushO (qp1 f c a) c (qpRow f c o row) := by unfold qpRow; rw [List.foldl_append]; rfl
theorem mem_pushO {x : Option Ar} {c d : Nat} {o : List (List Ar)} {a : Ar} (h : c < o.length) : a ∈ (pushO x c o).getD d [] ↔ a ∈ o.getD d [] ∨ (d = c ∧ x = some a) := by
 cases x with
 | none => simp [pushO]
 | some b =>
  unfold pushO
  simp only
  rw [List.getD_eq_getElem?_getD]
  by_cases e : c = d
  ·subst e
   rw [List.getElem?_set_self h, Option.getD_some, List.mem_append]
   simp [eq_comm]
  ·rw [List.getElem?_set_ne e, ← List.getD_eq_getElem?_getD]
   simp [Ne.symm e]
theorem mem_qpRow {f : Nat → Nat} {c d : Nat} {a : Ar} : ∀ (row : List Ar) (o : List (List Ar)), c < o.length → (a ∈ (qpRow f c o row).getD d [] ↔ a ∈ o.getD d [] ∨ (d = c ∧ ∃ b ∈ row, qp1 f c b = some a)) := by
 intro row
 induction row with
 | nil => intro o _; simp [qpRow]
 | cons b r ih =>
  intro o h
  show a ∈ (qpRow f c (pushO (qp1 f c b) c o) r).getD d [] ↔ _
  rw [ih _ (by rw [pushO_len]; exact h), mem_pushO h]
  simp only [List.mem_cons, exists_eq_or_imp]
  rw [or_assoc, ← and_or_left]
def QA (R : List (List Ar)) (f : Nat → Nat) (k d : Nat) (a : Ar) : Prop := ∃ s, s < k ∧ f s = d ∧ ∃ b ∈ R.getD s [], qp1 f d b = some a
def QL (f : Nat → Nat) (B : List Bool) (k d : Nat) (a : Ar) : Prop := a = (0, (d : Int)) ∧ ∃ s, s < k ∧ f s = d ∧ B.getD s false = true
theorem QA.succ {R : List (List Ar)} {f : Nat → Nat} {k d : Nat} {a : Ar} : QA R f (k + 1) d a ↔ QA R f k d a ∨ (d = f k ∧ ∃ b ∈ R.getD k [], qp1 f (f k) b = some a) := by
 constructor
 ·rintro ⟨s, h1, h2, h3⟩
  by_cases e : s = k
  ·subst e; subst h2; exact .inr ⟨rfl, h3⟩
  ·exact .inl ⟨s, by omega, h2, h3⟩
 ·rintro (⟨s, h1, h2, h3⟩ | ⟨rfl, h3⟩)
  ·exact ⟨s, by omega, h2, h3⟩
  ·exact ⟨k, by omega, rfl, h3⟩
theorem QL.succ {f : Nat → Nat} {B : List Bool} {k d : Nat} {a : Ar} : QL f B (k + 1) d a ↔ QL f B k d a ∨ (d = f k ∧ lpO (B.getD k false) (f k) = some a) := by
 unfold QL lpO
 constructor
 ·rintro ⟨h0, s, h1, h2, h3⟩
  by_cases e : s = k
  ·subst e; subst h2; exact .inr ⟨rfl, by rw [if_pos h3, h0]⟩
  ·exact .inl ⟨h0, s, by omega, h2, h3⟩
 ·rintro (⟨h0, s, h1, h2, h3⟩ | ⟨rfl, h3⟩)
  ·exact ⟨h0, s, by omega, h2, h3⟩
  ·split at h3
   ·rename_i hb
    injection h3 with h3
    exact ⟨h3.symm, k, by omega, rfl, hb⟩
   ·cases h3
theorem getD_rep {m d : Nat} : (List.replicate m ([] : List Ar)).getD d [] = [] := by
 rw [List.getD_eq_getElem?_getD, List.getElem?_replicate]; split <;> rfl
theorem mem_qpOut {f : Nat → Nat} {m d : Nat} {R : List (List Ar)} {a : Ar} {n : Nat} (hf : ∀ v, v < n → f v < m) : ∀ k, k ≤ n → (a ∈ (qpOut f m R k).getD d [] ↔ QA R f k d a) := by
 intro k
 induction k with
 | zero => intro _; rw [qpOut, getD_rep]; simp [QA]
 | succ k ih =>
  intro hk
  rw [qpOut, mem_qpRow _ _ (by rw [qpOut_len]; exact hf k hk), ih (by omega), QA.succ]
theorem mem_qlOut {L : List Bool} {d : Nat} {o : List (List Ar)} {a : Ar} : ∀ k, k ≤ o.length → (a ∈ (qlOut L o k).getD d [] ↔ a ∈ o.getD d [] ∨ (d < k ∧ L.getD d false = true ∧ a = (0, (d : Int)))) := by
 intro k
 induction k with
 | zero => intro _; simp [qlOut]
 | succ k ih =>
  intro hk
  rw [qlOut, mem_pushO (by rw [qlOut_len]; exact hk), ih (by omega)]
  unfold lpO
  constructor
  ·rintro ((h | ⟨h1, h2, h3⟩) | ⟨rfl, h2⟩)
   ·exact .inl h
   ·exact .inr ⟨by omega, h2, h3⟩
   ·split at h2
    ·rename_i hb; injection h2 with h2; exact .inr ⟨by omega, hb, h2.symm⟩
    ·cases h2
  ·rintro (h | ⟨h1, h2, h3⟩)
   ·exact .inl (.inl h)
   ·by_cases e : d = k
    ·subst e; exact .inr ⟨rfl, by rw [if_pos h2, h3]⟩
    ·exact .inl (.inr ⟨by omega, h2, h3⟩)
theorem lcL_len (f : Nat → Nat) (m : Nat) (B : List Bool) (k : Nat) : (lcL f m B k).length = m := by simp [lcL]
theorem lcL_get {f : Nat → Nat} {m : Nat} {B : List Bool} {k d : Nat} (hd : d < m) : (lcL f m B k).getD d false = (List.range k).any fun s => decide (f s = d) && B.getD s false := by
 simp [lcL, List.getD_eq_getElem?_getD, hd]
theorem lcL_set {f : Nat → Nat} {m : Nat} {B : List Bool} {k : Nat} (hf : f k < m) : (lcL f m B k).set (f k) ((lcL f m B k).getD (f k) false || B.getD k false) = lcL f m B (k + 1) := by
 have hl := lcL_len f m B k
 refine List.ext_getElem (by simp [lcL]) fun i h1 h2 => ?_
 rw [lcL_len] at h2
 have e2 : (lcL f m B (k + 1))[i]'(by rw [lcL_len]; exact h2) = ((List.range (k + 1)).any fun s => decide (f s = i) && B.getD s false) := by simp [lcL]
 rw [e2, List.range_succ, List.any_append]
 by_cases e : f k = i
 ·subst e
  rw [List.getElem_set_self, lcL_get hf]
  simp
 ·rw [List.getElem_set_ne e]
  have e3 : (lcL f m B k)[i]'(by rw [lcL_len]; exact h2) = ((List.range k).any fun s => decide (f s = i) && B.getD s false) := by simp [lcL]
  rw [e3]
  simp [e]
theorem mem_qR {R : List (List Ar)} {C : List Int} {B : List Bool} (h : numB C R.length = true) {d : Nat} {a : Ar} : a ∈ (qR R C B).getD d [] ↔ QA R (clf C) R.length d a ∨ QL (clf C) B R.length d a := by
 obtain ⟨h1, h2, h3, _⟩ := num_ok h
 have hf : ∀ v, v < R.length → clf C v < mxN C := fun v hv => (h3 v hv).1
 unfold qR
 rw [mem_qlOut _ (by rw [qpOut_len]; exact Nat.le_refl _), mem_qpOut hf _ (Nat.le_refl _)]
 refine or_congr Iff.rfl ?_
 unfold QL
 constructor
 ·rintro ⟨g1, g2, g3⟩
  rw [lcL_get g1, List.any_eq_true] at g2
  obtain ⟨s, hs, hb⟩ := g2
  simp only [Bool.and_eq_true, decide_eq_true_eq] at hb
  exact ⟨g3, s, List.mem_range.1 hs, hb.1, hb.2⟩
 ·rintro ⟨g3, s, hs, rfl, hb⟩
  refine ⟨hf s hs, ?_, g3⟩
  rw [lcL_get (hf s hs), List.any_eq_true]
  exact ⟨s, List.mem_range.2 hs, by simp only [Bool.and_eq_true, decide_eq_true_eq]; exact ⟨trivial, hb⟩⟩
theorem pushO_tot (x : Option Ar) (c : Nat) (o : List (List Ar)) : totA (pushO x c o) ≤ totA o + 1 := by
 cases x with
 | none => simp [pushO]
 | some b =>
  unfold pushO
  by_cases h : c < o.length
  ·simp only; rw [totA_set o h]; exact Nat.le_refl _
  ·simp only; rw [List.set_eq_of_length_le (by omega)]; omega
theorem qpRow_tot (f : Nat → Nat) (c : Nat) (row : List Ar) : ∀ o, totA (qpRow f c o row) ≤ totA o + row.length := by
 induction row with
 | nil => intro o; exact Nat.le_refl _
 | cons a r ih =>
  intro o
  have h1 := ih (pushO (qp1 f c a) c o)
  have h2 := pushO_tot (qp1 f c a) c o
  show totA (qpRow f c (pushO (qp1 f c a) c o) r) ≤ _
  simp only [List.length_cons]; omega
theorem qpOut_tot (f : Nat → Nat) (m : Nat) (R : List (List Ar)) : ∀ k, k ≤ R.length → totA (qpOut f m R k) ≤ totA (R.take k) := by
 intro k
 induction k with
 | zero => intro _; rw [qpOut, totA_rep]; omega
 | succ k ih =>
  intro hk
  have h1 := ih (by omega)
  have h2 := totA_take (R := R) (k := k) hk
  have h3 := qpRow_tot f (f k) (R.getD k []) (qpOut f m R k)
  have h4 : R.getD k [] = R[k] := by rw [List.getD_eq_getElem?_getD, List.getElem?_eq_getElem hk]; rfl
  rw [qpOut]
  rw [h4] at h3 ⊢
  omega
theorem qlOut_tot (L : List Bool) (o : List (List Ar)) : ∀ k, totA (qlOut L o k) ≤ totA o + k := by
 intro k
 induction k with
 | zero => exact Nat.le_refl _
 | succ k ih =>
  have := pushO_tot (lpO (L.getD k false) k) k (qlOut L o k)
  rw [qlOut]; omega
theorem QA.bd {R : List (List Ar)} {f : Nat → Nat} {m k d : Nat} {a : Ar} (hlo : looB R = true) (hk : k ≤ R.length) (hf : ∀ v, v < R.length → f v < m) (h : QA R f k d a) : 0 ≤ a.1 ∧ a.1 ≤ 1025 ∧ 0 ≤ a.2 ∧ a.2 < (m : Int) := by
 obtain ⟨s, h1, h2, b, hb, h3⟩ := h
 have hs : s < R.length := by omega
 rw [List.getD_eq_getElem?_getD, List.getElem?_eq_getElem hs] at hb
 have hbd := (of_decide_eq_true hlo).2.2.2 _ (List.getElem_mem hs) b hb
 unfold qp1 at h3
 split at h3
 ·injection h3 with h3
  subst h3
  have := hf b.2.toNat (by omega)
  simp only; omega
 ·cases h3
theorem qR_bd {R : List (List Ar)} {C : List Int} {B : List Bool} (hlo : looB R = true) (h : numB C R.length = true) : (qR R C B).length = mxN C ∧ (∀ r ∈ qR R C B, ∀ a ∈ r, 0 ≤ a.1 ∧ a.1 ≤ 1025 ∧ 0 ≤ a.2 ∧ a.2 < ((qR R C B).length : Int)) ∧ totA (qR R C B) ≤ totA R + R.length := by
 obtain ⟨h1, h2, h3, _⟩ := num_ok h
 have hf : ∀ v, v < R.length → clf C v < mxN C := fun v hv => (h3 v hv).1
 have hl : (qR R C B).length = mxN C := by unfold qR; rw [qlOut_len, qpOut_len]
 refine ⟨hl, fun r hr a ha => ?_, ?_⟩
 ·obtain ⟨d, hd, rfl⟩ := List.getElem_of_mem hr
  have hd2 : d < mxN C := by omega
  have ha2 : a ∈ (qR R C B).getD d [] := by rw [List.getD_eq_getElem?_getD, List.getElem?_eq_getElem hd]; exact ha
  rw [hl]
  rcases (mem_qR h).1 ha2 with q | ⟨q, _⟩
  ·exact q.bd hlo (Nat.le_refl _) hf
  ·subst q; simp only; omega
 ·have a1 := qlOut_tot (lcL (clf C) (mxN C) B R.length) (qpOut (clf C) (mxN C) R R.length) (mxN C)
  have a2 := qpOut_tot (clf C) (mxN C) R R.length (Nat.le_refl _)
  rw [List.take_length] at a2
  unfold qR
  omega
def RowN (R : List (List Ar)) (num : List Int) (s : Int) (r : List Ar) : Prop :=
 r = rowOf ((rowOf (R.getD s.toNat [])).map fun a => (a.1, num.getD a.2.toNat 0)) ∧ ∀ a ∈ R.getD s.toNat [], ∃ x, num[a.2.toNat]? = some x ∧ 0 ≤ x
theorem RowN.keep {R : List (List Ar)} {num num2 : List Int} {s : Int} {r : List Ar} (h : RowN R num s r) (hk : ∀ (t : Nat) (x : Int), num[t]? = some x → 0 ≤ x → num2[t]? = some x) : RowN R num2 s r := by
 obtain ⟨h1, h2⟩ := h
 refine ⟨?_, fun a ha => ?_⟩
 ·rw [h1]
  congr 1
  refine List.map_congr_left fun a ha => ?_
  obtain ⟨x, hx, hp⟩ := h2 a ((mem_rowOf _ a).1 ha)
  rw [List.getD_eq_getElem?_getD, List.getD_eq_getElem?_getD, hx, hk _ x hx hp]
 ·obtain ⟨x, hx, hp⟩ := h2 a ha
  exact ⟨x, hk _ x hx hp, hp⟩
theorem canGo_str {R : List (List Ar)} (hb : ∀ r ∈ R, ∀ a ∈ r, 0 ≤ a.2 ∧ a.2 < (R.length : Int)) : ∀ (f i : Nat) (num old : List Int) (out : List (List Ar)), NumOk R.length num old → NumInj num old → NumSur num old → i = out.length → i ≤ old.length → R.length ≤ f + i →
  (∀ (j : Nat) (s : Int) (r : List Ar), old[j]? = some s → out[j]? = some r → RowN R num s r) →
  ∃ num', NumOk R.length num' (canGo R f i num old out).2 ∧ NumInj num' (canGo R f i num old out).2 ∧ NumSur num' (canGo R f i num old out).2 ∧ (canGo R f i num old out).1.length = (canGo R f i num old out).2.length ∧ (∀ (j : Nat) (s : Int), old[j]? = some s → (canGo R f i num old out).2[j]? = some s) ∧
   ∀ (j : Nat) (s : Int) (r : List Ar), (canGo R f i num old out).2[j]? = some s → (canGo R f i num old out).1[j]? = some r → RowN R num' s r := by
 intro f
 induction f with
 | zero =>
  intro i num old out hN hI hS hi ho hf hR
  have hle := hN.le
  exact ⟨num, hN, hI, hS, by simp only [canGo]; omega, fun _ _ h => h, hR⟩
 | succ f ih =>
  intro i num old out hN hI hS hi ho hf hR
  have hle := hN.le
  unfold canGo
  split
  ·rename_i hs
   have := List.getElem?_eq_none_iff.1 hs
   exact ⟨num, hN, hI, hS, by simp only; omega, fun _ _ h => h, hR⟩
  ·rename_i s hs
   have hs0 := hN.st s (List.mem_of_getElem? hs)
   have hsl : s.toNat < R.length := by omega
   have hil := (List.getElem?_eq_some_iff.1 hs).1
   have hg : R.getD s.toNat [] = R[s.toNat] := by rw [List.getD_eq_getElem?_getD, List.getElem?_eq_getElem hsl]; rfl
   have hrm := List.getElem_mem hsl
   have hq : ∀ a ∈ rowOf (R.getD s.toNat []), 0 ≤ a.2 ∧ a.2 < (num.length : Int) := fun a ha => by
    rw [hg] at ha
    have := hb _ hrm a ((mem_rowOf _ a).1 ha); rw [hN.len]; omega
   have hN2 := NumOk.go (rowOf (R.getD s.toNat [])) [] hN (by rw [← hN.len]; exact hq)
   have hn2 := rowGo_numL (rowOf (R.getD s.toNat [])) num old []
   rw [hn2] at hN2 ⊢
   simp only at hN2 ⊢
   have hI2 := numL_inj _ hq hI
   have hS2 := numL_sur _ hq hS
   obtain ⟨hm1, hm2⟩ := numL_map (old := old) _ hq
   have hgr := numL_grow (rowOf (R.getD s.toNat [])) num old
   have hkp : ∀ (t : Nat) (x : Int), num[t]? = some x → 0 ≤ x → (numL (rowOf (R.getD s.toNat [])) num old).1[t]? = some x := fun t x h1 h2 => numL_keep _ (fun a ha => (hq a ha).1) h1 h2
   have hold : ∀ (j : Nat) (x : Int), old[j]? = some x → (numL (rowOf (R.getD s.toNat [])) num old).2.1[j]? = some x := fun j x h => numL_old _ h
   have hnew : RowN R (numL (rowOf (R.getD s.toNat [])) num old).1 s ((numL (rowOf (R.getD s.toNat [])) num old).2.2.foldl (fun acc a => insA a acc) []) := by
    refine ⟨?_, fun a ha => hm2 a ((mem_rowOf _ a).2 ha)⟩
    rw [hm1]; rfl
   obtain ⟨num', k1, k2, k3, k4, k5, k6⟩ := ih (i + 1) _ _ (out ++ [(numL (rowOf (R.getD s.toNat [])) num old).2.2.foldl (fun acc a => insA a acc) []]) hN2 hI2 hS2 (by simp; omega) (by omega) (by omega) (fun j t r hj hr => by
    rcases Nat.lt_or_ge j out.length with hlt | hge
    ·rw [List.getElem?_append_left hlt] at hr
     have hj2 : old[j]? = some t := by
      have h3 := hold j old[j] (List.getElem?_eq_getElem (by omega))
      rw [hj] at h3
      rw [List.getElem?_eq_getElem (by omega), ← h3]
     exact (hR j t r hj2 hr).keep hkp
    ·have hje : j = i := by
      have := (List.getElem?_eq_some_iff.1 hr).1
      simp at this; omega
     subst hje
     rw [List.getElem?_append_right hge, hi, Nat.sub_self] at hr
     simp at hr
     rw [hold j s hs] at hj
     injection hj with hj
     subst hj; subst hr
     exact hnew)
   exact ⟨num', k1, k2, k3, k4, fun j x h => k5 j x (hold j x h), k6⟩
theorem canonR_str {R : List (List Ar)} (h1 : 1 ≤ R.length) (hb : ∀ r ∈ R, ∀ a ∈ r, 0 ≤ a.2 ∧ a.2 < (R.length : Int)) : ∃ num, NumOk R.length num (canonR R).2 ∧ NumInj num (canonR R).2 ∧ NumSur num (canonR R).2 ∧ (canonR R).1.length = (canonR R).2.length ∧ (canonR R).2[0]? = some 0 ∧ ∀ (j : Nat) (s : Int) (r : List Ar), (canonR R).2[j]? = some s → (canonR R).1[j]? = some r → RowN R num s r := by
 obtain ⟨num, k1, k2, k3, k4, k5, k6⟩ := canGo_str hb R.length 0 _ _ [] (NumOk.start h1) (NumInj.start h1) (NumSur.start h1) rfl (by simp) (by omega) (fun j s r _ h => by simp at h)
 exact ⟨num, k1, k2, k3, k4, k5 0 0 rfl, k6⟩
def MtK {α : Type} (A : List (List Ar)) (kA : Nat → α) (B : List (List Ar)) (kB : Nat → α) : Prop :=
 ∀ s t, s < A.length → t < B.length → kA s = kB t → (Dv A s → Dv B t) ∧ ∀ a ∈ (satR A).getD s [], ∃ b ∈ (satR B).getD t [], b.1 = a.1 ∧ kB b.2.toNat = kA a.2.toNat
theorem sat_lt {R : List (List Ar)} (hv : valB R = true) (hn : R.length ≤ 100) {s : Nat} (hs : s < R.length) {a : Ar} (h : a ∈ (satR R).getD s []) : 0 ≤ a.2 ∧ a.2.toNat < R.length := by
 have hb := satR_bd hv hn
 have hm : (satR R).getD s [] ∈ satR R := by
  rw [List.getD_eq_getElem?_getD, List.getElem?_eq_getElem (by omega), Option.getD_some]
  exact List.getElem_mem _
 have := (hb.2 _ hm).2 a h
 omega
theorem cov_of {α : Type} {R : List (List Ar)} {k : Nat → α} (hv : valB R = true) (hn : R.length ≤ 100) (hk : MtK R k R k) {c : List Int} (ih : ∀ s t, s < R.length → t < R.length → k s = k t → c.getD s 0 = c.getD t 0) {s t : Nat} (hs : s < R.length) (ht : t < R.length) (h : k s = k t) : covB c ((satR R).getD s []) ((satR R).getD t []) = true := by
 unfold covB
 refine List.all_eq_true.2 fun a ha => ?_
 obtain ⟨b, hb, e1, e2⟩ := (hk s t hs ht h).2 a ha
 unfold hasB
 refine List.any_eq_true.2 ⟨b, hb, ?_⟩
 rw [e1, ih _ _ (sat_lt hv hn ht hb).2 (sat_lt hv hn hs ha).2 e2]
 simp
theorem MtK.le {α : Type} {R : List (List Ar)} {k : Nat → α} (hv : valB R = true) (hn : R.length ≤ 100) (hk : MtK R k R k) {c : List Int} (hc : DlC R c) {s t : Nat} (hs : s < R.length) (ht : t < R.length) (h : k s = k t) : c.getD s 0 = c.getD t 0 := by
 obtain ⟨B, hB, i, hi, -⟩ := hc
 have hb := satR_bd hv hn
 subst hi
 induction i generalizing s t with
 | zero =>
  show (dvC B R.length).getD s 0 = (dvC B R.length).getD t 0
  rw [dvC_get hs, dvC_get ht]
  have e : B.getD s false = B.getD t false := by
   rw [Bool.eq_iff_iff, hB.2 s hs, hB.2 t ht]
   exact ⟨(hk s t hs ht h).1, (hk t s ht hs h.symm).1⟩
  unfold dv0
  rw [e]
 | succ i ih =>
  have ih2 := fun s t hs ht h => ih (s := s) (t := t) hs ht h
  have e := (nmG_ok (ftS (satR R) (itS (satR R) (dvC B R.length) i)) (satR R).length).eq s t (by omega) (by omega)
  refine e.2 ?_
  unfold ftS
  rw [ih hs ht h, cov_iff.2 ⟨cov_of hv hn hk ih2 hs ht h, cov_of hv hn hk ih2 ht hs h.symm⟩]
theorem DlC.key {R : List (List Ar)} (hv : valB R = true) (hn : R.length ≤ 100) {c : List Int} (hc : DlC R c) : MtK R (fun s => c.getD s 0) R (fun s => c.getD s 0) := by
 obtain ⟨B, hB, i, hi, hf⟩ := hc
 have hb := satR_bd hv hn
 intro s t hs ht h
 simp only at h ⊢
 have e := (nmG_ok (ftS (satR R) c) (satR R).length).eq s t (by omega) (by omega)
 have e0 : (nmG (ftS (satR R) c) (satR R).length).1 = c := hf
 rw [e0] at e
 have e2 := congrArg Prod.snd (e.1 h)
 obtain ⟨c1, -⟩ := cov_iff.1 e2
 refine ⟨fun hd => ?_, fun a ha => ?_⟩
 ·have hdv : ∀ j, (itS (satR R) (dvC B R.length) j).getD s 0 = (itS (satR R) (dvC B R.length) j).getD t 0 → (dvC B R.length).getD s 0 = (dvC B R.length).getD t 0 := by
   intro j
   induction j with
   | zero => exact id
   | succ j ih => intro q; exact ih (congrArg Prod.fst (((nmG_ok (ftS (satR R) (itS (satR R) (dvC B R.length) j)) (satR R).length).eq s t (by omega) (by omega)).1 q))
  have q := hdv i (by rw [← hi]; exact h)
  rw [dvC_get hs, dvC_get ht] at q
  refine (hB.2 t ht).1 ?_
  have h2 := (hB.2 s hs).2 hd
  unfold dv0 at q
  rw [h2] at q
  generalize B.getD 0 false = x0 at q
  generalize B.getD t false = x1 at q ⊢
  revert q
  cases x0 <;> cases x1 <;> decide
 ·obtain ⟨b, hb2, hq⟩ := List.any_eq_true.1 (List.all_eq_true.1 c1 a ha)
  simp only [Bool.and_eq_true, beq_iff_eq] at hq
  exact ⟨b, hb2, hq.1, hq.2⟩
/-! Side by side. -/
def Vw {α : Type} (Z : List (List Ar)) (k : Nat → α) (s : Nat) (X : List (List Ar)) (kX : Nat → α) (s' : Nat) : Prop :=
 s' < X.length ∧ k s = kX s' ∧ (Dv Z s ↔ Dv X s') ∧ (∀ a ∈ (satR Z).getD s [], ∃ b ∈ (satR X).getD s' [], b.1 = a.1 ∧ kX b.2.toNat = k a.2.toNat) ∧ ∀ b ∈ (satR X).getD s' [], ∃ a ∈ (satR Z).getD s [], a.1 = b.1 ∧ k a.2.toNat = kX b.2.toNat
theorem Vw.mt {α : Type} {Z X Y : List (List Ar)} {k kX kY : Nat → α} {s t s' t' : Nat} (h1 : Vw Z k s X kX s') (h2 : Vw Z k t Y kY t') (hm : MtK X kX Y kY) (h : k s = k t) : (Dv Z s → Dv Z t) ∧ ∀ a ∈ (satR Z).getD s [], ∃ b ∈ (satR Z).getD t [], b.1 = a.1 ∧ k b.2.toNat = k a.2.toNat := by
 obtain ⟨a1, a2, a3, a4, a5⟩ := h1
 obtain ⟨b1, b2, b3, b4, b5⟩ := h2
 obtain ⟨m1, m2⟩ := hm s' t' a1 b1 (by rw [← a2, ← b2, h])
 refine ⟨fun d => b3.2 (m1 (a3.1 d)), fun a ha => ?_⟩
 obtain ⟨x, hx, e1, e2⟩ := a4 a ha
 obtain ⟨y, hy, e3, e4⟩ := m2 x hx
 obtain ⟨z, hz, e5, e6⟩ := b5 y hy
 exact ⟨z, hz, by rw [e5, e3, e1], by rw [e6, e4, e2]⟩
theorem sat_b1 {A R : List (List Ar)} (hz : valB (bthR A R) = true) (hA : valB A = true) {s : Nat} (hs : s < A.length) {a : Ar} : a ∈ (satR (bthR A R)).getD s [] ↔ a ∈ (satR A).getD s [] := by
 have hlA : looB A = true := decide_eq_true (of_decide_eq_true hA).1
 have hE := adj_lt true hlA
 rw [mem_satR hz (by rw [bthR_len]; omega), mem_satR hA hs]
 refine or_congr (and_congr_right fun _ => exists_congr fun u => and_congr_right fun _ => rc_b1 hE hs) (and_congr_right fun _ => exists_congr fun t => ?_)
 rw [rc_b1 hE hs]
 refine and_congr_right fun hr => ?_
 rw [bth_lt (hr.lt hs hE)]
theorem sat_b2 {A R : List (List Ar)} (hz : valB (bthR A R) = true) (hR : valB R = true) {s : Nat} (hs : s < R.length) {a : Ar} : a ∈ (satR (bthR A R)).getD (A.length + s) [] ↔ ∃ b ∈ (satR R).getD s [], a = (b.1, b.2 + (A.length : Int)) := by
 have hlo : looB R = true := decide_eq_true (of_decide_eq_true hR).1
 rw [mem_satR hz (by rw [bthR_len]; omega)]
 constructor
 ·rintro (⟨h0, u, hu, hr0⟩ | ⟨h0, t, hr0, ha⟩)
  ·obtain ⟨v, rfl, hr⟩ := (rc_b2 hlo).1 hr0
   exact ⟨(0, (v : Int)), (mem_satR hR hs).2 (.inl ⟨rfl, v, rfl, hr⟩), by obtain ⟨e, t⟩ := a; simp only at h0 hu ⊢; subst h0; subst hu; congr 1; omega⟩
  ·obtain ⟨v, rfl, hr⟩ := (rc_b2 hlo).1 hr0
   rw [bth_ge] at ha
   obtain ⟨b, hb, rfl⟩ := List.mem_map.1 ha
   exact ⟨b, (mem_satR hR hs).2 (.inr ⟨h0, v, hr, hb⟩), rfl⟩
 ·rintro ⟨b, hb, rfl⟩
  rcases (mem_satR hR hs).1 hb with ⟨h0, u, hu, hr⟩ | ⟨h0, t, hr, ha⟩
  ·exact .inl ⟨h0, A.length + u, by simp only; omega, (rc_b2 hlo).2 ⟨u, rfl, hr⟩⟩
  ·exact .inr ⟨h0, A.length + t, (rc_b2 hlo).2 ⟨t, rfl, hr⟩, by rw [bth_ge]; exact List.mem_map.2 ⟨b, ha, rfl⟩⟩
def kB2 {α : Type} (n : Nat) (kA kR : Nat → α) (s : Nat) : α := if s < n then kA s else kR (s - n)
theorem MtK.both {α : Type} {A R : List (List Ar)} {kA kR : Nat → α} (hA : valB A = true) (hR : valB R = true) (hn : A.length + R.length ≤ 100) (hz : valB (bthR A R) = true) (h1 : MtK A kA A kA) (h2 : MtK A kA R kR) (h3 : MtK R kR A kA) (h4 : MtK R kR R kR) : MtK (bthR A R) (kB2 A.length kA kR) (bthR A R) (kB2 A.length kA kR) := by
 have hlA : looB A = true := decide_eq_true (of_decide_eq_true hA).1
 have hlo : looB R = true := decide_eq_true (of_decide_eq_true hR).1
 have hE := adj_lt true hlA
 have v1 : ∀ s, s < A.length → Vw (bthR A R) (kB2 A.length kA kR) s A kA s := fun s hs => by
  have hk : ∀ a ∈ (satR A).getD s [], kB2 A.length kA kR a.2.toNat = kA a.2.toNat := fun a ha => if_pos (sat_lt hA (by omega) hs ha).2
  refine ⟨hs, if_pos hs, dv_b1 hE hs, fun a ha => ?_, fun b hb => ?_⟩
  ·have ha := (sat_b1 hz hA hs).1 ha
   exact ⟨a, ha, rfl, (hk a ha).symm⟩
  ·exact ⟨b, (sat_b1 hz hA hs).2 hb, rfl, hk b hb⟩
 have v2 : ∀ s, s < R.length → Vw (bthR A R) (kB2 A.length kA kR) (A.length + s) R kR s := fun s hs => by
  have hk : ∀ a ∈ (satR R).getD s [], kB2 A.length kA kR (a.2 + (A.length : Int)).toNat = kR a.2.toNat := fun a ha => by
   have := sat_lt hR (by omega) hs ha
   unfold kB2
   rw [if_neg (by omega)]
   congr 1; omega
  refine ⟨hs, by unfold kB2; rw [if_neg (by omega)]; congr 1; omega, dv_b2 hlo, fun a ha => ?_, fun b hb => ?_⟩
  ·obtain ⟨b, hb, rfl⟩ := (sat_b2 hz hR hs).1 ha
   exact ⟨b, hb, rfl, (hk b hb).symm⟩
  ·exact ⟨_, (sat_b2 hz hR hs).2 ⟨b, hb, rfl⟩, rfl, hk b hb⟩
 have hv : ∀ s, s < (bthR A R).length → s < A.length ∨ ∃ s', s' < R.length ∧ s = A.length + s' := fun s hs => by
  rw [bthR_len] at hs
  by_cases e : s < A.length
  ·exact .inl e
  ·exact .inr ⟨s - A.length, by omega, by omega⟩
 intro s t hs ht h
 rcases hv s hs with hs2 | ⟨s, hs2, rfl⟩ <;> rcases hv t ht with ht2 | ⟨t, ht2, rfl⟩
 ·exact (v1 s hs2).mt (v1 t ht2) h1 h
 ·exact (v1 s hs2).mt (v2 t ht2) h2 h
 ·exact (v2 s hs2).mt (v1 t ht2) h3 h
 ·exact (v2 s hs2).mt (v2 t ht2) h4 h
/-! The quotient. -/
structure QuX (R X : List (List Ar)) (f kX : Nat → Nat) : Prop where
 inj : ∀ i j, i < X.length → j < X.length → kX i = kX j → i = j
 sur : ∀ j, j < X.length → ∃ s, s < R.length ∧ f s = kX j
 fw : ∀ s j, s < R.length → j < X.length → f s = kX j → ∀ b ∈ R.getD s [], (b.1 ≠ 0 ∨ f b.2.toNat ≠ f s) → ∃ i : Nat, i < X.length ∧ (b.1, (i : Int)) ∈ X.getD j [] ∧ kX i = f b.2.toNat
 bw : ∀ j (a : Ar), j < X.length → a ∈ X.getD j [] → ∃ i : Nat, i < X.length ∧ a.2 = (i : Int) ∧ ((∃ s, s < R.length ∧ f s = kX j ∧ ∃ b ∈ R.getD s [], b.1 = a.1 ∧ f b.2.toNat = kX i ∧ (a.1 ≠ 0 ∨ kX i ≠ kX j)) ∨ (a.1 = 0 ∧ i = j ∧ ∃ s, s < R.length ∧ f s = kX j ∧ Dv R s))
 lp : ∀ s j, s < R.length → j < X.length → f s = kX j → Dv R s → (0, (j : Int)) ∈ X.getD j []
section
variable {R X : List (List Ar)} {f kX : Nat → Nat}
theorem row_lt2 (hv : valB R = true) {s : Nat} {b : Ar} (hb : b ∈ R.getD s []) : 0 ≤ b.2 ∧ b.2.toNat < R.length := by
 have hlo := (of_decide_eq_true hv).1
 have hs : s < R.length := by
  by_cases e : s < R.length
  ·exact e
  ·rw [List.getD_eq_getElem?_getD, List.getElem?_eq_none (by omega)] at hb
   simp at hb
 rw [List.getD_eq_getElem?_getD, List.getElem?_eq_getElem hs, Option.getD_some] at hb
 have h := hlo.2.2.2 _ (List.getElem_mem hs) b hb
 omega
theorem QuX.path (h : QuX R X f kX) (hR : valB R = true) (hX : valB X = true) {s u j : Nat} (hs : s < R.length) (hj : j < X.length) (e : f s = kX j) (hr : Rc (Adj true R) s u) : ∃ i, i < X.length ∧ Rc (Adj true X) j i ∧ kX i = f u := by
 have hE := adj_lt true (decide_eq_true (of_decide_eq_true hR).1 : looB R = true)
 induction hr with
 | refl => exact ⟨j, hj, .refl _, e.symm⟩
 | @tail u w hu hw ih =>
  obtain ⟨i, hi, hp, ei⟩ := ih
  have hw2 := (adj_mem hR).1 hw
  by_cases hc : f w = f u
  ·exact ⟨i, hi, hp, by rw [ei, hc]⟩
  ·obtain ⟨i2, h1, h2, h3⟩ := h.fw u i (hu.lt hs hE) hi ei.symm _ hw2 (.inr (by simpa using hc))
   exact ⟨i2, h1, hp.tail ((adj_mem hX).2 h2), by rw [h3]; simp⟩
theorem QuX.mt1 (h : QuX R X f kX) (hR : valB R = true) (hX : valB X = true) : MtK R f X kX := by
 have hE := adj_lt true (decide_eq_true (of_decide_eq_true hR).1 : looB R = true)
 intro s j hs hj e
 refine ⟨fun ⟨g, hg, hd⟩ => ?_, fun a ha => ?_⟩
 ·obtain ⟨i, hi, hp, ei⟩ := h.path hR hX hs hj e hg
  have hl := h.lp g i (hg.lt hs hE) hi ei.symm ⟨g, .refl _, hd⟩
  exact ⟨i, hp, i, (adj_mem hX).2 hl, .refl _⟩
 ·rcases (mem_satR hR hs).1 ha with ⟨h0, u, hu, hr⟩ | ⟨h0, t, hr, hb⟩
  ·obtain ⟨i, hi, hp, ei⟩ := h.path hR hX hs hj e hr
   exact ⟨(0, (i : Int)), (mem_satR hX hj).2 (.inl ⟨rfl, i, rfl, hp⟩), h0.symm, by rw [hu]; simpa using ei⟩
  ·obtain ⟨i, hi, hp, ei⟩ := h.path hR hX hs hj e hr
   obtain ⟨i2, h1, h2, h3⟩ := h.fw t i (hr.lt hs hE) hi ei.symm _ hb (.inl h0)
   exact ⟨(a.1, (i2 : Int)), (mem_satR hX hj).2 (.inr ⟨h0, i, hp, h2⟩), rfl, by simpa using h3⟩
theorem QuX.step (h : QuX R X f kX) (hR : valB R = true) (hX : valB X = true) (hk : MtK R f R f) {i j : Nat} {u : Nat} (hu : u < R.length) (hj : j < X.length) (e : f u = kX j) (hi : i ∈ Adj true X j) : i < X.length ∧ ∃ v, v < R.length ∧ Rc (Adj true R) u v ∧ f v = kX i := by
 have hE := adj_lt true (decide_eq_true (of_decide_eq_true hR).1 : looB R = true)
 obtain ⟨i', h1, h2, h3⟩ := h.bw j _ hj ((adj_mem hX).1 hi)
 have hii : i = i' := by simp only at h2; omega
 subst hii
 refine ⟨h1, ?_⟩
 rcases h3 with ⟨s, hs, es, b, hb, eb, fb, _⟩ | ⟨_, rfl, _⟩
 ·have hbl := row_lt2 hR hb
  have hb2 : b ∈ R.getD s [] := hb
  have hbs : (0, b.2) ∈ (satR R).getD s [] := (mem_satR hR hs).2 (.inl ⟨rfl, b.2.toNat, by simp only; omega, .one ((adj_mem hR).2 (by
   obtain ⟨x, y⟩ := b
   simp only at eb hbl ⊢
   subst eb
   rw [Int.toNat_of_nonneg hbl.1]
   exact hb))⟩)
  obtain ⟨c, hc, e1, e2⟩ := (hk s u hs hu (by rw [es, e])).2 _ hbs
  rcases (mem_satR hR hu).1 hc with ⟨_, v, hv, hr⟩ | ⟨h0, _⟩
  ·exact ⟨v, hr.lt hu hE, hr, by rw [hv] at e2; simp only [Int.toNat_natCast] at e2; rw [e2, fb]⟩
  ·exact absurd e1 h0
 ·exact ⟨u, hu, .refl _, e⟩
theorem QuX.back (h : QuX R X f kX) (hR : valB R = true) (hX : valB X = true) (hk : MtK R f R f) {i j : Nat} {u : Nat} (hu : u < R.length) (hj : j < X.length) (e : f u = kX j) (hr : Rc (Adj true X) j i) : i < X.length ∧ ∃ v, v < R.length ∧ Rc (Adj true R) u v ∧ f v = kX i := by
 induction hr with
 | refl => exact ⟨hj, u, hu, .refl _, e⟩
 | tail _ hw ih =>
  obtain ⟨h1, v, hv, hp, ev⟩ := ih
  obtain ⟨h2, w, hw2, hp2, ew⟩ := h.step hR hX hk hv h1 ev hw
  exact ⟨h2, w, hw2, hp.trans hp2, ew⟩
theorem dv_turn (hR : valB R = true) {P : Nat → Prop} (hP : ∀ u, u < R.length → P u → ∃ w v, w ∈ Adj true R u ∧ Rc (Adj true R) w v ∧ v < R.length ∧ P v) : ∀ (n u : Nat), u < R.length → P u → rkF R u ≤ n → Dv R u := by
 intro n
 induction n with
 | zero =>
  intro u hu _ hr
  exfalso
  have hp : 0 < (List.range R.length).countP fun x => @decide (Rc (Adj true R) u x) (Classical.propDecidable _) := List.countP_pos_iff.2 ⟨u, List.mem_range.2 hu, @decide_eq_true _ (Classical.propDecidable _) (Rc.refl u)⟩
  unfold rkF at hr
  omega
 | succ n ih =>
  intro u hu hp hr
  obtain ⟨w, v, hw, hwv, hvl, hv⟩ := hP u hu hp
  by_cases hb : Rc (Adj true R) v u
  ·exact ⟨u, .refl _, w, hw, hwv.trans hb⟩
  ·have huv : Rc (Adj true R) u v := (Rc.one hw).trans hwv
   have hlt : rkF R v < rkF R u := countP_lt (fun x _ hx => @decide_eq_true _ (Classical.propDecidable _) (huv.trans (@of_decide_eq_true _ (Classical.propDecidable _) hx))) u (List.mem_range.2 hu) (@decide_eq_true _ (Classical.propDecidable _) (Rc.refl u)) (@decide_eq_false _ (Classical.propDecidable _) hb)
   obtain ⟨g, hg, hd⟩ := ih v hvl hv (by omega)
   exact ⟨g, huv.trans hg, hd⟩
theorem rc_split {E : Nat → List Nat} {u v : Nat} (h : Rc E u v) (hne : u ≠ v) : ∃ w, w ∈ E u ∧ Rc E w v := by
 induction h with
 | refl => exact absurd rfl hne
 | @tail a b hab hb ih =>
  by_cases e : u = a
  ·subst e; exact ⟨b, hb, .refl _⟩
  ·obtain ⟨w, h1, h2⟩ := ih e
   exact ⟨w, h1, h2.tail hb⟩
theorem QuX.mt2 (h : QuX R X f kX) (hR : valB R = true) (hX : valB X = true) (hk : MtK R f R f) : MtK X kX R f := by
 have hE := adj_lt true (decide_eq_true (of_decide_eq_true hR).1 : looB R = true)
 intro j s hj hs e
 refine ⟨fun ⟨i, hi, w, hw, hwi⟩ => ?_, fun a ha => ?_⟩
 ·obtain ⟨hil, u, hu, hp, eu⟩ := h.back hR hX hk hs hj e.symm hi
  obtain ⟨i', h1, h2, h3⟩ := h.bw i _ hil ((adj_mem hX).1 hw)
  have hii : w = i' := by simp only at h2; omega
  subst hii
  have hdu : Dv R u := by
   rcases h3 with ⟨_, _, _, _, _, _, _, hor⟩ | ⟨_, rfl, s', hs', es', hd⟩
   ·have hne : kX w ≠ kX i := by simpa using hor
    refine dv_turn hR (P := fun u => f u = kX i) (fun u hu eu => ?_) _ u hu eu (Nat.le_refl _)
    obtain ⟨_, x, hx, hux, ex⟩ := h.step hR hX hk hu hil eu hw
    obtain ⟨_, y, hy, hxy, ey⟩ := h.back hR hX hk hx h1 ex hwi
    obtain ⟨z, hz, hzx⟩ := rc_split hux (fun q => hne (by rw [← ex, ← q, eu]))
    exact ⟨z, y, hz, hzx.trans hxy, hy, ey⟩
   ·exact (hk s' u hs' hu (by rw [es', eu])).1 hd
  obtain ⟨g, hg, hd⟩ := hdu
  exact ⟨g, hp.trans hg, hd⟩
 ·rcases (mem_satR hX hj).1 ha with ⟨h0, i, hi, hr⟩ | ⟨h0, i, hr, hb⟩
  ·obtain ⟨_, v, hv, hp, ev⟩ := h.back hR hX hk hs hj e.symm hr
   exact ⟨(0, (v : Int)), (mem_satR hR hs).2 (.inl ⟨rfl, v, rfl, hp⟩), h0.symm, by rw [hi]; simpa using ev⟩
  ·obtain ⟨hil, v, hv, hp, ev⟩ := h.back hR hX hk hs hj e.symm hr
   obtain ⟨i', h1, h2, h3⟩ := h.bw i a hil hb
   rcases h3 with ⟨s', hs', es', b, hb2, eb, fb, _⟩ | ⟨h9, _⟩
   ·have hbs : b ∈ (satR R).getD s' [] := (mem_satR hR hs').2 (.inr ⟨by rw [eb]; exact h0, s', .refl _, hb2⟩)
    obtain ⟨c, hc, e1, e2⟩ := (hk s' v hs' hv (by rw [es', ev])).2 _ hbs
    rcases (mem_satR hR hv).1 hc with ⟨h8, _⟩ | ⟨_, t, ht, hct⟩
    ·exact absurd (by rw [← eb, ← e1, h8]) h0
    ·exact ⟨c, (mem_satR hR hs).2 (.inr ⟨by rw [e1, eb]; exact h0, t, hp.trans ht, hct⟩), by rw [e1, eb], by rw [e2, fb, h2]; simp⟩
   ·exact absurd h9 h0
theorem QuX.mt3 (h : QuX R X f kX) : MtK X kX X kX := fun i j hi hj e => by
 have := h.inj i j hi hj e
 subst this
 exact ⟨id, fun a ha => ⟨a, ha, rfl, rfl⟩⟩
theorem QuX.min (h : QuX R X f kX) (hR : valB R = true) (hX : valB X = true) (hn : R.length ≤ 100) (hk : MtK R f R f) {c x : List Int} (hc : DlC R c) (hf : ∀ s t, s < R.length → t < R.length → c.getD s 0 = c.getD t 0 → f s = f t) (hXn : X.length ≤ 100) (hx : DlC X x) {i j : Nat} (hi : i < X.length) (hj : j < X.length) (e : x.getD i 0 = x.getD j 0) : i = j := by
 classical
 let k : Nat → Int ⊕ Nat := fun s => if q : ∃ j, j < X.length ∧ kX j = f s then .inl (x.getD q.choose 0) else .inr (f s)
 have k1 : ∀ s j, j < X.length → kX j = f s → k s = .inl (x.getD j 0) := fun s j hj e => by
  have q : ∃ j, j < X.length ∧ kX j = f s := ⟨j, hj, e⟩
  have := h.inj _ _ q.choose_spec.1 hj (by rw [q.choose_spec.2, e])
  show (if q : ∃ j, j < X.length ∧ kX j = f s then Sum.inl (x.getD q.choose 0) else .inr (f s)) = _
  rw [dif_pos q, this]
 have k2 : ∀ s, (¬ ∃ j, j < X.length ∧ kX j = f s) → k s = .inr (f s) := fun s q => dif_neg q
 have k3 : ∀ s t, f s = f t → k s = k t := fun s t e => by show (if q : ∃ j, j < X.length ∧ kX j = f s then Sum.inl (x.getD q.choose 0) else Sum.inr (f s)) = if q : ∃ j, j < X.length ∧ kX j = f t then Sum.inl (x.getD q.choose 0) else Sum.inr (f t); rw [e]
 have hm1 := h.mt1 hR hX
 have hm2 := h.mt2 hR hX hk
 have hkx := DlC.key hX hXn hx
 have hkk : MtK R k R k := fun s t hs ht e => by
  by_cases q : ∃ j, j < X.length ∧ kX j = f s
  ·obtain ⟨i, hi, ei⟩ := q
   have e1 := k1 s i hi ei
   by_cases q2 : ∃ j, j < X.length ∧ kX j = f t
   ·obtain ⟨j, hj, ej⟩ := q2
    have e2 := k1 t j hj ej
    have e3 : x.getD i 0 = x.getD j 0 := by rw [e1, e2] at e; exact Sum.inl.inj e
    refine ⟨fun d => (hm2 j t hj ht ej).1 ((hkx i j hi hj e3).1 ((hm1 s i hs hi ei.symm).1 d)), fun a ha => ?_⟩
    obtain ⟨b1, hb1, p1, p2⟩ := (hm1 s i hs hi ei.symm).2 a ha
    obtain ⟨b2, hb2, p3, p4⟩ := (hkx i j hi hj e3).2 b1 hb1
    obtain ⟨b3, hb3, p5, p6⟩ := (hm2 j t hj ht ej).2 b2 hb2
    refine ⟨b3, hb3, by rw [p5, p3, p1], ?_⟩
    rw [k1 _ _ (sat_lt hX hXn hj hb2).2 p6.symm, k1 _ _ (sat_lt hX hXn hi hb1).2 p2]
    exact congrArg _ p4
   ·rw [e1, k2 t q2] at e; simp at e
  ·by_cases q2 : ∃ j, j < X.length ∧ kX j = f t
   ·obtain ⟨j, hj, ej⟩ := q2
    rw [k2 s q, k1 t j hj ej] at e; simp at e
   ·rw [k2 s q, k2 t q2] at e
    obtain ⟨d1, d2⟩ := hk s t hs ht (Sum.inr.inj e)
    refine ⟨d1, fun a ha => ?_⟩
    obtain ⟨b, hb, p1, p2⟩ := d2 a ha
    exact ⟨b, hb, p1, k3 _ _ p2⟩
 obtain ⟨s, hs, es⟩ := h.sur i hi
 obtain ⟨t, ht, et⟩ := h.sur j hj
 refine h.inj i j hi hj ?_
 rw [← es, ← et]
 exact hf s t hs ht (hkk.le hR hn hc hs ht (by rw [k1 s i hi es.symm, k1 t j hj et.symm, e]))
end
end Go.Proofs.Ytahnebicgbjonaa
