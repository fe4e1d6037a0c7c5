/- flow.Order, plain: components, successors first. Systems side by side, plain: components, divergence, the components' order. The classes are determined; small drawn systems are valid. -/
import Derived.Test.YtahnebicgbjonaaGreatG45
namespace Go.Proofs.YtahnebicgbjonaaGreat
set_option linter.unusedVariables false
set_option linter.unusedSimpArgs false

abbrev Ed := Nat × Nat
def edA (f : Nat → Nat) (s : Nat) (a : Ar) : Option Ed := if a.1 = 0 ∧ f s ≠ f a.2.toNat then some (f s, f a.2.toNat) else none
def edR (f : Nat → Nat) (s : Nat) (row : List Ar) : List Ed := row.filterMap (edA f s)
def edL (f : Nat → Nat) (R : List (List Ar)) (k : Nat) : List Ed := (List.range k).flatMap fun s => edR f s (R.getD s [])
theorem edR_snoc (f : Nat → Nat) (s : Nat) (row : List Ar) (a : Ar) : edR f s (row ++ [a]) = edR f s row ++ (edA f s a).toList := by
 unfold edR
 rw [List.filterMap_append]
 cases h : edA f s a <;> simp [h]
theorem edL_succ (f : Nat → Nat) (R : List (List Ar)) (k : Nat) : edL f R (k + 1) = edL f R k ++ edR f k (R.getD k []) := by simp [edL, List.range_succ]
theorem mem_edL {f : Nat → Nat} {R : List (List Ar)} {k : Nat} {e : Ed} : e ∈ edL f R k ↔ ∃ s, s < k ∧ ∃ a ∈ R.getD s [], a.1 = 0 ∧ f s ≠ f a.2.toNat ∧ e = (f s, f a.2.toNat) := by
 unfold edL edR
 simp only [List.mem_flatMap, List.mem_range, List.mem_filterMap]
 constructor
 ·rintro ⟨s, hs, a, ha, h⟩
  unfold edA at h
  split at h
  ·rename_i hc
   injection h with h
   exact ⟨s, hs, a, ha, hc.1, hc.2, h.symm⟩
  ·cases h
 ·rintro ⟨s, hs, a, ha, h1, h2, rfl⟩
  exact ⟨s, hs, a, ha, by unfold edA; rw [if_pos ⟨h1, h2⟩]⟩
theorem edL_len (f : Nat → Nat) (R : List (List Ar)) : ∀ k, k ≤ R.length → (edL f R k).length ≤ totA (R.take k) := by
 intro k
 induction k with
 | zero => intro _; simp [edL, totA]
 | succ k ih =>
  intro hk
  have h1 := ih (by omega)
  have h2 := totA_take (R := R) (k := k) hk
  have h3 : R.getD k [] = R[k] := by rw [List.getD_eq_getElem?_getD, List.getElem?_eq_getElem hk]; rfl
  have h4 := List.length_filterMap_le (edA f k) R[k]
  rw [edL_succ, List.length_append, h3]
  unfold edR
  omega
def cn1 (E : List Ed) (c : Nat) : Nat := E.countP fun e => e.1 == c
def wtL (n : Nat) (E : List Ed) : List Int := (List.range n).map fun c => (cn1 E c : Int)
def bfE (E : List Ed) (t : Nat) : List Nat := (E.filter fun e => e.2 == t).map (·.1)
def bfEL (n : Nat) (E : List Ed) : List (List Int) := (List.range n).map fun t => (bfE E t).map Int.ofNat
theorem wtL_len (n : Nat) (E : List Ed) : (wtL n E).length = n := by simp [wtL]
theorem wtL_get {n : Nat} {E : List Ed} {c : Nat} (h : c < n) : (wtL n E)[c]? = some (cn1 E c : Int) := by simp [wtL, h]
theorem bfEL_len (n : Nat) (E : List Ed) : (bfEL n E).length = n := by simp [bfEL]
theorem bfEL_get {n : Nat} {E : List Ed} {t : Nat} (h : t < n) : (bfEL n E)[t]? = some ((bfE E t).map Int.ofNat) := by simp [bfEL, h]
theorem cn1_snoc (E : List Ed) (c t d : Nat) : cn1 (E ++ [(c, t)]) d = cn1 E d + if c = d then 1 else 0 := by
 unfold cn1
 rw [List.countP_append]
 by_cases h : c = d <;> simp [h]
theorem wtL_snoc {n : Nat} {E : List Ed} {c t : Nat} (h : c < n) : (wtL n E).set c ((cn1 E c : Int) + 1) = wtL n (E ++ [(c, t)]) := by
 refine List.ext_getElem (by simp [wtL]) fun i h1 h2 => ?_
 rw [wtL_len] at h2
 have e2 : (wtL n (E ++ [(c, t)]))[i]'(by rw [wtL_len]; exact h2) = (cn1 (E ++ [(c, t)]) i : Int) := by simp [wtL]
 rw [e2, cn1_snoc, List.getElem_set]
 by_cases e : c = i
 ·subst e; simp
 ·rw [if_neg e, if_neg e]; simp [wtL]
theorem bfE_snoc (E : List Ed) (c t d : Nat) : bfE (E ++ [(c, t)]) d = bfE E d ++ if t = d then [c] else [] := by
 unfold bfE
 rw [List.filter_append, List.map_append]
 by_cases h : t = d <;> simp [h]
theorem bfEL_snoc {n : Nat} {E : List Ed} {c t : Nat} (h : t < n) : (bfEL n E).set t ((bfE E t).map Int.ofNat ++ [(c : Int)]) = bfEL n (E ++ [(c, t)]) := by
 refine List.ext_getElem (by simp [bfEL]) fun i h1 h2 => ?_
 rw [bfEL_len] at h2
 have e2 : (bfEL n (E ++ [(c, t)]))[i]'(by rw [bfEL_len]; exact h2) = (bfE (E ++ [(c, t)]) i).map Int.ofNat := by simp [bfEL]
 rw [e2, bfE_snoc, List.getElem_set]
 by_cases e : t = i
 ·subst e; simp
 ·rw [if_neg e, if_neg e]; simp [bfEL]
theorem bfE_len (E : List Ed) (t : Nat) : (bfE E t).length ≤ E.length := by
 unfold bfE; rw [List.length_map]; exact List.length_filter_le _ _
theorem cn1_le (E : List Ed) (c : Nat) : cn1 E c ≤ E.length := List.countP_le_length
def dnE (E : List Ed) (P : List Nat) (c : Nat) : Nat := E.countP fun e => e.1 == c && decide (e.2 ∈ P)
theorem dnE_le (E : List Ed) (P : List Nat) (c : Nat) : dnE E P c ≤ cn1 E c := List.countP_mono_left fun e _ h => by simp only [Bool.and_eq_true] at h; exact h.1
theorem dnE_snoc {E : List Ed} {P : List Nat} {q : Nat} (h : q ∉ P) (c : Nat) : dnE E (P ++ [q]) c = dnE E P c + (bfE E q).countP (· == c) := by
 unfold dnE bfE
 rw [List.countP_map, List.countP_filter]
 induction E with
 | nil => rfl
 | cons e r ih =>
  simp only [List.countP_cons, ih]
  by_cases h1 : e.1 = c
  ·by_cases h2 : e.2 = q
   ·have h3 : e.2 ∉ P := by rw [h2]; exact h
    simp [h1, h2, h]; omega
   ·by_cases h3 : e.2 ∈ P <;> simp [h1, h2, h3]; omega
  ·simp [h1]
theorem dnE_nil (E : List Ed) (c : Nat) : dnE E [] c = 0 := by simp [dnE]
theorem countP_eq_all {γ : Type} {p q : γ → Bool} : ∀ {l : List γ}, (∀ x ∈ l, p x = true → q x = true) → l.countP p = l.countP q → ∀ x ∈ l, q x = true → p x = true
 | [], _, _, x, hx, _ => by simp at hx
 | a :: r, h, e, x, hx, hq => by
  have hle := List.countP_mono_left (p := p) (q := q) (l := r) fun y hy => h y (List.mem_cons_of_mem _ hy)
  rw [List.countP_cons, List.countP_cons] at e
  have ha := h a (by simp)
  rcases List.mem_cons.1 hx with rfl | hx
  ·cases hp : p x with
   | true => rfl
   | false => rw [hp, hq] at e; simp at e; omega
  ·refine countP_eq_all (fun y hy => h y (List.mem_cons_of_mem _ hy)) ?_ x hx hq
   cases hp : p a with
   | true => rw [hp, ha hp] at e; simp at e; exact e
   | false =>
    rw [hp] at e
    cases hqa : q a with
    | true => rw [hqa] at e; simp at e; omega
    | false => rw [hqa] at e; simpa using e
theorem dnE_full {E : List Ed} {P : List Nat} {c : Nat} (h : dnE E P c = cn1 E c) : ∀ e ∈ E, e.1 = c → e.2 ∈ P := by
 intro e he h1
 have := countP_eq_all (p := fun e : Ed => e.1 == c && decide (e.2 ∈ P)) (q := fun e : Ed => e.1 == c) (l := E) (fun x _ hx => by simp only [Bool.and_eq_true] at hx; exact hx.1) h e he (by simpa using h1)
 simp only [Bool.and_eq_true, decide_eq_true_eq] at this
 exact this.2
structure Kh (E : List Ed) (n : Nat) (f : Nat → Nat) (i m : Nat) (Q : List Nat) (W : List Int) : Prop where
 len : W.length = n
 wt : ∀ c, c < n → W[c]? = some (((cn1 E c : Nat) : Int) - (dnE E (Q.take i) c : Nat) - (((bfE E (Q.getD i 0)).take m).countP (· == c) : Nat))
 nd : Q.Nodup
 rep : ∀ c ∈ Q, c < n ∧ f c = c
 zero : ∀ c, c < n → f c = c → (c ∈ Q ↔ W[c]? = some 0)
 topo : ∀ (j c : Nat), Q[j]? = some c → ∀ e ∈ E, e.1 = c → ∃ j', j' < j ∧ Q[j']? = some e.2
section
variable {E : List Ed} {n : Nat} {f : Nat → Nat} {i m : Nat} {Q : List Nat} {W : List Int}
theorem Kh.qlen (h : Kh E n f i m Q W) : Q.length ≤ n := by
 have := h.nd.length_le_of_subset (l₂ := List.range n) fun q hq => List.mem_range.2 (h.rep q hq).1
 simpa using this
theorem Kh.step (h : Kh E n f i m Q W) (hi : i < Q.length) (hE : ∀ e ∈ E, e.1 < n ∧ f e.1 = e.1) {c : Nat} (hc : (bfE E (Q.getD i 0))[m]? = some c) :
  c < n ∧ f c = c ∧ ∃ w : Int, W[c]? = some w ∧ 1 ≤ w ∧ w ≤ cn1 E c ∧ (w ≠ 1 → Kh E n f i (m + 1) Q (W.set c (w - 1))) ∧ (w = 1 → Kh E n f i (m + 1) (Q ++ [c]) (W.set c (w - 1))) := by
 have hqi : Q[i]? = some (Q.getD i 0) := by rw [List.getD_eq_getElem?_getD, List.getElem?_eq_getElem hi]; rfl
 have hwt := h.wt
 generalize hq : Q.getD i 0 = q at *
 have hmem : c ∈ bfE E q := List.mem_of_getElem? hc
 have hce : ∃ e ∈ E, e.2 = q ∧ e.1 = c := by
  obtain ⟨e, he, h1⟩ := List.mem_map.1 hmem
  have := List.mem_filter.1 he
  exact ⟨e, this.1, by simpa using this.2, h1⟩
 obtain ⟨e0, he0, he1, he2⟩ := hce
 have hcn := hE e0 he0
 rw [he2] at hcn
 obtain ⟨hc1, hc2⟩ := hcn
 have hml := (List.getElem?_eq_some_iff.1 hc).1
 have hcv := (List.getElem?_eq_some_iff.1 hc).2
 have hqn : q ∉ Q.take i := fun hin => by
  obtain ⟨j, hj, hj2⟩ := List.mem_take_iff_getElem.1 hin
  have hji : j < i := by have := List.length_take_le i Q; omega
  have e1 : Q[j] = Q[i] := by rw [hj2, (List.getElem?_eq_some_iff.1 hqi).2]
  exact List.pairwise_iff_getElem.1 h.nd j i (by omega) hi hji e1
 have htk : Q.take (i + 1) = Q.take i ++ [q] := by rw [List.take_succ_eq_append_getElem hi, (List.getElem?_eq_some_iff.1 hqi).2]
 have hsn := dnE_snoc (E := E) hqn
 have hle := fun d => dnE_le E (Q.take (i + 1)) d
 rw [htk] at hle
 have htm : (bfE E q).take (m + 1) = (bfE E q).take m ++ [c] := by rw [List.take_succ_eq_append_getElem hml, hcv]
 have hcnt : ∀ d, ((bfE E q).take (m + 1)).countP (· == d) = ((bfE E q).take m).countP (· == d) + if c = d then 1 else 0 := fun d => by
  rw [htm, List.countP_append]
  by_cases e : c = d <;> simp [e]
 have hsub : ∀ d k, ((bfE E q).take k).countP (· == d) ≤ (bfE E q).countP (· == d) := fun d k => (List.take_sublist k _).countP_le
 have hw := hwt c hc1
 have hb1 := hcnt c
 rw [if_pos rfl] at hb1
 have hb2 := hsub c (m + 1)
 have hb3 := hle c
 rw [hsn] at hb3
 refine ⟨hc1, hc2, _, hw, by omega, by omega, fun hw1 => ?_, fun hw1 => ?_⟩
 ·refine ⟨by simp [h.len], fun d hd => ?_, h.nd, h.rep, fun d hd hd2 => ?_, h.topo⟩
  ·rw [hq, List.getElem?_set, hcnt d]
   by_cases e : c = d
   ·subst e
    rw [if_pos rfl, if_pos (by rw [h.len]; exact hc1), if_pos rfl]
    congr 1; omega
   ·rw [if_neg e, if_neg e, hwt d hd, Nat.add_zero]
  ·rw [List.getElem?_set]
   by_cases e : c = d
   ·subst e
    rw [if_pos rfl, if_pos (by rw [h.len]; exact hc1), h.zero c hd hd2, hw]
    constructor
    ·intro h0; injection h0 with h0; omega
    ·intro h0; injection h0 with h0; omega
   ·rw [if_neg e]; exact h.zero d hd hd2
 ·have hcq : c ∉ Q := fun hin => by
   have := (h.zero c hc1 hc2).1 hin
   rw [hw] at this
   injection this with this
   omega
  have htk2 : (Q ++ [c]).take i = Q.take i := List.take_append_of_le_length (by omega)
  have hgq : (Q ++ [c]).getD i 0 = q := by rw [List.getD_eq_getElem?_getD, List.getElem?_append_left hi, hqi]; rfl
  refine ⟨by simp [h.len], fun d hd => ?_, ?_, fun d hd => ?_, fun d hd hd2 => ?_, fun j d hj e he h1 => ?_⟩
  ·rw [htk2, hgq, List.getElem?_set, hcnt d]
   by_cases e : c = d
   ·subst e
    rw [if_pos rfl, if_pos (by rw [h.len]; exact hc1), if_pos rfl]
    congr 1; omega
   ·rw [if_neg e, if_neg e, hwt d hd, Nat.add_zero]
  ·rw [List.nodup_append]
   exact ⟨h.nd, by simp, fun a ha b hb => by simp at hb; subst hb; intro e; subst e; exact hcq ha⟩
  ·rcases List.mem_append.1 hd with h1 | h1
   ·exact h.rep d h1
   ·simp at h1; subst h1; exact ⟨hc1, hc2⟩
  ·rw [List.getElem?_set, List.mem_append, List.mem_singleton]
   by_cases e : c = d
   ·subst e
    rw [if_pos rfl, if_pos (by rw [h.len]; exact hc1)]
    exact ⟨fun _ => by congr 1; omega, fun _ => .inr rfl⟩
   ·rw [if_neg e, ← h.zero d hd hd2]
    exact ⟨fun h1 => h1.elim id fun h2 => absurd h2.symm e, .inl⟩
  ·rcases Nat.lt_or_ge j Q.length with hl | hl
   ·rw [List.getElem?_append_left hl] at hj
    obtain ⟨j', a1, a2⟩ := h.topo j d hj e he h1
    exact ⟨j', a1, by rw [List.getElem?_append_left (List.getElem?_eq_some_iff.1 a2).1]; exact a2⟩
   ·rw [List.getElem?_append_right hl] at hj
    have hj0 : j = Q.length := by
     have := (List.getElem?_eq_some_iff.1 hj).1
     simp at this; omega
    subst hj0
    simp at hj
    subst hj
    have hfull : dnE E (Q.take i ++ [q]) c = cn1 E c := by rw [hsn]; omega
    have hin := dnE_full hfull e he h1
    rw [← htk] at hin
    obtain ⟨j', hj', hj2⟩ := List.mem_take_iff_getElem.1 hin
    exact ⟨j', by omega, by rw [List.getElem?_append_left (by omega), List.getElem?_eq_getElem (by omega), hj2]⟩
theorem Kh.next (h : Kh E n f i m Q W) (hi : i < Q.length) (hm : (bfE E (Q.getD i 0)).length ≤ m) : Kh E n f (i + 1) 0 Q W := by
 have hqi : Q[i]? = some (Q.getD i 0) := by rw [List.getD_eq_getElem?_getD, List.getElem?_eq_getElem hi]; rfl
 refine ⟨h.len, fun c hc => ?_, h.nd, h.rep, h.zero, h.topo⟩
 have hqn : Q.getD i 0 ∉ Q.take i := fun hin => by
  obtain ⟨j, hj, hj2⟩ := List.mem_take_iff_getElem.1 hin
  have hji : j < i := by have := List.length_take_le i Q; omega
  have e1 : Q[j] = Q[i] := by rw [hj2, (List.getElem?_eq_some_iff.1 hqi).2]
  exact List.pairwise_iff_getElem.1 h.nd j i (by omega) hi hji e1
 have htk : Q.take (i + 1) = Q.take i ++ [Q.getD i 0] := by rw [List.take_succ_eq_append_getElem hi, (List.getElem?_eq_some_iff.1 hqi).2]
 rw [h.wt c hc, htk, dnE_snoc hqn, List.take_of_length_le hm]
 congr 1
 simp only [List.take_zero, List.countP_nil]
 omega
end
def OrdOk (E : List Ed) (n : Nat) (f : Nat → Nat) (Q : List Nat) : Prop := Q.Nodup ∧ (∀ c, c ∈ Q ↔ c < n ∧ f c = c) ∧ ∀ (j c : Nat), Q[j]? = some c → ∀ e ∈ E, e.1 = c → ∃ j', j' < j ∧ Q[j']? = some e.2
theorem Kh.done {E : List Ed} {n : Nat} {f : Nat → Nat} {Q : List Nat} {W : List Int} (h : Kh E n f Q.length 0 Q W) (rk : Nat → Nat) (hE : ∀ e ∈ E, e.2 < n ∧ f e.2 = e.2 ∧ rk e.2 < rk e.1) : OrdOk E n f Q := by
 refine ⟨h.nd, fun c => ⟨h.rep c, ?_⟩, h.topo⟩
 have key : ∀ k c, rk c ≤ k → c < n → f c = c → c ∈ Q := by
  intro k
  induction k with
  | zero =>
   intro c hk hc hf
   rw [h.zero c hc hf, h.wt c hc, List.take_length]
   have h0 : cn1 E c = 0 := by
    unfold cn1
    rw [List.countP_eq_zero]
    intro e he h1
    have := (hE e he).2.2
    have h2 : e.1 = c := by simpa using h1
    rw [h2] at this; omega
   have h1 := dnE_le E Q c
   rw [List.take_zero, List.countP_nil]
   congr 1; omega
  | succ k ih =>
   intro c hk hc hf
   rw [h.zero c hc hf, h.wt c hc, List.take_length]
   have hall : ∀ e ∈ E, e.1 = c → e.2 ∈ Q := fun e he h1 => by
    obtain ⟨a1, a2, a3⟩ := hE e he
    rw [h1] at a3
    exact ih e.2 (by omega) a1 a2
   have h1 : dnE E Q c = cn1 E c := by
    unfold dnE cn1
    refine List.countP_congr fun e he => ?_
    simp only [Bool.and_eq_true, decide_eq_true_eq, beq_iff_eq]
    exact ⟨fun h => h.1, fun h => ⟨h, hall e he h⟩⟩
   rw [h1, List.take_zero, List.countP_nil]
   congr 1; omega
 exact fun ⟨h1, h2⟩ => key _ c (Nat.le_refl _) h1 h2
def shA (n : Nat) (r : List Ar) : List Ar := r.map fun a => (a.1, a.2 + (n : Int))
def shR (n : Nat) (R : List (List Ar)) : List (List Ar) := R.map (shA n)
def bthR (A R : List (List Ar)) : List (List Ar) := A ++ shR A.length R
theorem shA_len (n : Nat) (r : List Ar) : (shA n r).length = r.length := by simp [shA]
theorem shR_len (n : Nat) (R : List (List Ar)) : (shR n R).length = R.length := by simp [shR]
theorem bthR_len (A R : List (List Ar)) : (bthR A R).length = A.length + R.length := by simp [bthR, shR_len]
theorem bthR_nil (R : List (List Ar)) : bthR [] R = R := by
 have : shA 0 = id := by funext r; simp [shA]
 simp [bthR, shR, this]
theorem bth_lt {A R : List (List Ar)} {s : Nat} (h : s < A.length) : (bthR A R).getD s [] = A.getD s [] := by
 rw [List.getD_eq_getElem?_getD, List.getD_eq_getElem?_getD, bthR, List.getElem?_append_left h]
theorem bth_ge (A R : List (List Ar)) (s : Nat) : (bthR A R).getD (A.length + s) [] = shA A.length (R.getD s []) := by
 rw [List.getD_eq_getElem?_getD, List.getD_eq_getElem?_getD, bthR, List.getElem?_append_right (by omega), Nat.add_sub_cancel_left, shR, List.getElem?_map]
 cases R[s]? <;> simp [shA]
theorem tau_sh (n : Nat) (r : List Ar) : tauOf true (shA n r) = shA n (tauOf true r) := by
 simp [tauOf, shA, List.takeWhile_map, Function.comp_def]
theorem adj_b1 {A R : List (List Ar)} {s : Nat} (h : s < A.length) : Adj true (bthR A R) s = Adj true A s := by unfold Adj; rw [bth_lt h]
theorem adj_b2 {A R : List (List Ar)} (hlo : looB R = true) (s : Nat) : Adj true (bthR A R) (A.length + s) = (Adj true R s).map (A.length + ·) := by
 unfold Adj
 rw [bth_ge, tau_sh]
 unfold shA
 rw [List.map_map, List.map_map]
 refine List.map_congr_left fun a ha => ?_
 have := (tau_lt hlo (k := s) a ha).1
 simp only [Function.comp_apply]
 omega
theorem rc_b1 {A R : List (List Ar)} (hA : ∀ x, x < A.length → ∀ y ∈ Adj true A x, y < A.length) {s u : Nat} (hs : s < A.length) : Rc (Adj true (bthR A R)) s u ↔ Rc (Adj true A) s u := by
 constructor
 ·intro h
  induction h with
  | refl => exact .refl _
  | tail h1 h2 ih =>
   refine ih.tail ?_
   rwa [adj_b1 (ih.lt hs hA)] at h2
 ·intro h
  induction h with
  | refl => exact .refl _
  | tail h1 h2 ih =>
   refine ih.tail ?_
   rwa [adj_b1 (h1.lt hs hA)]
theorem rc_b2 {A R : List (List Ar)} (hlo : looB R = true) {s u : Nat} : Rc (Adj true (bthR A R)) (A.length + s) u ↔ ∃ v, u = A.length + v ∧ Rc (Adj true R) s v := by
 constructor
 ·intro h
  generalize hx : A.length + s = x at h
  induction h with
  | refl => exact ⟨s, hx.symm, .refl _⟩
  | tail h1 h2 ih =>
   obtain ⟨v, e, h3⟩ := ih
   rw [e, adj_b2 hlo] at h2
   obtain ⟨w, hw, rfl⟩ := List.mem_map.1 h2
   exact ⟨w, rfl, h3.tail hw⟩
 ·rintro ⟨v, rfl, h⟩
  induction h with
  | refl => exact .refl _
  | tail h1 h2 ih =>
   refine ih.tail ?_
   rw [adj_b2 hlo]
   exact List.mem_map.2 ⟨_, h2, rfl⟩
theorem dv_b1 {A R : List (List Ar)} (hA : ∀ x, x < A.length → ∀ y ∈ Adj true A x, y < A.length) {s : Nat} (hs : s < A.length) : Dv (bthR A R) s ↔ Dv A s := by
 constructor
 ·rintro ⟨g, h1, w, h2, h3⟩
  rw [rc_b1 hA hs] at h1
  have hg := h1.lt hs hA
  rw [adj_b1 hg] at h2
  exact ⟨g, h1, w, h2, (rc_b1 hA (hA _ hg _ h2)).1 h3⟩
 ·rintro ⟨g, h1, w, h2, h3⟩
  have hg := h1.lt hs hA
  exact ⟨g, (rc_b1 hA hs).2 h1, w, by rwa [adj_b1 hg], (rc_b1 hA (hA _ hg _ h2)).2 h3⟩
theorem dv_b2 {A R : List (List Ar)} (hlo : looB R = true) {s : Nat} : Dv (bthR A R) (A.length + s) ↔ Dv R s := by
 constructor
 ·rintro ⟨g, h1, w, h2, h3⟩
  obtain ⟨g, rfl, p1⟩ := (rc_b2 hlo).1 h1
  rw [adj_b2 hlo] at h2
  obtain ⟨w, p2, rfl⟩ := List.mem_map.1 h2
  obtain ⟨g2, e, p3⟩ := (rc_b2 hlo).1 h3
  have : g2 = g := by omega
  subst this
  exact ⟨_, p1, w, p2, p3⟩
 ·rintro ⟨g, h1, w, h2, h3⟩
  refine ⟨A.length + g, (rc_b2 hlo).2 ⟨g, rfl, h1⟩, A.length + w, ?_, (rc_b2 hlo).2 ⟨g, rfl, h3⟩⟩
  rw [adj_b2 hlo]
  exact List.mem_map.2 ⟨w, h2, rfl⟩
def CpOk (R : List (List Ar)) (D : List Int) : Prop := D.length = R.length ∧ ∀ v, v < R.length → Least (Adj true R) v (fnL D (-1) v)
theorem fnL_at {D : List Int} {s : Nat} {x : Int} (h : D[s]? = some x) : fnL D (-1) s = x := by unfold fnL; rw [h]; rfl
theorem CpOk.both {A R : List (List Ar)} {C D : List Int} (hA : ∀ x, x < A.length → ∀ y ∈ Adj true A x, y < A.length) (hlo : looB R = true) (h1 : CpOk A C) (h2 : CpOk R D) : CpOk (bthR A R) (C ++ D.map (· + (A.length : Int))) := by
 refine ⟨by rw [bthR_len, List.length_append, List.length_map, h1.1, h2.1], fun v hv => ?_⟩
 rw [bthR_len] at hv
 rcases Nat.lt_or_ge v A.length with h | h
 ·have e : fnL (C ++ D.map (· + (A.length : Int))) (-1) v = fnL C (-1) v := by
   unfold fnL; rw [List.getElem?_append_left (by rw [h1.1]; exact h)]
  rw [e]
  obtain ⟨m, a1, a2, a3, a4⟩ := h1.2 v h
  have hm := a2.lt h hA
  refine ⟨m, a1, (rc_b1 hA h).2 a2, (rc_b1 hA hm).2 a3, fun u b1 b2 => ?_⟩
  have b1 := (rc_b1 hA h).1 b1
  exact a4 u b1 ((rc_b1 hA (b1.lt h hA)).1 b2)
 ·obtain ⟨s, rfl⟩ : ∃ s, v = A.length + s := ⟨v - A.length, by omega⟩
  have hs : s < R.length := by omega
  obtain ⟨m, a1, a2, a3, a4⟩ := h2.2 s hs
  have hsD : s < D.length := by rw [h2.1]; exact hs
  have e : fnL (C ++ D.map (· + (A.length : Int))) (-1) (A.length + s) = fnL D (-1) s + (A.length : Int) := by
   unfold fnL
   rw [List.getElem?_append_right (by rw [h1.1]; omega), h1.1, Nat.add_sub_cancel_left, List.getElem?_map, List.getElem?_eq_getElem hsD]; rfl
  rw [e, a1]
  refine ⟨A.length + m, by omega, (rc_b2 hlo).2 ⟨m, rfl, a2⟩, (rc_b2 hlo).2 ⟨s, rfl, a3⟩, fun u b1 b2 => ?_⟩
  obtain ⟨u, rfl, p1⟩ := (rc_b2 hlo).1 b1
  obtain ⟨s2, e2, p2⟩ := (rc_b2 hlo).1 b2
  have : s2 = s := by omega
  subst this
  have := a4 u p1 p2
  omega
theorem DvL.both {A R : List (List Ar)} {B C : List Bool} (hA : ∀ x, x < A.length → ∀ y ∈ Adj true A x, y < A.length) (hlo : looB R = true) (h1 : DvL A B) (h2 : DvL R C) : DvL (bthR A R) (B ++ C) := by
 refine ⟨by rw [bthR_len, List.length_append, h1.1, h2.1], fun v hv => ?_⟩
 rw [bthR_len] at hv
 rcases Nat.lt_or_ge v A.length with h | h
 ·rw [List.getD_eq_getElem?_getD, List.getElem?_append_left (by rw [h1.1]; exact h), ← List.getD_eq_getElem?_getD, h1.2 v h, dv_b1 hA h]
 ·obtain ⟨s, rfl⟩ : ∃ s, v = A.length + s := ⟨v - A.length, by omega⟩
  rw [List.getD_eq_getElem?_getD, List.getElem?_append_right (by rw [h1.1]; omega), h1.1, Nat.add_sub_cancel_left, ← List.getD_eq_getElem?_getD, h2.2 s (by omega), dv_b2 hlo]
theorem adj_mem {X : List (List Ar)} (hv : valB X = true) {n m : Nat} : m ∈ Adj true X n ↔ (0, (m : Int)) ∈ X.getD n [] := by
 rw [← adj_eq true hv]
 unfold AdjF tauF
 simp only [List.mem_map, List.mem_filter, Bool.not_true, Bool.false_or, beq_iff_eq]
 constructor
 ·rintro ⟨a, ⟨h1, h2⟩, rfl⟩
  have h3 : 0 ≤ a.2 := by
   rcases Nat.lt_or_ge n X.length with h | h
   ·rw [List.getD_eq_getElem?_getD, List.getElem?_eq_getElem h, Option.getD_some] at h1
    have := (of_decide_eq_true hv).1.2.2.2 _ (List.getElem_mem h) a h1
    omega
   ·rw [List.getD_eq_getElem?_getD, List.getElem?_eq_none h] at h1; simp at h1
  have e : ((0 : Int), ((a.2.toNat : Nat) : Int)) = a := by
   rcases a with ⟨x, y⟩
   simp only at h2 h3 ⊢
   rw [h2]; congr 1; omega
  rw [e]; exact h1
 ·intro h
  exact ⟨_, ⟨h, rfl⟩, by simp⟩
def cpF (D : List Int) (v : Nat) : Nat := (D.getD v 0).toNat
theorem cpF_ok {X : List (List Ar)} {D : List Int} (hv : valB X = true) (h : CpOk X D) {v : Nat} (hs : v < X.length) : D[v]? = some (cpF D v : Int) ∧ cpF D v < X.length ∧ Rc (Adj true X) v (cpF D v) ∧ Rc (Adj true X) (cpF D v) v ∧ cpF D (cpF D v) = cpF D v := by
 have hlo : looB X = true := decide_eq_true (of_decide_eq_true hv).1
 have hE := adj_lt true hlo
 obtain ⟨m, a1, a2, a3, a4⟩ := h.2 v hs
 have hg : D[v]? = some (m : Int) := by
  have : v < D.length := by rw [h.1]; exact hs
  unfold fnL at a1
  rw [List.getElem?_eq_getElem this] at a1 ⊢
  rw [← a1]; rfl
 have e : cpF D v = m := by unfold cpF; rw [List.getD_eq_getElem?_getD, hg]; rfl
 have hm := a2.lt hs hE
 obtain ⟨m2, b1, b2, b3, b4⟩ := h.2 m hm
 have e2 : cpF D m = m := by
  have hg2 : D[m]? = some (m2 : Int) := by
   have : m < D.length := by rw [h.1]; exact hm
   unfold fnL at b1
   rw [List.getElem?_eq_getElem this] at b1 ⊢
   rw [← b1]; rfl
  have c1 := a4 m2 (a2.trans b2) (b3.trans a3)
  have c2 := b4 m (.refl _) (.refl _)
  unfold cpF; rw [List.getD_eq_getElem?_getD, hg2]
  show ((m2 : Int)).toNat = m
  omega
 rw [e]
 exact ⟨hg, hm, a2, a3, e2⟩
theorem cpF_eq {X : List (List Ar)} {D : List Int} (hv : valB X = true) (h : CpOk X D) {v w : Nat} (hs : v < X.length) (h1 : Rc (Adj true X) v w) (h2 : Rc (Adj true X) w v) : cpF D v = cpF D w := by
 have hlo : looB X = true := decide_eq_true (of_decide_eq_true hv).1
 have hw := h1.lt hs (adj_lt true hlo)
 obtain ⟨m, a1, a2, a3, a4⟩ := h.2 v hs
 obtain ⟨k, b1, b2, b3, b4⟩ := h.2 w hw
 have c1 := a4 k (h1.trans b2) (b3.trans h2)
 have c2 := b4 m (h2.trans a2) (a3.trans h1)
 have d1 : fnL D (-1) v = fnL D (-1) w := by rw [a1, b1]; omega
 have e1 := (cpF_ok hv h hs).1
 have e2 := (cpF_ok hv h hw).1
 rw [fnL_at e1, fnL_at e2] at d1
 omega
noncomputable def rkF (X : List (List Ar)) (v : Nat) : Nat := (List.range X.length).countP fun u => @decide (Rc (Adj true X) v u) (Classical.propDecidable _)
theorem countP_lt {γ : Type} {p q : γ → Bool} : ∀ {l : List γ}, (∀ x ∈ l, p x = true → q x = true) → ∀ x ∈ l, q x = true → p x = false → l.countP p < l.countP q
 | a :: l, h, x, hx, h1, h2 => by
  have hm : l.countP p ≤ l.countP q := List.countP_mono_left fun y hy => h y (List.mem_cons_of_mem _ hy)
  have ha := h a List.mem_cons_self
  rw [List.countP_cons, List.countP_cons]
  rcases List.mem_cons.1 hx with rfl | hx
  ·rw [h1, h2]; simp; omega
  ·have ih := countP_lt (fun y hy => h y (List.mem_cons_of_mem _ hy)) x hx h1 h2
   cases hp : p a with
   | false => simp; split <;> omega
   | true => rw [ha hp]; simp; omega
theorem edL_down {X : List (List Ar)} {D : List Int} (hv : valB X = true) (h : CpOk X D) : ∀ e ∈ edL (cpF D) X X.length, (e.1 < X.length ∧ cpF D e.1 = e.1) ∧ e.2 < X.length ∧ cpF D e.2 = e.2 ∧ rkF X e.2 < rkF X e.1 := by
 intro e he
 have hlo : looB X = true := decide_eq_true (of_decide_eq_true hv).1
 have hE := adj_lt true hlo
 obtain ⟨s, hs, a, ha, h0, hne, rfl⟩ := mem_edL.1 he
 have hg : X.getD s [] = X[s] := by rw [List.getD_eq_getElem?_getD, List.getElem?_eq_getElem hs]; rfl
 rw [hg] at ha
 have hb := (of_decide_eq_true hlo).2.2.2 _ (List.getElem_mem hs) a ha
 have ht : a.2.toNat < X.length := by omega
 have hadj : a.2.toNat ∈ Adj true X s := by
  rw [adj_mem hv, hg]
  have : ((0 : Int), ((a.2.toNat : Nat) : Int)) = a := by
   rcases a with ⟨x, y⟩
   simp only at h0 hb ⊢
   rw [h0]; congr 1; omega
  rw [this]; exact ha
 obtain ⟨_, p2, p3, p4, p5⟩ := cpF_ok hv h hs
 obtain ⟨_, q2, q3, q4, q5⟩ := cpF_ok hv h ht
 refine ⟨⟨p2, p5⟩, q2, q5, ?_⟩
 have hst : Rc (Adj true X) (cpF D s) (cpF D a.2.toNat) := (p4.trans (.one hadj)).trans q3
 unfold rkF
 refine countP_lt (fun u _ hu => ?_) (cpF D s) (List.mem_range.2 p2) (@decide_eq_true _ (Classical.propDecidable _) (.refl _)) ?_
 ·simp only [decide_eq_true_eq] at hu ⊢
  exact hst.trans hu
 ·refine @decide_eq_false _ (Classical.propDecidable _) fun hc => hne ?_
  refine cpF_eq hv h hs (.one hadj) ?_
  exact (q3.trans hc).trans p4
theorem valB_both {A R : List (List Ar)} (hA : A = [] ∨ valB A = true) (hR : valB R = true) (h1 : A.length + R.length ≤ maxS) (h2 : totA A + totA R ≤ maxA) : valB (bthR A R) = true := by
 have h := of_decide_eq_true hR
 have hA2 : ∀ r ∈ A, (∀ a ∈ r, 0 ≤ a.1 ∧ a.1 ≤ 1025 ∧ 0 ≤ a.2 ∧ a.2 < (A.length : Int)) ∧ SortA r := by
  rcases hA with rfl | hA
  ·intro r hr; simp at hr
  ·have h3 := of_decide_eq_true hA
   exact fun r hr => ⟨h3.1.2.2.2 r hr, h3.2 r hr⟩
 refine decide_eq_true ⟨⟨by rw [bthR_len]; have := h.1.1; omega, by rw [bthR_len]; exact h1, ?_, fun r hr a ha => ?_⟩, fun r hr => ?_⟩
 ·have : totA (bthR A R) = totA A + totA R := by
   unfold totA bthR shR
   rw [List.map_append, List.sum_append, List.map_map]
   have : (List.length ∘ shA A.length) = List.length := by funext r; exact shA_len _ r
   rw [this]
  omega
 ·rw [bthR_len]
  rcases List.mem_append.1 hr with h3 | h3
  ·have := (hA2 r h3).1 a ha; omega
  ·obtain ⟨q, hq, rfl⟩ := List.mem_map.1 h3
   obtain ⟨b, hb, rfl⟩ := List.mem_map.1 ha
   have := h.1.2.2.2 q hq b hb
   simp only
   omega
 ·rcases List.mem_append.1 hr with h3 | h3
  ·exact (hA2 r h3).2
  ·obtain ⟨q, hq, rfl⟩ := List.mem_map.1 h3
   have h4 := h.2 q hq
   unfold SortA shA at *
   rw [List.pairwise_map]
   refine h4.imp fun {a b} hab => ?_
   rw [ltA_iff] at hab ⊢
   simp only
   omega
open Go.RowKit
theorem DlC.uniq {R : List (List Ar)} {c d : List Int} (h1 : DlC R c) (h2 : DlC R d) : c = d := by
 obtain ⟨B, b1, b2⟩ := h1
 obtain ⟨B', b3, b4⟩ := h2
 have e := b1.uniq b3
 subst e
 exact b2.uniq b4
theorem row_tot3 {X : List (List Ar)} : ∀ r ∈ X, r.length ≤ totA X := fun r hr => by
 obtain ⟨j, hj, rfl⟩ := List.getElem_of_mem hr
 have h := totA_row X j
 rw [List.getD_eq_getElem?_getD, List.getElem?_eq_getElem hj, Option.getD_some] at h
 exact h
theorem totA_mul3 {B : Nat} : ∀ {X : List (List Ar)}, (∀ r ∈ X, r.length ≤ B) → totA X ≤ X.length * B
 | [], _ => by simp [totA]
 | x :: r, h => by
  have h1 := h x (by simp)
  have h2 := totA_mul3 (X := r) fun q hq => h q (List.mem_cons_of_mem _ hq)
  simp only [totA, List.map_cons, List.sum_cons, List.length_cons, Nat.succ_mul] at h2 ⊢
  omega
theorem ok_val {k m : Nat} {R : List (List Ar)} (h : OkSys k m R) (hm : m = R.length) (h1 : 1 ≤ R.length) (hn : R.length ≤ 20) (hk : k ≤ 10) : valB R = true ∧ totA R ≤ 200 ∧ ∀ r ∈ R, r.length ≤ 10 := by
 subst hm
 have hr : ∀ r ∈ R, r.length ≤ 10 := fun r hr => Nat.le_trans (h.2 r hr).2.1 hk
 have ht := totA_mul3 hr
 exact ⟨decide_eq_true ⟨⟨h1, by show R.length ≤ 16384; omega, by show totA R ≤ 262144; omega, fun r hr => (h.2 r hr).2.2⟩, fun r hr => (h.2 r hr).1⟩, by omega, hr⟩
theorem totA_bth (A R : List (List Ar)) : totA (bthR A R) = totA A + totA R := by
 simp [totA, bthR, shR, shA, Function.comp_def]
theorem bth_row {A R : List (List Ar)} {B : Nat} (h1 : ∀ r ∈ A, r.length ≤ B) (h2 : ∀ r ∈ R, r.length ≤ B) : ∀ r ∈ bthR A R, r.length ≤ B := fun r hr => by
 unfold bthR shR at hr
 rcases List.mem_append.1 hr with h | h
 ·exact h1 r h
 ·obtain ⟨q, hq, rfl⟩ := List.mem_map.1 h
  rw [shA_len]
  exact h2 q hq
end Go.Proofs.YtahnebicgbjonaaGreat
