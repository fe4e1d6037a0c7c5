/- Lemmas. -/
import Derived.Test.YthnkailnoobdoaaDoorG45
namespace Go.Proofs.YthnkailnoobdoaaDoor
set_option linter.unusedVariables false
set_option linter.unusedSimpArgs false

abbrev Ed := Nat × Nat
def VQ (f : Nat -> Nat) (s : Nat) (a : Ar) : Option Ed := if a.1 = 0 /\ f s ≠ f a.2.toNat then some (f s, f a.2.toNat) else none
def VR (f : Nat -> Nat) (s : Nat) (row : List Ar) : List Ed := row.filterMap (VQ f s)
def VS (f : Nat -> Nat) (R : List (List Ar)) (k : Nat) : List Ed := (List.range k).flatMap fun s => VR f s (R.getD s [])
theorem Om (f : Nat -> Nat) (s : Nat) (row : List Ar) (a : Ar) : VR f s (row ++ [a]) = VR f s row ++ (VQ f s a).toList := by
 unfold VR
 rw [List.filterMap_append]
 cases h : VQ f s a <;> simp [h]
theorem JY (f : Nat -> Nat) (R : List (List Ar)) (k : Nat) : VS f R (k + 1) = VS f R k ++ VR f k (R.getD k []) := by simp [VS, List.range_succ]
theorem EH {f : Nat -> Nat} {R : List (List Ar)} {k : Nat} {e : Ed} : e ∈ VS f R k ↔ ∃ s, s < k /\ ∃ a ∈ R.getD s [], a.1 = 0 /\ f s ≠ f a.2.toNat /\ e = (f s, f a.2.toNat) := by
 unfold VS VR
 simp only [List.mem_flatMap, List.mem_range, List.mem_filterMap]
 constructor
 rotate_left
 ·rintro ⟨s, hs, a, ha, h1, h2, rfl⟩
  exact ⟨s, hs, a, ha, by unfold VQ; rw [if_pos ⟨h1, h2⟩]⟩
 rintro ⟨s, hs, a, ha, h⟩
 unfold VQ at h
 split at h
 rotate_left
 ·cases h
 rename_i hc
 injection h with h
 exact ⟨s, hs, a, ha, hc.1, hc.2, h.symm⟩
theorem Mk (f : Nat -> Nat) (R : List (List Ar)) : ∀ k, k <= R.length -> (VS f R k).length <= AA (R.take k) := by
 intro k
 induction k with
 | zero => intro _; simp [VS, AA]
 | succ k ih =>
  intro hk
  have h1 := ih (by omega)
  have h2 := Cb (R := R) (k := k) hk
  have h3 : R.getD k [] = R[k] := by rw [gE2, gE1 hk]; rfl
  have h4 := List.length_filterMap_le (VQ f k) R[k]
  rw [JY, List.length_append, h3]
  unfold VR
  omega
def VT (E : List Ed) (c : Nat) : Nat := E.countP fun e => e.1 == c
def VU (n : Nat) (E : List Ed) : List Int := (List.range n).map fun c => (VT E c : Int)
def VV (E : List Ed) (t : Nat) : List Nat := (E.filter fun e => e.2 == t).map (·.1)
def DZ (n : Nat) (E : List Ed) : List (List Int) := (List.range n).map fun t => (VV E t).map Int.ofNat
theorem FV (n : Nat) (E : List Ed) : (VU n E).length = n := by simp [VU]
theorem H9 {n : Nat} {E : List Ed} {c : Nat} (h : c < n) : (VU n E)[c]? = some (VT E c : Int) := by simp [VU, h]
theorem Fg (n : Nat) (E : List Ed) : (DZ n E).length = n := by simp [DZ]
theorem JZ {n : Nat} {E : List Ed} {t : Nat} (h : t < n) : (DZ n E)[t]? = some ((VV E t).map Int.ofNat) := by simp [DZ, h]
theorem On (E : List Ed) (c t d : Nat) : VT (E ++ [(c, t)]) d = VT E d + if c = d then 1 else 0 := by
 unfold VT
 rw [List.countP_append]
 by_cases h : c = d <;> simp [h]
theorem Oo {n : Nat} {E : List Ed} {c t : Nat} (h : c < n) : (VU n E).set c ((VT E c : Int) + 1) = VU n (E ++ [(c, t)]) := by
 refine List.ext_getElem (by simp [VU]) fun i h1 h2 => ?_
 rw [FV] at h2
 have e2 : (VU n (E ++ [(c, t)]))[i]'(by rw [FV]; exact h2) = (VT (E ++ [(c, t)]) i : Int) := by simp [VU]
 rw [e2, On, List.getElem_set]
 by_cases e : c = i
 ·subst e; simp
 rw [if_neg e, if_neg e]; simp [VU]
theorem Oq (E : List Ed) (c t d : Nat) : VV (E ++ [(c, t)]) d = VV E d ++ if t = d then [c] else [] := by
 unfold VV
 rw [List.filter_append, List.map_append]
 by_cases h : t = d <;> simp [h]
theorem Ml {n : Nat} {E : List Ed} {c t : Nat} (h : t < n) : (DZ n E).set t ((VV E t).map Int.ofNat ++ [(c : Int)]) = DZ n (E ++ [(c, t)]) := by
 refine List.ext_getElem (by simp [DZ]) fun i h1 h2 => ?_
 rw [Fg] at h2
 have e2 : (DZ n (E ++ [(c, t)]))[i]'(by rw [Fg]; exact h2) = (VV (E ++ [(c, t)]) i).map Int.ofNat := by simp [DZ]
 rw [e2, Oq, List.getElem_set]
 by_cases e : t = i
 ·subst e; simp
 rw [if_neg e, if_neg e]; simp [DZ]
theorem Mm (E : List Ed) (t : Nat) : (VV E t).length <= E.length := by
 unfold VV; rw [List.length_map]; exact List.length_filter_le _ _
theorem PG (E : List Ed) (c : Nat) : VT E c <= E.length := List.countP_le_length
def VW (E : List Ed) (P : List Nat) (c : Nat) : Nat := E.countP fun e => e.1 == c && decide (e.2 ∈ P)
theorem PH (E : List Ed) (P : List Nat) (c : Nat) : VW E P c <= VT E c := List.countP_mono_left fun e _ h => by simp only [Bool.and_eq_true] at h; exact h.1
theorem K0 {E : List Ed} {P : List Nat} {q : Nat} (h : q ∉ P) (c : Nat) : VW E (P ++ [q]) c = VW E P c + (VV E q).countP (· == c) := by
 unfold VW VV
 rw [List.countP_map, List.countP_filter]
 induction E with
 | nil => rfl
 | cons e r ih =>
  simp only [List.countP_cons, ih]
  by_cases h1 : e.1 = c
  rotate_left
  ·simp [h1]
  by_cases h2 : e.2 = q
  rotate_left
  ·by_cases h3 : e.2 ∈ P <;> simp [h1, h2, h3]; omega
  have h3 : e.2 ∉ P := by rw [h2]; exact h
  simp [h1, h2, h]; omega
theorem QB (E : List Ed) (c : Nat) : VW E [] c = 0 := by simp [VW]
theorem Em {γ : Type} {p q : γ -> Bool} : ∀ {l : List γ}, (∀ x ∈ l, p x = true -> q x = true) -> l.countP p = l.countP q -> ∀ x ∈ l, q x = true -> p x = true
 | [], _, _, x, hx, _ => by simp at hx
 | a :: r, h, e, x, hx, hq => by
  have hle := List.countP_mono_left (p := p) (q := q) (l := r) fun y hy => h y (gEf _ hy)
  rw [List.countP_cons, List.countP_cons] at e
  have ha := h a (by simp)
  rcases List.mem_cons.1 hx with rfl | hx
  ·cases hp : p x with
   | true => rfl
   | false => rw [hp, hq] at e; simp at e; omega
  ·refine Em (fun y hy => h y (gEf _ hy)) ?_ x hx hq
   cases hp : p a with
   | true => rw [hp, ha hp] at e; simp at e; exact e
   | false =>
    rw [hp] at e
    cases hqa : q a with
    | true => rw [hqa] at e; simp at e; omega
    | false => rw [hqa] at e; simpa using e
theorem Ot {E : List Ed} {P : List Nat} {c : Nat} (h : VW E P c = VT E c) : ∀ e ∈ E, e.1 = c -> e.2 ∈ P := by
 intro e he h1
 have := Em (p := fun e : Ed => e.1 == c && decide (e.2 ∈ P)) (q := fun e : Ed => e.1 == c) (l := E) (fun x _ hx => by simp only [Bool.and_eq_true] at hx; exact hx.1) h e he (by simpa using h1)
 simp only [Bool.and_eq_true, decide_eq_true_eq] at this
 exact this.2
structure Kh (E : List Ed) (n : Nat) (f : Nat -> Nat) (i m : Nat) (Q : List Nat) (W : List Int) : Prop where
 len : W.length = n
 wt : ∀ c, c < n -> W[c]? = some (((VT E c : Nat) : Int) - (VW E (Q.take i) c : Nat) - (((VV E (Q.getD i 0)).take m).countP (· == c) : Nat))
 nd : Q.Nodup
 rep : ∀ c ∈ Q, c < n /\ f c = c
 zero : ∀ c, c < n -> f c = c -> (c ∈ Q ↔ W[c]? = some 0)
 topo : ∀ (j c : Nat), Q[j]? = some c -> ∀ e ∈ E, e.1 = c -> ∃ j', j' < j /\ Q[j']? = some e.2
section
variable {E : List Ed} {n : Nat} {f : Nat -> Nat} {i m : Nat} {Q : List Nat} {W : List Int}
theorem Kh.qlen (h : Kh E n f i m Q W) : Q.length <= n := by
 have := h.nd.length_le_of_subset (l₂ := List.range n) fun q hq => List.mem_range.2 (h.rep q hq).1
 simpa using this
theorem Kh.step (h : Kh E n f i m Q W) (hi : i < Q.length) (hE : ∀ e ∈ E, e.1 < n /\ f e.1 = e.1) {c : Nat} (hc : (VV E (Q.getD i 0))[m]? = some c) :
  c < n /\ f c = c /\ ∃ w : Int, W[c]? = some w /\ 1 <= w /\ w <= VT E c /\ (w ≠ 1 -> Kh E n f i (m + 1) Q (W.set c (w - 1))) /\ (w = 1 -> Kh E n f i (m + 1) (Q ++ [c]) (W.set c (w - 1))) := by
 have hqi : Q[i]? = some (Q.getD i 0) := by rw [gE2, gE1 hi]; rfl
 have hwt := h.wt
 generalize hq : Q.getD i 0 = q at *
 have hmem : c ∈ VV E q := gE9 hc
 have hce : ∃ e ∈ E, e.2 = q /\ e.1 = c := by
  obtain ⟨e, he, h1⟩ := List.mem_map.1 hmem
  have := List.mem_filter.1 he
  exact ⟨e, this.1, by simpa using this.2, h1⟩
 obtain ⟨e0, he0, he1, he2⟩ := hce
 have hcn := hE e0 he0
 rw [he2] at hcn
 obtain ⟨hc1, hc2⟩ := hcn
 have hml := (List.getElem?_eq_some_iff.1 hc).1
 have hcv := (List.getElem?_eq_some_iff.1 hc).2
 have hqn : q ∉ Q.take i := fun hin => by
  obtain ⟨j, hj, hj2⟩ := List.mem_take_iff_getElem.1 hin
  have hji : j < i := by have := List.length_take_le i Q; omega
  have e1 : Q[j] = Q[i] := by rw [hj2, (List.getElem?_eq_some_iff.1 hqi).2]
  exact List.pairwise_iff_getElem.1 h.nd j i (by omega) hi hji e1
 have htk : Q.take (i + 1) = Q.take i ++ [q] := by rw [gE8 hi, (List.getElem?_eq_some_iff.1 hqi).2]
 have hsn := K0 (E := E) hqn
 have hle := fun d => PH E (Q.take (i + 1)) d
 rw [htk] at hle
 have htm : (VV E q).take (m + 1) = (VV E q).take m ++ [c] := by rw [gE8 hml, hcv]
 have hcnt : ∀ d, ((VV E q).take (m + 1)).countP (· == d) = ((VV E q).take m).countP (· == d) + if c = d then 1 else 0 := fun d => by
  rw [htm, List.countP_append]
  by_cases e : c = d <;> simp [e]
 have hsub : ∀ d k, ((VV E q).take k).countP (· == d) <= (VV E q).countP (· == d) := fun d k => (List.take_sublist k _).countP_le
 have hw := hwt c hc1
 have hb1 := hcnt c
 rw [if_pos rfl] at hb1
 have hb2 := hsub c (m + 1)
 have hb3 := hle c
 rw [hsn] at hb3
 refine ⟨hc1, hc2, _, hw, by omega, by omega, fun hw1 => ?_, fun hw1 => ?_⟩
 ·refine ⟨by simp [h.len], fun d hd => ?_, h.nd, h.rep, fun d hd hd2 => ?_, h.topo⟩
  ·rw [hq, List.getElem?_set, hcnt d]
   by_cases e : c = d
   rotate_left
   ·rw [if_neg e, if_neg e, hwt d hd, Nat.add_zero]
   subst e
   rw [if_pos rfl, if_pos (by rw [h.len]; exact hc1), if_pos rfl]
   congr 1; omega
  rw [List.getElem?_set]
  by_cases e : c = d
  rotate_left
  ·rw [if_neg e]; exact h.zero d hd hd2
  subst e
  rw [if_pos rfl, if_pos (by rw [h.len]; exact hc1), h.zero c hd hd2, hw]
  constructor
  ·intro h0; injection h0 with h0; omega
  intro h0; injection h0 with h0; omega
 have hcq : c ∉ Q := fun hin => by
  have := (h.zero c hc1 hc2).1 hin
  rw [hw] at this
  injection this with this
  omega
 have htk2 : (Q ++ [c]).take i = Q.take i := List.take_append_of_le_length (by omega)
 have hgq : (Q ++ [c]).getD i 0 = q := by rw [gE2, gEa hi, hqi]; rfl
 refine ⟨by simp [h.len], fun d hd => ?_, ?_, fun d hd => ?_, fun d hd hd2 => ?_, fun j d hj e he h1 => ?_⟩
 ·rw [htk2, hgq, List.getElem?_set, hcnt d]
  by_cases e : c = d
  rotate_left
  ·rw [if_neg e, if_neg e, hwt d hd, Nat.add_zero]
  subst e
  rw [if_pos rfl, if_pos (by rw [h.len]; exact hc1), if_pos rfl]
  congr 1; omega
 ·rw [List.nodup_append]
  exact ⟨h.nd, by simp, fun a ha b hb => by simp at hb; subst hb; intro e; subst e; exact hcq ha⟩
 ·rcases List.mem_append.1 hd with h1 | h1
  ·exact h.rep d h1
  simp at h1; subst h1; exact ⟨hc1, hc2⟩
 ·rw [List.getElem?_set, List.mem_append, List.mem_singleton]
  by_cases e : c = d
  rotate_left
  ·rw [if_neg e, <- h.zero d hd hd2]
   exact ⟨fun h1 => h1.elim id fun h2 => absurd h2.symm e, .inl⟩
  subst e
  rw [if_pos rfl, if_pos (by rw [h.len]; exact hc1)]
  exact ⟨fun _ => by congr 1; omega, fun _ => .inr rfl⟩
 rcases Nat.lt_or_ge j Q.length with hl | hl
 ·rw [gEa hl] at hj
  obtain ⟨j', a1, a2⟩ := h.topo j d hj e he h1
  exact ⟨j', a1, by rw [gEa (List.getElem?_eq_some_iff.1 a2).1]; exact a2⟩
 rw [gEb hl] at hj
 have hj0 : j = Q.length := by
  have := (List.getElem?_eq_some_iff.1 hj).1
  simp at this; omega
 subst hj0
 simp at hj
 subst hj
 have hfull : VW E (Q.take i ++ [q]) c = VT E c := by rw [hsn]; omega
 have hin := Ot hfull e he h1
 rw [<- htk] at hin
 obtain ⟨j', hj', hj2⟩ := List.mem_take_iff_getElem.1 hin
 exact ⟨j', by omega, by rw [gEa (by omega), gE1 (by omega), hj2]⟩
theorem Kh.next (h : Kh E n f i m Q W) (hi : i < Q.length) (hm : (VV E (Q.getD i 0)).length <= m) : Kh E n f (i + 1) 0 Q W := by
 have hqi : Q[i]? = some (Q.getD i 0) := by rw [gE2, gE1 hi]; rfl
 refine ⟨h.len, fun c hc => ?_, h.nd, h.rep, h.zero, h.topo⟩
 have hqn : Q.getD i 0 ∉ Q.take i := fun hin => by
  obtain ⟨j, hj, hj2⟩ := List.mem_take_iff_getElem.1 hin
  have hji : j < i := by have := List.length_take_le i Q; omega
  have e1 : Q[j] = Q[i] := by rw [hj2, (List.getElem?_eq_some_iff.1 hqi).2]
  exact List.pairwise_iff_getElem.1 h.nd j i (by omega) hi hji e1
 have htk : Q.take (i + 1) = Q.take i ++ [Q.getD i 0] := by rw [gE8 hi, (List.getElem?_eq_some_iff.1 hqi).2]
 rw [h.wt c hc, htk, K0 hqn, gE7 hm]
 congr 1
 simp only [List.take_zero, List.countP_nil]
 omega
end
def Ha (E : List Ed) (n : Nat) (f : Nat -> Nat) (Q : List Nat) : Prop := Q.Nodup /\ (∀ c, c ∈ Q ↔ c < n /\ f c = c) /\ ∀ (j c : Nat), Q[j]? = some c -> ∀ e ∈ E, e.1 = c -> ∃ j', j' < j /\ Q[j']? = some e.2
theorem Kh.done {E : List Ed} {n : Nat} {f : Nat -> Nat} {Q : List Nat} {W : List Int} (h : Kh E n f Q.length 0 Q W) (rk : Nat -> Nat) (hE : ∀ e ∈ E, e.2 < n /\ f e.2 = e.2 /\ rk e.2 < rk e.1) : Ha E n f Q := by
 refine ⟨h.nd, fun c => ⟨h.rep c, ?_⟩, h.topo⟩
 have key : ∀ k c, rk c <= k -> c < n -> f c = c -> c ∈ Q := by
  intro k
  induction k with
  | zero =>
   intro c hk hc hf
   rw [h.zero c hc hf, h.wt c hc, List.take_length]
   have h0 : VT E c = 0 := by
    unfold VT
    rw [List.countP_eq_zero]
    intro e he h1
    have := (hE e he).2.2
    have h2 : e.1 = c := by simpa using h1
    rw [h2] at this; omega
   have h1 := PH E Q c
   rw [List.take_zero, List.countP_nil]
   congr 1; omega
  | succ k ih =>
   intro c hk hc hf
   rw [h.zero c hc hf, h.wt c hc, List.take_length]
   have hall : ∀ e ∈ E, e.1 = c -> e.2 ∈ Q := fun e he h1 => by
    obtain ⟨a1, a2, a3⟩ := hE e he
    rw [h1] at a3
    exact ih e.2 (by omega) a1 a2
   have h1 : VW E Q c = VT E c := by
    unfold VW VT
    refine List.countP_congr fun e he => ?_
    simp only [Bool.and_eq_true, decide_eq_true_eq, beq_iff_eq]
    exact ⟨fun h => h.1, fun h => ⟨h, hall e he h⟩⟩
   rw [h1, List.take_zero, List.countP_nil]
   congr 1; omega
 exact fun ⟨h1, h2⟩ => key _ c (Nat.le_refl _) h1 h2
def VX (n : Nat) (r : List Ar) : List Ar := r.map fun a => (a.1, a.2 + (n : Int))
def VY (n : Nat) (R : List (List Ar)) : List (List Ar) := R.map (VX n)
def BI (A R : List (List Ar)) : List (List Ar) := A ++ VY A.length R
theorem Cc (n : Nat) (r : List Ar) : (VX n r).length = r.length := by simp [VX]
theorem Hb (n : Nat) (R : List (List Ar)) : (VY n R).length = R.length := by simp [VY]
theorem Az (A R : List (List Ar)) : (BI A R).length = A.length + R.length := by simp [BI, Hb]
theorem K2 (R : List (List Ar)) : BI [] R = R := by
 have : VX 0 = id := by funext r; simp [VX]
 simp [BI, VY, this]
theorem Mn {A R : List (List Ar)} {s : Nat} (h : s < A.length) : (BI A R).getD s [] = A.getD s [] := by
 rw [gE2, gE2, BI, gEa h]
theorem I9 (A R : List (List Ar)) (s : Nat) : (BI A R).getD (A.length + s) [] = VX A.length (R.getD s []) := by
 rw [gE2, gE2, BI, gEb (by omega), Nat.add_sub_cancel_left, VY, List.getElem?_map]
 cases R[s]? <;> simp [VX]
theorem Sg (n : Nat) (r : List Ar) : C5 true (VX n r) = VX n (C5 true r) := by
 simp [C5, VX, List.takeWhile_map, Function.comp_def]
theorem K3 {A R : List (List Ar)} {s : Nat} (h : s < A.length) : Vo true (BI A R) s = Vo true A s := by unfold Vo; rw [Mn h]
theorem K4 {A R : List (List Ar)} (hlo : Bd R = true) (s : Nat) : Vo true (BI A R) (A.length + s) = (Vo true R s).map (A.length + ·) := by
 unfold Vo
 rw [I9, Sg]
 unfold VX
 rw [List.map_map, List.map_map]
 refine List.map_congr_left fun a ha => ?_
 have := (I8 hlo (k := s) a ha).1
 simp only [Function.comp_apply]
 omega
theorem EI {A R : List (List Ar)} (hA : ∀ x, x < A.length -> ∀ y ∈ Vo true A x, y < A.length) {s u : Nat} (hs : s < A.length) : Rc (Vo true (BI A R)) s u ↔ Rc (Vo true A) s u := by
 constructor
 rotate_left
 ·intro h
  induction h with
  | refl => exact .refl _
  | tail h1 h2 ih =>
   refine ih.tail ?_
   rwa [K3 (h1.lt hs hA)]
 intro h
 induction h with
 | refl => exact .refl _
 | tail h1 h2 ih =>
  refine ih.tail ?_
  rwa [K3 (ih.lt hs hA)] at h2
theorem Da {A R : List (List Ar)} (hlo : Bd R = true) {s u : Nat} : Rc (Vo true (BI A R)) (A.length + s) u ↔ ∃ v, u = A.length + v /\ Rc (Vo true R) s v := by
 constructor
 rotate_left
 ·rintro ⟨v, rfl, h⟩
  induction h with
  | refl => exact .refl _
  | tail h1 h2 ih =>
   refine ih.tail ?_
   rw [K4 hlo]
   exact List.mem_map.2 ⟨_, h2, rfl⟩
 intro h
 generalize hx : A.length + s = x at h
 induction h with
 | refl => exact ⟨s, hx.symm, .refl _⟩
 | tail h1 h2 ih =>
  obtain ⟨v, e, h3⟩ := ih
  rw [e, K4 hlo] at h2
  obtain ⟨w, hw, rfl⟩ := List.mem_map.1 h2
  exact ⟨w, rfl, h3.tail hw⟩
theorem QC {A R : List (List Ar)} (hA : ∀ x, x < A.length -> ∀ y ∈ Vo true A x, y < A.length) {s : Nat} (hs : s < A.length) : Dv (BI A R) s ↔ Dv A s := by
 constructor
 rotate_left
 ·rintro ⟨g, h1, w, h2, h3⟩
  have hg := h1.lt hs hA
  exact ⟨g, (EI hA hs).2 h1, w, by rwa [K3 hg], (EI hA (hA _ hg _ h2)).2 h3⟩
 rintro ⟨g, h1, w, h2, h3⟩
 rw [EI hA hs] at h1
 have hg := h1.lt hs hA
 rw [K3 hg] at h2
 exact ⟨g, h1, w, h2, (EI hA (hA _ hg _ h2)).1 h3⟩
theorem QD {A R : List (List Ar)} (hlo : Bd R = true) {s : Nat} : Dv (BI A R) (A.length + s) ↔ Dv R s := by
 constructor
 rotate_left
 ·rintro ⟨g, h1, w, h2, h3⟩
  refine ⟨A.length + g, (Da hlo).2 ⟨g, rfl, h1⟩, A.length + w, ?_, (Da hlo).2 ⟨g, rfl, h3⟩⟩
  rw [K4 hlo]
  exact List.mem_map.2 ⟨w, h2, rfl⟩
 rintro ⟨g, h1, w, h2, h3⟩
 obtain ⟨g, rfl, p1⟩ := (Da hlo).1 h1
 rw [K4 hlo] at h2
 obtain ⟨w, p2, rfl⟩ := List.mem_map.1 h2
 obtain ⟨g2, e, p3⟩ := (Da hlo).1 h3
 have : g2 = g := by omega
 subst this
 exact ⟨_, p1, w, p2, p3⟩
def CpOk (R : List (List Ar)) (D : List Int) : Prop := D.length = R.length /\ ∀ v, v < R.length -> Least (Vo true R) v (Vn D (-1) v)
theorem Mp {D : List Int} {s : Nat} {x : Int} (h : D[s]? = some x) : Vn D (-1) s = x := by unfold Vn; rw [h]; rfl
theorem CpOk.both {A R : List (List Ar)} {C D : List Int} (hA : ∀ x, x < A.length -> ∀ y ∈ Vo true A x, y < A.length) (hlo : Bd R = true) (h1 : CpOk A C) (h2 : CpOk R D) : CpOk (BI A R) (C ++ D.map (· + (A.length : Int))) := by
 refine ⟨by rw [Az, List.length_append, List.length_map, h1.1, h2.1], fun v hv => ?_⟩
 rw [Az] at hv
 rcases Nat.lt_or_ge v A.length with h | h
 ·have e : Vn (C ++ D.map (· + (A.length : Int))) (-1) v = Vn C (-1) v := by
   unfold Vn; rw [gEa (by rw [h1.1]; exact h)]
  rw [e]
  obtain ⟨m, a1, a2, a3, a4⟩ := h1.2 v h
  have hm := a2.lt h hA
  refine ⟨m, a1, (EI hA h).2 a2, (EI hA hm).2 a3, fun u b1 b2 => ?_⟩
  have b1 := (EI hA h).1 b1
  exact a4 u b1 ((EI hA (b1.lt h hA)).1 b2)
 obtain ⟨s, rfl⟩ : ∃ s, v = A.length + s := ⟨v - A.length, by omega⟩
 have hs : s < R.length := by omega
 obtain ⟨m, a1, a2, a3, a4⟩ := h2.2 s hs
 have hsD : s < D.length := by rw [h2.1]; exact hs
 have e : Vn (C ++ D.map (· + (A.length : Int))) (-1) (A.length + s) = Vn D (-1) s + (A.length : Int) := by
  unfold Vn
  rw [gEb (by rw [h1.1]; omega), h1.1, Nat.add_sub_cancel_left, List.getElem?_map, gE1 hsD]; rfl
 rw [e, a1]
 refine ⟨A.length + m, by omega, (Da hlo).2 ⟨m, rfl, a2⟩, (Da hlo).2 ⟨s, rfl, a3⟩, fun u b1 b2 => ?_⟩
 obtain ⟨u, rfl, p1⟩ := (Da hlo).1 b1
 obtain ⟨s2, e2, p2⟩ := (Da hlo).1 b2
 have : s2 = s := by omega
 subst this
 have := a4 u p1 p2
 omega
theorem DvL.both {A R : List (List Ar)} {B C : List Bool} (hA : ∀ x, x < A.length -> ∀ y ∈ Vo true A x, y < A.length) (hlo : Bd R = true) (h1 : DvL A B) (h2 : DvL R C) : DvL (BI A R) (B ++ C) := by
 refine ⟨by rw [Az, List.length_append, h1.1, h2.1], fun v hv => ?_⟩
 rw [Az] at hv
 rcases Nat.lt_or_ge v A.length with h | h
 ·rw [gE2, gEa (by rw [h1.1]; exact h), <- gE2, h1.2 v h, QC hA h]
 obtain ⟨s, rfl⟩ : ∃ s, v = A.length + s := ⟨v - A.length, by omega⟩
 rw [gE2, gEb (by rw [h1.1]; omega), h1.1, Nat.add_sub_cancel_left, <- gE2, h2.2 s (by omega), QD hlo]
theorem Cq {X : List (List Ar)} (hv : AR X = true) {n m : Nat} : m ∈ Vo true X n ↔ (0, (m : Int)) ∈ X.getD n [] := by
 rw [<- Se true hv]
 unfold Tj Sd
 simp only [List.mem_map, List.mem_filter, Bool.not_true, Bool.false_or, beq_iff_eq]
 constructor
 rotate_left
 ·intro h
  exact ⟨_, ⟨h, rfl⟩, by simp⟩
 rintro ⟨a, ⟨h1, h2⟩, rfl⟩
 have h3 : 0 <= a.2 := by
  rcases Nat.lt_or_ge n X.length with h | h
  rotate_left
  ·rw [gE2, List.getElem?_eq_none h] at h1; simp at h1
  rw [gE2, gE1 h, Option.getD_some] at h1
  have := (gE4 hv).1.2.2.2 _ (gE6 h) a h1
  omega
 have e : ((0 : Int), ((a.2.toNat : Nat) : Int)) = a := by
  rcases a with ⟨x, y⟩
  simp only at h2 h3 ⊢
  rw [h2]; congr 1; omega
 rw [e]; exact h1
def VZ (D : List Int) (v : Nat) : Nat := (D.getD v 0).toNat
theorem Bx {X : List (List Ar)} {D : List Int} (hv : AR X = true) (h : CpOk X D) {v : Nat} (hs : v < X.length) : D[v]? = some (VZ D v : Int) /\ VZ D v < X.length /\ Rc (Vo true X) v (VZ D v) /\ Rc (Vo true X) (VZ D v) v /\ VZ D (VZ D v) = VZ D v := by
 have hlo : Bd X = true := gEg (gE4 hv).1
 have hE := Bv true hlo
 obtain ⟨m, a1, a2, a3, a4⟩ := h.2 v hs
 have hg : D[v]? = some (m : Int) := by
  have : v < D.length := by rw [h.1]; exact hs
  unfold Vn at a1
  rw [gE1 this] at a1 ⊢
  rw [<- a1]; rfl
 have e : VZ D v = m := by unfold VZ; rw [gE2, hg]; rfl
 have hm := a2.lt hs hE
 obtain ⟨m2, b1, b2, b3, b4⟩ := h.2 m hm
 have e2 : VZ D m = m := by
  have hg2 : D[m]? = some (m2 : Int) := by
   have : m < D.length := by rw [h.1]; exact hm
   unfold Vn at b1
   rw [gE1 this] at b1 ⊢
   rw [<- b1]; rfl
  have c1 := a4 m2 (a2.trans b2) (b3.trans a3)
  have c2 := b4 m (.refl _) (.refl _)
  unfold VZ; rw [gE2, hg2]
  show ((m2 : Int)).toNat = m
  omega
 rw [e]
 exact ⟨hg, hm, a2, a3, e2⟩
theorem Sh {X : List (List Ar)} {D : List Int} (hv : AR X = true) (h : CpOk X D) {v w : Nat} (hs : v < X.length) (h1 : Rc (Vo true X) v w) (h2 : Rc (Vo true X) w v) : VZ D v = VZ D w := by
 have hlo : Bd X = true := gEg (gE4 hv).1
 have hw := h1.lt hs (Bv true hlo)
 obtain ⟨m, a1, a2, a3, a4⟩ := h.2 v hs
 obtain ⟨k, b1, b2, b3, b4⟩ := h.2 w hw
 have c1 := a4 k (h1.trans b2) (b3.trans h2)
 have c2 := b4 m (h2.trans a2) (a3.trans h1)
 have d1 : Vn D (-1) v = Vn D (-1) w := by rw [a1, b1]; omega
 have e1 := (Bx hv h hs).1
 have e2 := (Bx hv h hw).1
 rw [Mp e1, Mp e2] at d1
 omega
noncomputable def W0 (X : List (List Ar)) (v : Nat) : Nat := (List.range X.length).countP fun u => @decide (Rc (Vo true X) v u) (Classical.propDecidable _)
theorem FW {γ : Type} {p q : γ -> Bool} : ∀ {l : List γ}, (∀ x ∈ l, p x = true -> q x = true) -> ∀ x ∈ l, q x = true -> p x = false -> l.countP p < l.countP q
 | a :: l, h, x, hx, h1, h2 => by
  have hm : l.countP p <= l.countP q := List.countP_mono_left fun y hy => h y (gEf _ hy)
  have ha := h a List.mem_cons_self
  rw [List.countP_cons, List.countP_cons]
  rcases List.mem_cons.1 hx with rfl | hx
  ·rw [h1, h2]; simp; omega
  ·have ih := FW (fun y hy => h y (gEf _ hy)) x hx h1 h2
   cases hp : p a with
   | false => simp; split <;> omega
   | true => rw [ha hp]; simp; omega
theorem Ou {X : List (List Ar)} {D : List Int} (hv : AR X = true) (h : CpOk X D) : ∀ e ∈ VS (VZ D) X X.length, (e.1 < X.length /\ VZ D e.1 = e.1) /\ e.2 < X.length /\ VZ D e.2 = e.2 /\ W0 X e.2 < W0 X e.1 := by
 intro e he
 have hlo : Bd X = true := gEg (gE4 hv).1
 have hE := Bv true hlo
 obtain ⟨s, hs, a, ha, h0, hne, rfl⟩ := EH.1 he
 have hg : X.getD s [] = X[s] := by rw [gE2, gE1 hs]; rfl
 rw [hg] at ha
 have hb := (gE4 hlo).2.2.2 _ (gE6 hs) a ha
 have ht : a.2.toNat < X.length := by omega
 have hadj : a.2.toNat ∈ Vo true X s := by
  rw [Cq hv, hg]
  have : ((0 : Int), ((a.2.toNat : Nat) : Int)) = a := by
   rcases a with ⟨x, y⟩
   simp only at h0 hb ⊢
   rw [h0]; congr 1; omega
  rw [this]; exact ha
 obtain ⟨_, p2, p3, p4, p5⟩ := Bx hv h hs
 obtain ⟨_, q2, q3, q4, q5⟩ := Bx hv h ht
 refine ⟨⟨p2, p5⟩, q2, q5, ?_⟩
 have hst : Rc (Vo true X) (VZ D s) (VZ D a.2.toNat) := (p4.trans (.one hadj)).trans q3
 unfold W0
 refine FW (fun u _ hu => ?_) (VZ D s) (List.mem_range.2 p2) (@decide_eq_true _ (Classical.propDecidable _) (.refl _)) ?_
 ·simp only [decide_eq_true_eq] at hu ⊢
  exact hst.trans hu
 refine @decide_eq_false _ (Classical.propDecidable _) fun hc => hne ?_
 refine Sh hv h hs (.one hadj) ?_
 exact (q3.trans hc).trans p4
theorem En {A R : List (List Ar)} (hA : A = [] \/ AR A = true) (hR : AR R = true) (h1 : A.length + R.length <= RI) (h2 : AA A + AA R <= RJ) : AR (BI A R) = true := by
 have h := gE4 hR
 have hA2 : ∀ r ∈ A, (∀ a ∈ r, 0 <= a.1 /\ a.1 <= 1025 /\ 0 <= a.2 /\ a.2 < (A.length : Int)) /\ SortA r := by
  rcases hA with rfl | hA
  ·intro r hr; simp at hr
  have h3 := gE4 hA
  exact fun r hr => ⟨h3.1.2.2.2 r hr, h3.2 r hr⟩
 refine gEg ⟨⟨by rw [Az]; have := h.1.1; omega, by rw [Az]; exact h1, ?_, fun r hr a ha => ?_⟩, fun r hr => ?_⟩
 ·have : AA (BI A R) = AA A + AA R := by
   unfold AA BI VY
   rw [List.map_append, List.sum_append, List.map_map]
   have : (List.length ∘ VX A.length) = List.length := by funext r; exact Cc _ r
   rw [this]
  omega
 ·rw [Az]
  rcases List.mem_append.1 hr with h3 | h3
  ·have := (hA2 r h3).1 a ha; omega
  obtain ⟨q, hq, rfl⟩ := List.mem_map.1 h3
  obtain ⟨b, hb, rfl⟩ := List.mem_map.1 ha
  have := h.1.2.2.2 q hq b hb
  simp only
  omega
 rcases List.mem_append.1 hr with h3 | h3
 ·exact (hA2 r h3).2
 obtain ⟨q, hq, rfl⟩ := List.mem_map.1 h3
 have h4 := h.2 q hq
 unfold SortA VX at *
 rw [List.pairwise_map]
 refine h4.imp fun {a b} hab => ?_
 rw [CD] at hab ⊢
 simp only
 omega
open Go.RowKit
theorem DlC.uniq {R : List (List Ar)} {c d : List Int} (h1 : DlC R c) (h2 : DlC R d) : c = d := by
 obtain ⟨B, b1, b2⟩ := h1
 obtain ⟨B', b3, b4⟩ := h2
 have e := b1.uniq b3
 subst e
 exact b2.uniq b4
theorem Ov {X : List (List Ar)} : ∀ r ∈ X, r.length <= AA X := fun r hr => by
 obtain ⟨j, hj, rfl⟩ := List.getElem_of_mem hr
 have h := DB X j
 rw [gE2, gE1 hj, Option.getD_some] at h
 exact h
theorem Ia {B : Nat} : ∀ {X : List (List Ar)}, (∀ r ∈ X, r.length <= B) -> AA X <= X.length * B
 | [], _ => by simp [AA]
 | x :: r, h => by
  have h1 := h x (by simp)
  have h2 := Ia (X := r) fun q hq => h q (gEf _ hq)
  simp only [AA, List.map_cons, List.sum_cons, List.length_cons, Nat.succ_mul] at h2 ⊢
  omega
theorem Si {k m : Nat} {R : List (List Ar)} (h : OkSys k m R) (hm : m = R.length) (h1 : 1 <= R.length) (hn : R.length <= 20) (hk : k <= 10) : AR R = true /\ AA R <= 200 /\ ∀ r ∈ R, r.length <= 10 := by
 subst hm
 have hr : ∀ r ∈ R, r.length <= 10 := fun r hr => Nat.le_trans (h.2 r hr).2.1 hk
 have ht := Ia hr
 exact ⟨gEg ⟨⟨h1, by show R.length <= 16384; omega, by show AA R <= 262144; omega, fun r hr => (h.2 r hr).2.2⟩, fun r hr => (h.2 r hr).1⟩, by omega, hr⟩
theorem QE {A R : List (List Ar)} {B : Nat} (h1 : ∀ r ∈ A, r.length <= B) (h2 : ∀ r ∈ R, r.length <= B) : ∀ r ∈ BI A R, r.length <= B := fun r hr => by
 unfold BI VY at hr
 rcases List.mem_append.1 hr with h | h
 ·exact h1 r h
 ·obtain ⟨q, hq, rfl⟩ := List.mem_map.1 h
  rw [Cc]
  exact h2 q hq
end Go.Proofs.YthnkailnoobdoaaDoor
