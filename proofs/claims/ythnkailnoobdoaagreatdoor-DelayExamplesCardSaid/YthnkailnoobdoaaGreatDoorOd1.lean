/- Lemmas. -/
import Derived.Test.YthnkailnoobdoaaGreatDoorG45
namespace Go.Proofs.YthnkailnoobdoaaGreatDoor
set_option linter.unusedVariables false
set_option linter.unusedSimpArgs false

abbrev Ed := Nat × Nat
def X8 (f : Nat -> Nat) (s : Nat) (a : Ar) : Option Ed := if a.1 = 0 /\ f s ≠ f a.2.toNat then some (f s, f a.2.toNat) else none
def X9 (f : Nat -> Nat) (s : Nat) (row : List Ar) : List Ed := row.filterMap (X8 f s)
def Xa (f : Nat -> Nat) (R : List (List Ar)) (k : Nat) : List Ed := (List.range k).flatMap fun s => X9 f s (R.getD s [])
theorem Pu (f : Nat -> Nat) (s : Nat) (row : List Ar) (a : Ar) : X9 f s (row ++ [a]) = X9 f s row ++ (X8 f s a).toList := by
 unfold X9
 rw [List.filterMap_append]
 cases h : X8 f s a <;> simp [h]
theorem KH (f : Nat -> Nat) (R : List (List Ar)) (k : Nat) : Xa f R (k + 1) = Xa f R k ++ X9 f k (R.getD k []) := by simp [Xa, List.range_succ]
theorem Fc {f : Nat -> Nat} {R : List (List Ar)} {k : Nat} {e : Ed} : e ∈ Xa f R k ↔ ∃ s, s < k /\ ∃ a ∈ R.getD s [], a.1 = 0 /\ f s ≠ f a.2.toNat /\ e = (f s, f a.2.toNat) := by
 unfold Xa X9
 simp only [List.mem_flatMap, List.mem_range, List.mem_filterMap]
 constructor
 rotate_left
 ·rintro ⟨s, hs, a, ha, h1, h2, rfl⟩
  exact ⟨s, hs, a, ha, by unfold X8; rw [if_pos ⟨h1, h2⟩]⟩
 rintro ⟨s, hs, a, ha, h⟩
 unfold X8 at h
 split at h
 rotate_left
 ·cases h
 rename_i hc
 injection h with h
 exact ⟨s, hs, a, ha, hc.1, hc.2, h.symm⟩
theorem Nl (f : Nat -> Nat) (R : List (List Ar)) : ∀ k, k <= R.length -> (Xa f R k).length <= AN (R.take k) := by
 intro k
 induction k with
 | zero => intro _; simp [Xa, AN]
 | succ k ih =>
  intro hk
  have h1 := ih (by omega)
  have h2 := BX (R := R) (k := k) hk
  have h3 : R.getD k [] = R[k] := by rw [gE2, gE1 hk]; rfl
  have h4 := List.length_filterMap_le (X8 f k) R[k]
  rw [KH, List.length_append, h3]
  unfold X9
  omega
def Xb (E : List Ed) (c : Nat) : Nat := E.countP fun e => e.1 == c
def Xc (n : Nat) (E : List Ed) : List Int := (List.range n).map fun c => (Xb E c : Int)
def Xd (E : List Ed) (t : Nat) : List Nat := (E.filter fun e => e.2 == t).map (·.1)
def En (n : Nat) (E : List Ed) : List (List Int) := (List.range n).map fun t => (Xd E t).map Int.ofNat
theorem Gp (n : Nat) (E : List Ed) : (Xc n E).length = n := by simp [Xc]
theorem HA {n : Nat} {E : List Ed} {c : Nat} (h : c < n) : (Xc n E)[c]? = some (Xb E c : Int) := by simp [Xc, h]
theorem FK (n : Nat) (E : List Ed) : (En n E).length = n := by simp [En]
theorem KI {n : Nat} {E : List Ed} {t : Nat} (h : t < n) : (En n E)[t]? = some ((Xd E t).map Int.ofNat) := by simp [En, h]
theorem Pv (E : List Ed) (c t d : Nat) : Xb (E ++ [(c, t)]) d = Xb E d + if c = d then 1 else 0 := by
 unfold Xb
 rw [List.countP_append]
 by_cases h : c = d <;> simp [h]
theorem Pw {n : Nat} {E : List Ed} {c t : Nat} (h : c < n) : (Xc n E).set c ((Xb E c : Int) + 1) = Xc n (E ++ [(c, t)]) := by
 refine List.ext_getElem (by simp [Xc]) fun i h1 h2 => ?_
 rw [Gp] at h2
 have e2 : (Xc n (E ++ [(c, t)]))[i]'(by rw [Gp]; exact h2) = (Xb (E ++ [(c, t)]) i : Int) := by simp [Xc]
 rw [e2, Pv, List.getElem_set]
 by_cases e : c = i
 ·subst e; simp
 rw [if_neg e, if_neg e]; simp [Xc]
theorem Px (E : List Ed) (c t d : Nat) : Xd (E ++ [(c, t)]) d = Xd E d ++ if t = d then [c] else [] := by
 unfold Xd
 rw [List.filter_append, List.map_append]
 by_cases h : t = d <;> simp [h]
theorem Nm {n : Nat} {E : List Ed} {c t : Nat} (h : t < n) : (En n E).set t ((Xd E t).map Int.ofNat ++ [(c : Int)]) = En n (E ++ [(c, t)]) := by
 refine List.ext_getElem (by simp [En]) fun i h1 h2 => ?_
 rw [FK] at h2
 have e2 : (En n (E ++ [(c, t)]))[i]'(by rw [FK]; exact h2) = (Xd (E ++ [(c, t)]) i).map Int.ofNat := by simp [En]
 rw [e2, Px, List.getElem_set]
 by_cases e : t = i
 ·subst e; simp
 rw [if_neg e, if_neg e]; simp [En]
theorem Nn (E : List Ed) (t : Nat) : (Xd E t).length <= E.length := by
 unfold Xd; rw [List.length_map]; exact List.length_filter_le _ _
theorem QD (E : List Ed) (c : Nat) : Xb E c <= E.length := List.countP_le_length
def Xe (E : List Ed) (P : List Nat) (c : Nat) : Nat := E.countP fun e => e.1 == c && decide (e.2 ∈ P)
theorem QE (E : List Ed) (P : List Nat) (c : Nat) : Xe E P c <= Xb E c := List.countP_mono_left fun e _ h => by simp only [Bool.and_eq_true] at h; exact h.1
theorem KJ {E : List Ed} {P : List Nat} {q : Nat} (h : q ∉ P) (c : Nat) : Xe E (P ++ [q]) c = Xe E P c + (Xd E q).countP (· == c) := by
 unfold Xe Xd
 rw [List.countP_map, List.countP_filter]
 induction E with
 | nil => rfl
 | cons e r ih =>
  simp only [List.countP_cons, ih]
  by_cases h1 : e.1 = c
  rotate_left
  ·simp [h1]
  by_cases h2 : e.2 = q
  rotate_left
  ·by_cases h3 : e.2 ∈ P <;> simp [h1, h2, h3]; omega
  have h3 : e.2 ∉ P := by rw [h2]; exact h
  simp [h1, h2, h]; omega
theorem RD (E : List Ed) (c : Nat) : Xe E [] c = 0 := by simp [Xe]
theorem EJ {γ : Type} {p q : γ -> Bool} : ∀ {l : List γ}, (∀ x ∈ l, p x = true -> q x = true) -> l.countP p = l.countP q -> ∀ x ∈ l, q x = true -> p x = true
 | [], _, _, x, hx, _ => by simp at hx
 | a :: r, h, e, x, hx, hq => by
  have hle := List.countP_mono_left (p := p) (q := q) (l := r) fun y hy => h y (gEf _ hy)
  rw [List.countP_cons, List.countP_cons] at e
  have ha := h a (by simp)
  rcases List.mem_cons.1 hx with rfl | hx
  ·cases hp : p x with
   | true => rfl
   | false => rw [hp, hq] at e; simp at e; omega
  ·refine EJ (fun y hy => h y (gEf _ hy)) ?_ x hx hq
   cases hp : p a with
   | true => rw [hp, ha hp] at e; simp at e; exact e
   | false =>
    rw [hp] at e
    cases hqa : q a with
    | true => rw [hqa] at e; simp at e; omega
    | false => rw [hqa] at e; simpa using e
theorem Py {E : List Ed} {P : List Nat} {c : Nat} (h : Xe E P c = Xb E c) : ∀ e ∈ E, e.1 = c -> e.2 ∈ P := by
 intro e he h1
 have := EJ (p := fun e : Ed => e.1 == c && decide (e.2 ∈ P)) (q := fun e : Ed => e.1 == c) (l := E) (fun x _ hx => by simp only [Bool.and_eq_true] at hx; exact hx.1) h e he (by simpa using h1)
 simp only [Bool.and_eq_true, decide_eq_true_eq] at this
 exact this.2
structure Kh (E : List Ed) (n : Nat) (f : Nat -> Nat) (i m : Nat) (Q : List Nat) (W : List Int) : Prop where
 len : W.length = n
 wt : ∀ c, c < n -> W[c]? = some (((Xb E c : Nat) : Int) - (Xe E (Q.take i) c : Nat) - (((Xd E (Q.getD i 0)).take m).countP (· == c) : Nat))
 nd : Q.Nodup
 rep : ∀ c ∈ Q, c < n /\ f c = c
 zero : ∀ c, c < n -> f c = c -> (c ∈ Q ↔ W[c]? = some 0)
 topo : ∀ (j c : Nat), Q[j]? = some c -> ∀ e ∈ E, e.1 = c -> ∃ j', j' < j /\ Q[j']? = some e.2
section
variable {E : List Ed} {n : Nat} {f : Nat -> Nat} {i m : Nat} {Q : List Nat} {W : List Int}
theorem Kh.qlen (h : Kh E n f i m Q W) : Q.length <= n := by
 have := h.nd.length_le_of_subset (l₂ := List.range n) fun q hq => List.mem_range.2 (h.rep q hq).1
 simpa using this
theorem Kh.step (h : Kh E n f i m Q W) (hi : i < Q.length) (hE : ∀ e ∈ E, e.1 < n /\ f e.1 = e.1) {c : Nat} (hc : (Xd E (Q.getD i 0))[m]? = some c) :
  c < n /\ f c = c /\ ∃ w : Int, W[c]? = some w /\ 1 <= w /\ w <= Xb E c /\ (w ≠ 1 -> Kh E n f i (m + 1) Q (W.set c (w - 1))) /\ (w = 1 -> Kh E n f i (m + 1) (Q ++ [c]) (W.set c (w - 1))) := by
 have hqi : Q[i]? = some (Q.getD i 0) := by rw [gE2, gE1 hi]; rfl
 have hwt := h.wt
 generalize hq : Q.getD i 0 = q at *
 have hmem : c ∈ Xd E q := gE9 hc
 have hce : ∃ e ∈ E, e.2 = q /\ e.1 = c := by
  obtain ⟨e, he, h1⟩ := List.mem_map.1 hmem
  have := List.mem_filter.1 he
  exact ⟨e, this.1, by simpa using this.2, h1⟩
 obtain ⟨e0, he0, he1, he2⟩ := hce
 have hcn := hE e0 he0
 rw [he2] at hcn
 obtain ⟨hc1, hc2⟩ := hcn
 have hml := (List.getElem?_eq_some_iff.1 hc).1
 have hcv := (List.getElem?_eq_some_iff.1 hc).2
 have hqn : q ∉ Q.take i := fun hin => by
  obtain ⟨j, hj, hj2⟩ := List.mem_take_iff_getElem.1 hin
  have hji : j < i := by have := List.length_take_le i Q; omega
  have e1 : Q[j] = Q[i] := by rw [hj2, (List.getElem?_eq_some_iff.1 hqi).2]
  exact List.pairwise_iff_getElem.1 h.nd j i (by omega) hi hji e1
 have htk : Q.take (i + 1) = Q.take i ++ [q] := by rw [gE8 hi, (List.getElem?_eq_some_iff.1 hqi).2]
 have hsn := KJ (E := E) hqn
 have hle := fun d => QE E (Q.take (i + 1)) d
 rw [htk] at hle
 have htm : (Xd E q).take (m + 1) = (Xd E q).take m ++ [c] := by rw [gE8 hml, hcv]
 have hcnt : ∀ d, ((Xd E q).take (m + 1)).countP (· == d) = ((Xd E q).take m).countP (· == d) + if c = d then 1 else 0 := fun d => by
  rw [htm, List.countP_append]
  by_cases e : c = d <;> simp [e]
 have hsub : ∀ d k, ((Xd E q).take k).countP (· == d) <= (Xd E q).countP (· == d) := fun d k => (List.take_sublist k _).countP_le
 have hw := hwt c hc1
 have hb1 := hcnt c
 rw [if_pos rfl] at hb1
 have hb2 := hsub c (m + 1)
 have hb3 := hle c
 rw [hsn] at hb3
 refine ⟨hc1, hc2, _, hw, by omega, by omega, fun hw1 => ?_, fun hw1 => ?_⟩
 ·refine ⟨by simp [h.len], fun d hd => ?_, h.nd, h.rep, fun d hd hd2 => ?_, h.topo⟩
  ·rw [hq, List.getElem?_set, hcnt d]
   by_cases e : c = d
   rotate_left
   ·rw [if_neg e, if_neg e, hwt d hd, Nat.add_zero]
   subst e
   rw [if_pos rfl, if_pos (by rw [h.len]; exact hc1), if_pos rfl]
   congr 1; omega
  rw [List.getElem?_set]
  by_cases e : c = d
  rotate_left
  ·rw [if_neg e]; exact h.zero d hd hd2
  subst e
  rw [if_pos rfl, if_pos (by rw [h.len]; exact hc1), h.zero c hd hd2, hw]
  constructor
  ·intro h0; injection h0 with h0; omega
  intro h0; injection h0 with h0; omega
 have hcq : c ∉ Q := fun hin => by
  have := (h.zero c hc1 hc2).1 hin
  rw [hw] at this
  injection this with this
  omega
 have htk2 : (Q ++ [c]).take i = Q.take i := List.take_append_of_le_length (by omega)
 have hgq : (Q ++ [c]).getD i 0 = q := by rw [gE2, gEa hi, hqi]; rfl
 refine ⟨by simp [h.len], fun d hd => ?_, ?_, fun d hd => ?_, fun d hd hd2 => ?_, fun j d hj e he h1 => ?_⟩
 ·rw [htk2, hgq, List.getElem?_set, hcnt d]
  by_cases e : c = d
  rotate_left
  ·rw [if_neg e, if_neg e, hwt d hd, Nat.add_zero]
  subst e
  rw [if_pos rfl, if_pos (by rw [h.len]; exact hc1), if_pos rfl]
  congr 1; omega
 ·rw [List.nodup_append]
  exact ⟨h.nd, by simp, fun a ha b hb => by simp at hb; subst hb; intro e; subst e; exact hcq ha⟩
 ·rcases List.mem_append.1 hd with h1 | h1
  ·exact h.rep d h1
  simp at h1; subst h1; exact ⟨hc1, hc2⟩
 ·rw [List.getElem?_set, List.mem_append, List.mem_singleton]
  by_cases e : c = d
  rotate_left
  ·rw [if_neg e, <- h.zero d hd hd2]
   exact ⟨fun h1 => h1.elim id fun h2 => absurd h2.symm e, .inl⟩
  subst e
  rw [if_pos rfl, if_pos (by rw [h.len]; exact hc1)]
  exact ⟨fun _ => by congr 1; omega, fun _ => .inr rfl⟩
 rcases Nat.lt_or_ge j Q.length with hl | hl
 ·rw [gEa hl] at hj
  obtain ⟨j', a1, a2⟩ := h.topo j d hj e he h1
  exact ⟨j', a1, by rw [gEa (List.getElem?_eq_some_iff.1 a2).1]; exact a2⟩
 rw [gEb hl] at hj
 have hj0 : j = Q.length := by
  have := (List.getElem?_eq_some_iff.1 hj).1
  simp at this; omega
 subst hj0
 simp at hj
 subst hj
 have hfull : Xe E (Q.take i ++ [q]) c = Xb E c := by rw [hsn]; omega
 have hin := Py hfull e he h1
 rw [<- htk] at hin
 obtain ⟨j', hj', hj2⟩ := List.mem_take_iff_getElem.1 hin
 exact ⟨j', by omega, by rw [gEa (by omega), gE1 (by omega), hj2]⟩
theorem Kh.next (h : Kh E n f i m Q W) (hi : i < Q.length) (hm : (Xd E (Q.getD i 0)).length <= m) : Kh E n f (i + 1) 0 Q W := by
 have hqi : Q[i]? = some (Q.getD i 0) := by rw [gE2, gE1 hi]; rfl
 refine ⟨h.len, fun c hc => ?_, h.nd, h.rep, h.zero, h.topo⟩
 have hqn : Q.getD i 0 ∉ Q.take i := fun hin => by
  obtain ⟨j, hj, hj2⟩ := List.mem_take_iff_getElem.1 hin
  have hji : j < i := by have := List.length_take_le i Q; omega
  have e1 : Q[j] = Q[i] := by rw [hj2, (List.getElem?_eq_some_iff.1 hqi).2]
  exact List.pairwise_iff_getElem.1 h.nd j i (by omega) hi hji e1
 have htk : Q.take (i + 1) = Q.take i ++ [Q.getD i 0] := by rw [gE8 hi, (List.getElem?_eq_some_iff.1 hqi).2]
 rw [h.wt c hc, htk, KJ hqn, gE7 hm]
 congr 1
 simp only [List.take_zero, List.countP_nil]
 omega
end
def HB (E : List Ed) (n : Nat) (f : Nat -> Nat) (Q : List Nat) : Prop := Q.Nodup /\ (∀ c, c ∈ Q ↔ c < n /\ f c = c) /\ ∀ (j c : Nat), Q[j]? = some c -> ∀ e ∈ E, e.1 = c -> ∃ j', j' < j /\ Q[j']? = some e.2
theorem Kh.done {E : List Ed} {n : Nat} {f : Nat -> Nat} {Q : List Nat} {W : List Int} (h : Kh E n f Q.length 0 Q W) (rk : Nat -> Nat) (hE : ∀ e ∈ E, e.2 < n /\ f e.2 = e.2 /\ rk e.2 < rk e.1) : HB E n f Q := by
 refine ⟨h.nd, fun c => ⟨h.rep c, ?_⟩, h.topo⟩
 have key : ∀ k c, rk c <= k -> c < n -> f c = c -> c ∈ Q := by
  intro k
  induction k with
  | zero =>
   intro c hk hc hf
   rw [h.zero c hc hf, h.wt c hc, List.take_length]
   have h0 : Xb E c = 0 := by
    unfold Xb
    rw [List.countP_eq_zero]
    intro e he h1
    have := (hE e he).2.2
    have h2 : e.1 = c := by simpa using h1
    rw [h2] at this; omega
   have h1 := QE E Q c
   rw [List.take_zero, List.countP_nil]
   congr 1; omega
  | succ k ih =>
   intro c hk hc hf
   rw [h.zero c hc hf, h.wt c hc, List.take_length]
   have hall : ∀ e ∈ E, e.1 = c -> e.2 ∈ Q := fun e he h1 => by
    obtain ⟨a1, a2, a3⟩ := hE e he
    rw [h1] at a3
    exact ih e.2 (by omega) a1 a2
   have h1 : Xe E Q c = Xb E c := by
    unfold Xe Xb
    refine List.countP_congr fun e he => ?_
    simp only [Bool.and_eq_true, decide_eq_true_eq, beq_iff_eq]
    exact ⟨fun h => h.1, fun h => ⟨h, hall e he h⟩⟩
   rw [h1, List.take_zero, List.countP_nil]
   congr 1; omega
 exact fun ⟨h1, h2⟩ => key _ c (Nat.le_refl _) h1 h2
def Xf (n : Nat) (r : List Ar) : List Ar := r.map fun a => (a.1, a.2 + (n : Int))
def Xg (n : Nat) (R : List (List Ar)) : List (List Ar) := R.map (Xf n)
def CL (A R : List (List Ar)) : List (List Ar) := A ++ Xg A.length R
theorem C2 (n : Nat) (r : List Ar) : (Xf n r).length = r.length := by simp [Xf]
theorem Fd (n : Nat) (R : List (List Ar)) : (Xg n R).length = R.length := by simp [Xg]
theorem Ck (A R : List (List Ar)) : (CL A R).length = A.length + R.length := by simp [CL, Fd]
theorem Pz (R : List (List Ar)) : CL [] R = R := by
 have : Xf 0 = id := by funext r; simp [Xf]
 simp [CL, Xg, this]
theorem TC {A R : List (List Ar)} {s : Nat} (h : s < A.length) : (CL A R).getD s [] = A.getD s [] := by
 rw [gE2, gE2, CL, gEa h]
theorem TD (A R : List (List Ar)) (s : Nat) : (CL A R).getD (A.length + s) [] = Xf A.length (R.getD s []) := by
 rw [gE2, gE2, CL, gEb (by omega), Nat.add_sub_cancel_left, Xg, List.getElem?_map]
 cases R[s]? <;> simp [Xf]
theorem TE (n : Nat) (r : List Ar) : Ch true (Xf n r) = Xf n (Ch true r) := by
 simp [Ch, Xf, List.takeWhile_map, Function.comp_def]
theorem KK {A R : List (List Ar)} {s : Nat} (h : s < A.length) : WG true (CL A R) s = WG true A s := by unfold WG; rw [TC h]
theorem KL {A R : List (List Ar)} (hlo : BK R = true) (s : Nat) : WG true (CL A R) (A.length + s) = (WG true R s).map (A.length + ·) := by
 unfold WG
 rw [TD, TE]
 unfold Xf
 rw [List.map_map, List.map_map]
 refine List.map_congr_left fun a ha => ?_
 have := (IA hlo (k := s) a ha).1
 simp only [Function.comp_apply]
 omega
theorem IB {A R : List (List Ar)} (hA : ∀ x, x < A.length -> ∀ y ∈ WG true A x, y < A.length) {s u : Nat} (hs : s < A.length) : Rc (WG true (CL A R)) s u ↔ Rc (WG true A) s u := by
 constructor
 rotate_left
 ·intro h
  induction h with
  | refl => exact .refl _
  | tail h1 h2 ih =>
   refine ih.tail ?_
   rwa [KK (h1.lt hs hA)]
 intro h
 induction h with
 | refl => exact .refl _
 | tail h1 h2 ih =>
  refine ih.tail ?_
  rwa [KK (ih.lt hs hA)] at h2
theorem IC {A R : List (List Ar)} (hlo : BK R = true) {s u : Nat} : Rc (WG true (CL A R)) (A.length + s) u ↔ ∃ v, u = A.length + v /\ Rc (WG true R) s v := by
 constructor
 rotate_left
 ·rintro ⟨v, rfl, h⟩
  induction h with
  | refl => exact .refl _
  | tail h1 h2 ih =>
   refine ih.tail ?_
   rw [KL hlo]
   exact List.mem_map.2 ⟨_, h2, rfl⟩
 intro h
 generalize hx : A.length + s = x at h
 induction h with
 | refl => exact ⟨s, hx.symm, .refl _⟩
 | tail h1 h2 ih =>
  obtain ⟨v, e, h3⟩ := ih
  rw [e, KL hlo] at h2
  obtain ⟨w, hw, rfl⟩ := List.mem_map.1 h2
  exact ⟨w, rfl, h3.tail hw⟩
theorem UG {A R : List (List Ar)} (hA : ∀ x, x < A.length -> ∀ y ∈ WG true A x, y < A.length) {s : Nat} (hs : s < A.length) : Dv (CL A R) s ↔ Dv A s := by
 constructor
 rotate_left
 ·rintro ⟨g, h1, w, h2, h3⟩
  have hg := h1.lt hs hA
  exact ⟨g, (IB hA hs).2 h1, w, by rwa [KK hg], (IB hA (hA _ hg _ h2)).2 h3⟩
 rintro ⟨g, h1, w, h2, h3⟩
 rw [IB hA hs] at h1
 have hg := h1.lt hs hA
 rw [KK hg] at h2
 exact ⟨g, h1, w, h2, (IB hA (hA _ hg _ h2)).1 h3⟩
theorem UH {A R : List (List Ar)} (hlo : BK R = true) {s : Nat} : Dv (CL A R) (A.length + s) ↔ Dv R s := by
 constructor
 rotate_left
 ·rintro ⟨g, h1, w, h2, h3⟩
  refine ⟨A.length + g, (IC hlo).2 ⟨g, rfl, h1⟩, A.length + w, ?_, (IC hlo).2 ⟨g, rfl, h3⟩⟩
  rw [KL hlo]
  exact List.mem_map.2 ⟨w, h2, rfl⟩
 rintro ⟨g, h1, w, h2, h3⟩
 obtain ⟨g, rfl, p1⟩ := (IC hlo).1 h1
 rw [KL hlo] at h2
 obtain ⟨w, p2, rfl⟩ := List.mem_map.1 h2
 obtain ⟨g2, e, p3⟩ := (IC hlo).1 h3
 have : g2 = g := by omega
 subst this
 exact ⟨_, p1, w, p2, p3⟩
def CpOk (R : List (List Ar)) (D : List Int) : Prop := D.length = R.length /\ ∀ v, v < R.length -> Least (WG true R) v (WF D (-1) v)
theorem Np {D : List Int} {s : Nat} {x : Int} (h : D[s]? = some x) : WF D (-1) s = x := by unfold WF; rw [h]; rfl
theorem CpOk.both {A R : List (List Ar)} {C D : List Int} (hA : ∀ x, x < A.length -> ∀ y ∈ WG true A x, y < A.length) (hlo : BK R = true) (h1 : CpOk A C) (h2 : CpOk R D) : CpOk (CL A R) (C ++ D.map (· + (A.length : Int))) := by
 refine ⟨by rw [Ck, List.length_append, List.length_map, h1.1, h2.1], fun v hv => ?_⟩
 rw [Ck] at hv
 rcases Nat.lt_or_ge v A.length with h | h
 ·have e : WF (C ++ D.map (· + (A.length : Int))) (-1) v = WF C (-1) v := by
   unfold WF; rw [gEa (by rw [h1.1]; exact h)]
  rw [e]
  obtain ⟨m, a1, a2, a3, a4⟩ := h1.2 v h
  have hm := a2.lt h hA
  refine ⟨m, a1, (IB hA h).2 a2, (IB hA hm).2 a3, fun u b1 b2 => ?_⟩
  have b1 := (IB hA h).1 b1
  exact a4 u b1 ((IB hA (b1.lt h hA)).1 b2)
 obtain ⟨s, rfl⟩ : ∃ s, v = A.length + s := ⟨v - A.length, by omega⟩
 have hs : s < R.length := by omega
 obtain ⟨m, a1, a2, a3, a4⟩ := h2.2 s hs
 have hsD : s < D.length := by rw [h2.1]; exact hs
 have e : WF (C ++ D.map (· + (A.length : Int))) (-1) (A.length + s) = WF D (-1) s + (A.length : Int) := by
  unfold WF
  rw [gEb (by rw [h1.1]; omega), h1.1, Nat.add_sub_cancel_left, List.getElem?_map, gE1 hsD]; rfl
 rw [e, a1]
 refine ⟨A.length + m, by omega, (IC hlo).2 ⟨m, rfl, a2⟩, (IC hlo).2 ⟨s, rfl, a3⟩, fun u b1 b2 => ?_⟩
 obtain ⟨u, rfl, p1⟩ := (IC hlo).1 b1
 obtain ⟨s2, e2, p2⟩ := (IC hlo).1 b2
 have : s2 = s := by omega
 subst this
 have := a4 u p1 p2
 omega
theorem DvL.both {A R : List (List Ar)} {B C : List Bool} (hA : ∀ x, x < A.length -> ∀ y ∈ WG true A x, y < A.length) (hlo : BK R = true) (h1 : DvL A B) (h2 : DvL R C) : DvL (CL A R) (B ++ C) := by
 refine ⟨by rw [Ck, List.length_append, h1.1, h2.1], fun v hv => ?_⟩
 rw [Ck] at hv
 rcases Nat.lt_or_ge v A.length with h | h
 ·rw [gE2, gEa (by rw [h1.1]; exact h), <- gE2, h1.2 v h, UG hA h]
 obtain ⟨s, rfl⟩ : ∃ s, v = A.length + s := ⟨v - A.length, by omega⟩
 rw [gE2, gEb (by rw [h1.1]; omega), h1.1, Nat.add_sub_cancel_left, <- gE2, h2.2 s (by omega), UH hlo]
theorem Gq {X : List (List Ar)} (hv : BL X = true) {n m : Nat} : m ∈ WG true X n ↔ (0, (m : Int)) ∈ X.getD n [] := by
 rw [<- N9 true hv]
 unfold M5 Hy
 simp only [List.mem_map, List.mem_filter, Bool.not_true, Bool.false_or, beq_iff_eq]
 constructor
 rotate_left
 ·intro h
  exact ⟨_, ⟨h, rfl⟩, by simp⟩
 rintro ⟨a, ⟨h1, h2⟩, rfl⟩
 have h3 : 0 <= a.2 := by
  rcases Nat.lt_or_ge n X.length with h | h
  rotate_left
  ·rw [gE2, List.getElem?_eq_none h] at h1; simp at h1
  rw [gE2, gE1 h, Option.getD_some] at h1
  have := (gE4 hv).1.2.2.2 _ (gE6 h) a h1
  omega
 have e : ((0 : Int), ((a.2.toNat : Nat) : Int)) = a := by
  rcases a with ⟨x, y⟩
  simp only at h2 h3 ⊢
  rw [h2]; congr 1; omega
 rw [e]; exact h1
def Xh (D : List Int) (v : Nat) : Nat := (D.getD v 0).toNat
theorem BR {X : List (List Ar)} {D : List Int} (hv : BL X = true) (h : CpOk X D) {v : Nat} (hs : v < X.length) : D[v]? = some (Xh D v : Int) /\ Xh D v < X.length /\ Rc (WG true X) v (Xh D v) /\ Rc (WG true X) (Xh D v) v /\ Xh D (Xh D v) = Xh D v := by
 have hlo : BK X = true := gEg (gE4 hv).1
 have hE := Ct true hlo
 obtain ⟨m, a1, a2, a3, a4⟩ := h.2 v hs
 have hg : D[v]? = some (m : Int) := by
  have : v < D.length := by rw [h.1]; exact hs
  unfold WF at a1
  rw [gE1 this] at a1 ⊢
  rw [<- a1]; rfl
 have e : Xh D v = m := by unfold Xh; rw [gE2, hg]; rfl
 have hm := a2.lt hs hE
 obtain ⟨m2, b1, b2, b3, b4⟩ := h.2 m hm
 have e2 : Xh D m = m := by
  have hg2 : D[m]? = some (m2 : Int) := by
   have : m < D.length := by rw [h.1]; exact hm
   unfold WF at b1
   rw [gE1 this] at b1 ⊢
   rw [<- b1]; rfl
  have c1 := a4 m2 (a2.trans b2) (b3.trans a3)
  have c2 := b4 m (.refl _) (.refl _)
  unfold Xh; rw [gE2, hg2]
  show ((m2 : Int)).toNat = m
  omega
 rw [e]
 exact ⟨hg, hm, a2, a3, e2⟩
theorem TF {X : List (List Ar)} {D : List Int} (hv : BL X = true) (h : CpOk X D) {v w : Nat} (hs : v < X.length) (h1 : Rc (WG true X) v w) (h2 : Rc (WG true X) w v) : Xh D v = Xh D w := by
 have hlo : BK X = true := gEg (gE4 hv).1
 have hw := h1.lt hs (Ct true hlo)
 obtain ⟨m, a1, a2, a3, a4⟩ := h.2 v hs
 obtain ⟨k, b1, b2, b3, b4⟩ := h.2 w hw
 have c1 := a4 k (h1.trans b2) (b3.trans h2)
 have c2 := b4 m (h2.trans a2) (a3.trans h1)
 have d1 : WF D (-1) v = WF D (-1) w := by rw [a1, b1]; omega
 have e1 := (BR hv h hs).1
 have e2 := (BR hv h hw).1
 rw [Np e1, Np e2] at d1
 omega
noncomputable def Xi (X : List (List Ar)) (v : Nat) : Nat := (List.range X.length).countP fun u => @decide (Rc (WG true X) v u) (Classical.propDecidable _)
theorem ID {γ : Type} {p q : γ -> Bool} : ∀ {l : List γ}, (∀ x ∈ l, p x = true -> q x = true) -> ∀ x ∈ l, q x = true -> p x = false -> l.countP p < l.countP q
 | a :: l, h, x, hx, h1, h2 => by
  have hm : l.countP p <= l.countP q := List.countP_mono_left fun y hy => h y (gEf _ hy)
  have ha := h a List.mem_cons_self
  rw [List.countP_cons, List.countP_cons]
  rcases List.mem_cons.1 hx with rfl | hx
  ·rw [h1, h2]; simp; omega
  ·have ih := ID (fun y hy => h y (gEf _ hy)) x hx h1 h2
   cases hp : p a with
   | false => simp; split <;> omega
   | true => rw [ha hp]; simp; omega
theorem PA {X : List (List Ar)} {D : List Int} (hv : BL X = true) (h : CpOk X D) : ∀ e ∈ Xa (Xh D) X X.length, (e.1 < X.length /\ Xh D e.1 = e.1) /\ e.2 < X.length /\ Xh D e.2 = e.2 /\ Xi X e.2 < Xi X e.1 := by
 intro e he
 have hlo : BK X = true := gEg (gE4 hv).1
 have hE := Ct true hlo
 obtain ⟨s, hs, a, ha, h0, hne, rfl⟩ := Fc.1 he
 have hg : X.getD s [] = X[s] := by rw [gE2, gE1 hs]; rfl
 rw [hg] at ha
 have hb := (gE4 hlo).2.2.2 _ (gE6 hs) a ha
 have ht : a.2.toNat < X.length := by omega
 have hadj : a.2.toNat ∈ WG true X s := by
  rw [Gq hv, hg]
  have : ((0 : Int), ((a.2.toNat : Nat) : Int)) = a := by
   rcases a with ⟨x, y⟩
   simp only at h0 hb ⊢
   rw [h0]; congr 1; omega
  rw [this]; exact ha
 obtain ⟨_, p2, p3, p4, p5⟩ := BR hv h hs
 obtain ⟨_, q2, q3, q4, q5⟩ := BR hv h ht
 refine ⟨⟨p2, p5⟩, q2, q5, ?_⟩
 have hst : Rc (WG true X) (Xh D s) (Xh D a.2.toNat) := (p4.trans (.one hadj)).trans q3
 unfold Xi
 refine ID (fun u _ hu => ?_) (Xh D s) (List.mem_range.2 p2) (@decide_eq_true _ (Classical.propDecidable _) (.refl _)) ?_
 ·simp only [decide_eq_true_eq] at hu ⊢
  exact hst.trans hu
 refine @decide_eq_false _ (Classical.propDecidable _) fun hc => hne ?_
 refine TF hv h hs (.one hadj) ?_
 exact (q3.trans hc).trans p4
theorem Nq {A R : List (List Ar)} (hA : A = [] \/ BL A = true) (hR : BL R = true) (h1 : A.length + R.length <= T3) (h2 : AN A + AN R <= T4) : BL (CL A R) = true := by
 have h := gE4 hR
 have hA2 : ∀ r ∈ A, (∀ a ∈ r, 0 <= a.1 /\ a.1 <= 1025 /\ 0 <= a.2 /\ a.2 < (A.length : Int)) /\ SortA r := by
  rcases hA with rfl | hA
  ·intro r hr; simp at hr
  have h3 := gE4 hA
  exact fun r hr => ⟨h3.1.2.2.2 r hr, h3.2 r hr⟩
 refine gEg ⟨⟨by rw [Ck]; have := h.1.1; omega, by rw [Ck]; exact h1, ?_, fun r hr a ha => ?_⟩, fun r hr => ?_⟩
 ·have : AN (CL A R) = AN A + AN R := by
   unfold AN CL Xg
   rw [List.map_append, List.sum_append, List.map_map]
   have : (List.length ∘ Xf A.length) = List.length := by funext r; exact C2 _ r
   rw [this]
  omega
 ·rw [Ck]
  rcases List.mem_append.1 hr with h3 | h3
  ·have := (hA2 r h3).1 a ha; omega
  obtain ⟨q, hq, rfl⟩ := List.mem_map.1 h3
  obtain ⟨b, hb, rfl⟩ := List.mem_map.1 ha
  have := h.1.2.2.2 q hq b hb
  simp only
  omega
 rcases List.mem_append.1 hr with h3 | h3
 ·exact (hA2 r h3).2
 obtain ⟨q, hq, rfl⟩ := List.mem_map.1 h3
 have h4 := h.2 q hq
 unfold SortA Xf at *
 rw [List.pairwise_map]
 refine h4.imp fun {a b} hab => ?_
 rw [CX] at hab ⊢
 simp only
 omega
open Go.RowKit
theorem DlC.uniq {R : List (List Ar)} {c d : List Int} (h1 : DlC R c) (h2 : DlC R d) : c = d := by
 obtain ⟨B, b1, b2⟩ := h1
 obtain ⟨B', b3, b4⟩ := h2
 have e := b1.uniq b3
 subst e
 exact b2.uniq b4
theorem PC (A R : List (List Ar)) : AN (CL A R) = AN A + AN R := by
 simp [AN, CL, Xg, Xf, Function.comp_def]
theorem RE {A R : List (List Ar)} {B : Nat} (h1 : ∀ r ∈ A, r.length <= B) (h2 : ∀ r ∈ R, r.length <= B) : ∀ r ∈ CL A R, r.length <= B := fun r hr => by
 unfold CL Xg at hr
 rcases List.mem_append.1 hr with h | h
 ·exact h1 r h
 ·obtain ⟨q, hq, rfl⟩ := List.mem_map.1 h
  rw [C2]
  exact h2 q hq
def Xu (cl : List Int) (a : Ar) : Option Ar := if a.1 ≠ 0 then some (a.1, cl.getD a.2.toNat 0) else none
def Xv (cl : List Int) (row : List Ar) : List Ar := row.filterMap (Xu cl)
def Xw (cl : List Int) (X : List (List Ar)) (s : Nat) : List Ar := (0, cl.getD s 0) :: Xv cl (X.getD s [])
def Xx (f : Nat -> Nat) (cl : List Int) (X : List (List Ar)) (k c : Nat) : List Ar := ((List.range k).filter fun s => f s == c).flatMap (Xw cl X)
def Xy (f : Nat -> Nat) (cl : List Int) (X : List (List Ar)) (k : Nat) : List (List Ar) := (List.range X.length).map (Xx f cl X k)
theorem YO (cl : List Int) (row : List Ar) (a : Ar) : Xv cl (row ++ [a]) = Xv cl row ++ (Xu cl a).toList := by
 unfold Xv
 rw [List.filterMap_append]
 cases h : Xu cl a <;> simp [h]
theorem RM (cl : List Int) (row : List Ar) : (Xv cl row).length <= row.length := List.length_filterMap_le _ _
theorem NC (f : Nat -> Nat) (cl : List Int) (X : List (List Ar)) (k : Nat) : (Xy f cl X k).length = X.length := by simp [Xy]
theorem RN {f : Nat -> Nat} {cl : List Int} {X : List (List Ar)} {k c : Nat} (h : c < X.length) : (Xy f cl X k)[c]? = some (Xx f cl X k c) := by simp [Xy, h]
theorem YP (f : Nat -> Nat) (cl : List Int) (X : List (List Ar)) : Xy f cl X 0 = List.replicate X.length [] := by
 refine List.ext_getElem (by simp [Xy]) fun i h1 h2 => ?_
 simp [Xy, Xx]
theorem PJ (f : Nat -> Nat) (cl : List Int) (X : List (List Ar)) (k c : Nat) : Xx f cl X (k + 1) c = Xx f cl X k c ++ if f k = c then Xw cl X k else [] := by
 unfold Xx
 rw [List.range_succ, List.filter_append, List.flatMap_append]
 congr 1
 by_cases h : f k = c
 ·simp [h]
 simp [h]
theorem YQ {f : Nat -> Nat} {cl : List Int} {X : List (List Ar)} {k : Nat} (h : f k < X.length) : (Xy f cl X k).set (f k) (Xx f cl X k (f k) ++ Xw cl X k) = Xy f cl X (k + 1) := by
 refine List.ext_getElem (by simp [Xy]) fun i h1 h2 => ?_
 have hi : i < X.length := by simpa [Xy] using h2
 rw [List.getElem_set]
 split
 ·rename_i e
  subst e
  simp only [Xy, List.getElem_map, List.getElem_range, PJ, if_true]
 rename_i e
 simp only [Xy, List.getElem_map, List.getElem_range, PJ, if_neg e, List.append_nil]
theorem ND (f : Nat -> Nat) (cl : List Int) (X : List (List Ar)) (c : Nat) : ∀ k, k <= X.length -> (Xx f cl X k c).length <= k + AN (X.take k) := by
 intro k
 induction k with
 | zero => intro _; simp [Xx]
 | succ k ih =>
  intro hk
  have h1 := ih (by omega)
  have h2 := BX (R := X) (k := k) hk
  have h3 := RM cl X[k]
  have h4 : X.getD k [] = X[k] := by rw [gE2, gE1 hk]; rfl
  rw [PJ, List.length_append]
  split
  ·unfold Xw; rw [h4, List.length_cons]; omega
  simp; omega
def Xz (E : List Ed) (c : Nat) : List Int := (E.filter fun e => e.1 == c).map fun e => (e.2 : Int)
def XA (n : Nat) (E : List Ed) : List (List Int) := (List.range n).map (Xz E)
theorem YF (n : Nat) (E : List Ed) : (XA n E).length = n := by simp [XA]
theorem RO {n : Nat} {E : List Ed} {c : Nat} (h : c < n) : (XA n E)[c]? = some (Xz E c) := by simp [XA, h]
theorem YG (E : List Ed) (c : Nat) : (Xz E c).length <= E.length := by unfold Xz; rw [List.length_map]; exact List.length_filter_le _ _
theorem YC (E : List Ed) (c t d : Nat) : Xz (E ++ [(c, t)]) d = Xz E d ++ if c = d then [(t : Int)] else [] := by
 unfold Xz
 rw [List.filter_append, List.map_append]
 by_cases h : c = d
 ·simp [h]
 simp [h]
theorem YR {n : Nat} {E : List Ed} {c t : Nat} (h : c < n) : (XA n E).set c (Xz E c ++ [(t : Int)]) = XA n (E ++ [(c, t)]) := by
 refine List.ext_getElem (by simp [XA]) fun i h1 h2 => ?_
 rw [List.getElem_set]
 split
 ·rename_i e
  subst e
  simp only [XA, List.getElem_map, List.getElem_range, YC, if_true]
 rename_i e
 simp only [XA, List.getElem_map, List.getElem_range, YC, if_neg e, List.append_nil]
theorem YS (n : Nat) : XA n [] = List.replicate n [] := by
 refine List.ext_getElem (by simp [XA]) fun i h1 h2 => ?_
 simp [XA, Xz]
theorem NE {E : List Ed} {c : Nat} {x : Int} : x ∈ Xz E c ↔ ∃ t : Nat, x = (t : Int) /\ (c, t) ∈ E := by
 unfold Xz
 simp only [List.mem_map, List.mem_filter, beq_iff_eq]
 constructor
 rotate_left
 ·rintro ⟨t, rfl, h⟩
  exact ⟨(c, t), ⟨h, rfl⟩, rfl⟩
 rintro ⟨e, ⟨h1, h2⟩, rfl⟩
 exact ⟨e.2, rfl, by rw [<- h2]; exact h1⟩
def XC (O : List (List Ar)) (nx : List Int) : List Ar := nx.flatMap fun t => O.getD t.toNat []
def XD (N : List (List Int)) (O : List (List Ar)) (c : Nat) : List (List Ar) := O.set c (Cx (O.getD c [] ++ XC O (N.getD c [])))
theorem YT (O : List (List Ar)) (nx : List Int) (t : Int) : XC O (nx ++ [t]) = XC O nx ++ O.getD t.toNat [] := by simp [XC]
theorem Z5 {O : List (List Ar)} {B : Nat} (h : ∀ c, (O.getD c []).length <= B) : ∀ nx : List Int, (XC O nx).length <= nx.length * B := by
 intro nx
 induction nx with
 | nil => simp [XC]
 | cons t r ih =>
  have h1 := h t.toNat
  have h2 : XC O (t :: r) = O.getD t.toNat [] ++ XC O r := rfl
  rw [h2, List.length_append, List.length_cons, Nat.succ_mul]
  omega
theorem RP (N : List (List Int)) (O : List (List Ar)) (c : Nat) : (XD N O c).length = O.length := by simp [XD]
theorem D8 {α : Type} [DecidableEq α] : ∀ {l m : List α}, l.Nodup -> (∀ x ∈ l, x ∈ m) -> l.length <= m.length
 | [], _, _, _ => Nat.zero_le _
 | a :: l, m, h, hs => by
  have h2 := List.nodup_cons.1 h
  have ha := hs a List.mem_cons_self
  have ih := D8 (m := m.erase a) h2.2 fun x hx => (List.mem_erase_of_ne (fun e => h2.1 (by rw [<- e]; exact hx))).2 (hs x (gEf _ hx))
  have h3 := List.length_erase_of_mem ha
  have h4 := List.length_pos_of_mem ha
  simp only [List.length_cons]
  omega
theorem Jv {l : List Ar} (h : SortA l) : l.Nodup := h.imp fun {a b} hab => by
 rintro rfl
 rw [F0] at hab; cases hab
def XE (cl : List Int) (X : List (List Ar)) : List Ar := (List.range X.length).flatMap (Xw cl X)
theorem RQ (cl : List Int) (X : List (List Ar)) : (XE cl X).length <= X.length + AN X := by
 have h : XE cl X = Xx (fun _ => 0) cl X X.length 0 := by
  unfold XE Xx
  rw [List.filter_eq_self.2 (fun _ _ => by simp)]
 rw [h]
 have := ND (fun _ => 0) cl X 0 X.length (Nat.le_refl _)
 rwa [List.take_length] at this
structure P3 (f : Nat -> Nat) (cl : List Int) (X : List (List Ar)) (Q : List Nat) (i : Nat) (O : List (List Ar)) : Prop where
 len : O.length = X.length
 sz : ∀ c, (O.getD c []).length <= X.length + AN X
 sub : ∀ c, ∀ x ∈ O.getD c [], x ∈ XE cl X
 raw : ∀ c, c < X.length -> c ∉ Q.take i -> O.getD c [] = Xx f cl X X.length c
 don : ∀ c, c ∈ Q.take i -> SortA (O.getD c []) /\ ∀ x, x ∈ O.getD c [] ↔ ∃ s, s < X.length /\ Rc (WG true X) c s /\ x ∈ Xw cl X s
theorem HD (f : Nat -> Nat) (cl : List Int) (X : List (List Ar)) (k : Nat) {c : Nat} (h : c < X.length) : (Xy f cl X k).getD c [] = Xx f cl X k c := by rw [gE2, RN h]; rfl
theorem P3.start (f : Nat -> Nat) (cl : List Int) (X : List (List Ar)) (Q : List Nat) : P3 f cl X Q 0 (Xy f cl X X.length) := by
 have out : ∀ c, ¬ c < X.length -> (Xy f cl X X.length).getD c [] = [] := fun c h => by rw [gE2, List.getElem?_eq_none (by rw [NC]; omega)]; rfl
 refine ⟨NC _ _ _ _, fun c => ?_, fun c x hx => ?_, fun c hc _ => HD _ _ _ _ hc, fun c hc => by simp at hc⟩
 ·by_cases h : c < X.length
  rotate_left
  ·rw [out c h]; simp
  rw [HD _ _ _ _ h]
  have := ND f cl X c X.length (Nat.le_refl _)
  rwa [List.take_length] at this
 by_cases h : c < X.length
 rotate_left
 ·rw [out c h] at hx; simp at hx
 rw [HD _ _ _ _ h] at hx
 obtain ⟨s, h1, h2⟩ := List.mem_flatMap.1 hx
 exact List.mem_flatMap.2 ⟨s, (List.mem_filter.1 h1).1, h2⟩
theorem Jw {X : List (List Ar)} {D : List Int} (hv : BL X = true) (h : CpOk X D) {v s : Nat} (hvl : v < X.length) (hr : Rc (WG true X) v s) : Xh D v = Xh D s \/ ∃ t, (Xh D v, t) ∈ Xa (Xh D) X X.length /\ Rc (WG true X) t s := by
 have hlo : BK X = true := gEg (gE4 hv).1
 have hE := Ct true hlo
 induction hr with
 | refl => exact .inl rfl
 | @tail u w h1 h2 ih =>
  rcases ih with e | ⟨t, e1, e2⟩
  rotate_left
  ·exact .inr ⟨t, e1, e2.tail h2⟩
  by_cases ew : Xh D u = Xh D w
  ·exact .inl (e.trans ew)
  have hu := h1.lt hvl hE
  have hw := hE _ hu _ h2
  refine .inr ⟨Xh D w, ?_, (BR hv h hw).2.2.2.1⟩
  rw [Fc]
  rw [Gq hv] at h2
  exact ⟨u, hu, (0, (w : Int)), h2, rfl, by simpa using ew, by rw [e]; simp⟩
theorem TP {X : List (List Ar)} {D : List Int} (hv : BL X = true) (h : CpOk X D) {c t : Nat} (he : (c, t) ∈ Xa (Xh D) X X.length) : Rc (WG true X) c t := by
 have hlo : BK X = true := gEg (gE4 hv).1
 obtain ⟨s, hs, a, ha, h0, hne, e⟩ := Fc.1 he
 cases e
 have hg : X.getD s [] = X[s] := by rw [gE2, gE1 hs]; rfl
 have hb := (gE4 hlo).2.2.2 _ (gE6 hs) a (by rw [<- hg]; exact ha)
 have ht : a.2.toNat < X.length := by omega
 have hadj : a.2.toNat ∈ WG true X s := by
  rw [Gq hv]
  have : ((0 : Int), ((a.2.toNat : Nat) : Int)) = a := by
   rcases a with ⟨x, y⟩
   simp only at h0 hb ⊢
   rw [h0]; congr 1; omega
  rw [this]; exact ha
 exact ((BR hv h hs).2.2.2.1.trans (.one hadj)).trans (BR hv h ht).2.2.1
theorem P3.step {X : List (List Ar)} {D cl : List Int} {Q : List Nat} {O : List (List Ar)} {i : Nat} (hv : BL X = true) (h : CpOk X D) (hQ : HB (Xa (Xh D) X X.length) X.length (Xh D) Q) (hP : P3 (Xh D) cl X Q i O) {c : Nat} (hi : Q[i]? = some c) : P3 (Xh D) cl X Q (i + 1) (XD (XA X.length (Xa (Xh D) X X.length)) O c) := by
 have hlo : BK X = true := gEg (gE4 hv).1
 have hE := Ct true hlo
 obtain ⟨hnd, hmem, htop⟩ := hQ
 have hil : i < Q.length := (List.getElem?_eq_some_iff.1 hi).1
 have hcQ : c ∈ Q := gE9 hi
 obtain ⟨hc, hfc⟩ := (hmem c).1 hcQ
 have hcn : c ∉ Q.take i := fun hin => by
  obtain ⟨j, hj, e⟩ := List.mem_take_iff_getElem.1 hin
  have h1 := (List.getElem?_eq_some_iff.1 hi).2
  have h2 : Q[j]'(by omega) = Q[i] := e.trans h1.symm
  have := (List.getElem_inj hnd).1 h2
  omega
 have hsucc : Q.take (i + 1) = Q.take i ++ [c] := by
  rw [gE8 hil, (List.getElem?_eq_some_iff.1 hi).2]
 have hN : (XA X.length (Xa (Xh D) X X.length)).getD c [] = Xz (Xa (Xh D) X X.length) c := by rw [gE2, RO hc]; rfl
 have hself : (XD (XA X.length (Xa (Xh D) X X.length)) O c).getD c [] = Cx (O.getD c [] ++ XC O (Xz (Xa (Xh D) X X.length) c)) := by
  unfold XD
  rw [hN, gE2, gEc (by rw [hP.len]; exact hc)]; rfl
 have hoth : ∀ d, d ≠ c -> (XD (XA X.length (Xa (Xh D) X X.length)) O c).getD d [] = O.getD d [] := fun d hd => by
  unfold XD
  rw [gE2, gE5 (Ne.symm hd), <- gE2]
 have hin : ∀ x, x ∈ O.getD c [] ++ XC O (Xz (Xa (Xh D) X X.length) c) -> x ∈ XE cl X := fun x hx => by
  rcases List.mem_append.1 hx with hx | hx
  ·exact hP.sub _ _ hx
  obtain ⟨t, _, ht⟩ := List.mem_flatMap.1 hx
  exact hP.sub _ _ ht
 have hmemc : ∀ x, x ∈ O.getD c [] ++ XC O (Xz (Xa (Xh D) X X.length) c) ↔ ∃ s, s < X.length /\ Rc (WG true X) c s /\ x ∈ Xw cl X s := by
  intro x
  rw [List.mem_append, hP.raw c hc hcn]
  constructor
  rotate_left
  ·rintro ⟨s, hs, h1, h2⟩
   rcases Jw hv h hc h1 with e | ⟨t, he, h3⟩
   ·refine .inl (List.mem_flatMap.2 ⟨s, List.mem_filter.2 ⟨by simpa using hs, ?_⟩, h2⟩)
    rw [hfc] at e; simp [e]
   rw [hfc] at he
   refine .inr (List.mem_flatMap.2 ⟨(t : Int), NE.2 ⟨t, rfl, he⟩, ?_⟩)
   simp only [Int.toNat_natCast]
   obtain ⟨j, hj, hjt⟩ := htop i c hi _ he rfl
   have ht : t ∈ Q.take i := by
    rw [List.mem_take_iff_getElem]
    have h5 := List.getElem?_eq_some_iff.1 hjt
    exact ⟨j, by have := h5.1; omega, h5.2⟩
   exact ((hP.don t ht).2 x).2 ⟨s, hs, h3, h2⟩
  rintro (hx | hx)
  ·obtain ⟨s, h1, h2⟩ := List.mem_flatMap.1 hx
   have h3 := List.mem_filter.1 h1
   have hs : s < X.length := by simpa using h3.1
   have hfs : Xh D s = c := by simpa using h3.2
   refine ⟨s, hs, ?_, h2⟩
   rw [<- hfs]; exact (BR hv h hs).2.2.2.1
  obtain ⟨t, h1, h2⟩ := List.mem_flatMap.1 hx
  obtain ⟨t, rfl, he⟩ := NE.1 h1
  (try simp only [Int.toNat_natCast] at h2)
  obtain ⟨j, hj, hjt⟩ := htop i c hi _ he rfl
  have ht : t ∈ Q.take i := by
   rw [List.mem_take_iff_getElem]
   have h5 := List.getElem?_eq_some_iff.1 hjt
   exact ⟨j, by have := h5.1; omega, h5.2⟩
  obtain ⟨s, hs, h3, h4⟩ := ((hP.don t ht).2 x).1 h2
  exact ⟨s, hs, (TP hv h he).trans h3, h4⟩
 refine ⟨by rw [RP, hP.len], fun d => ?_, fun d x hx => ?_, fun d hd hdn => ?_, fun d hd => ?_⟩
 ·by_cases e : d = c
  rotate_left
  ·rw [hoth d e]; exact hP.sz d
  subst e
  rw [hself]
  refine Nat.le_trans (D8 (m := XE cl X) (Jv (AP _)) fun x hx => hin x ((C9 _ _).1 hx)) (RQ cl X)
 ·by_cases e : d = c
  rotate_left
  ·rw [hoth d e] at hx; exact hP.sub d x hx
  subst e
  rw [hself, C9] at hx
  exact hin x hx
 ·rw [hsucc] at hdn
  have e : d ≠ c := fun e => hdn (by rw [e]; simp)
  rw [hoth d e]
  exact hP.raw d hd fun h => hdn (List.mem_append_left _ h)
 rw [hsucc] at hd
 rcases List.mem_append.1 hd with h1 | h1
 ·have e : d ≠ c := fun e => hcn (by rw [<- e]; exact h1)
  rw [hoth d e]
  exact hP.don d h1
 have e : d = c := by simpa using h1
 subst e
 rw [hself]
 exact ⟨AP _, fun x => by rw [C9]; exact hmemc x⟩
theorem P3.done {X : List (List Ar)} {D cl : List Int} {Q : List Nat} {O : List (List Ar)} (hv : BL X = true) (h : CpOk X D) (hQ : HB (Xa (Xh D) X X.length) X.length (Xh D) Q) (hP : P3 (Xh D) cl X Q Q.length O) {s : Nat} (hs : s < X.length) : O.getD (Xh D s) [] = Wx (H5 X) cl s := by
 obtain ⟨_, p2, p3, p4, p5⟩ := BR hv h hs
 have hin : Xh D s ∈ Q.take Q.length := by rw [List.take_length]; exact (hQ.2.1 _).2 ⟨p2, p5⟩
 obtain ⟨h1, h2⟩ := hP.don _ hin
 refine C5 h1 (AP _) fun x => ?_
 have hE := Ct true (gEg (gE4 hv).1 : BK X = true)
 rw [h2]
 refine Iff.trans ?_ (DF (S := H5 X) (c := cl) (s := s) (x := x)).symm
 constructor
 rotate_left
 ·rintro ⟨a, ha, rfl⟩
  rcases (Hz hv hs).1 ha with ⟨h0, u, e, h3⟩ | ⟨h0, t, h3, h4⟩
  ·have hu := h3.lt hs hE
   refine ⟨u, hu, p4.trans h3, List.mem_cons.2 (.inl ?_)⟩
   rw [h0, e]; simp
  refine ⟨t, h3.lt hs hE, p4.trans h3, gEf _ (List.mem_filterMap.2 ⟨a, h4, ?_⟩)⟩
  unfold Xu
  rw [if_pos h0]
 rintro ⟨u, hu, h3, h4⟩
 have hsu := p3.trans h3
 rcases List.mem_cons.1 h4 with rfl | h4
 ·exact ⟨(0, (u : Int)), (Hz hv hs).2 (.inl ⟨rfl, u, rfl, hsu⟩), by simp⟩
 obtain ⟨a, ha, e⟩ := List.mem_filterMap.1 h4
 unfold Xu at e
 split at e
 rotate_left
 ·cases e
 rename_i h0
 cases e
 exact ⟨a, (Hz hv hs).2 (.inr ⟨h0, u, hsu, ha⟩), rfl⟩
end Go.Proofs.YthnkailnoobdoaaGreatDoor
