/- Lemmas. -/
import Derived.Test.YthnkailnoobdoaaGreatDoorG45
import Derived.Test.YthnkailnoobdoaaGreatDoorZk
import Derived.Test.YthnkailnoobdoaaGreatDoorMF
import Derived.Test.YthnkailnoobdoaaGreatDoorG11
import Derived.Test.YthnkailnoobdoaaGreatDoorMD
import Derived.Test.YthnkailnoobdoaaGreatDoorMlz
namespace Go.Proofs.YthnkailnoobdoaaGreatDoor
set_option linter.unusedVariables false
set_option linter.unusedSimpArgs false

abbrev Ed := Nat × Nat
def X8 (f : Nat -> Nat) (s : Nat) (a : Ar) : Option Ed := if a.1 = 0 /\ f s ≠ f a.2.toNat then some (f s, f a.2.toNat) else none
def X9 (f : Nat -> Nat) (s : Nat) (row : List Ar) : List Ed := row.filterMap (X8 f s)
def Xa (f : Nat -> Nat) (R : List (List Ar)) (k : Nat) : List Ed := (List.range k).flatMap fun s => X9 f s (R.getD s [])
theorem Pu (f : Nat -> Nat) (s : Nat) (row : List Ar) (a : Ar) : X9 f s (row ++ [a]) = X9 f s row ++ (X8 f s a).toList := by
 unfold X9
 rw [List.filterMap_append]
 cases h : X8 f s a <;> simp [h]
theorem KH (f : Nat -> Nat) (R : List (List Ar)) (k : Nat) : Xa f R (k + 1) = Xa f R k ++ X9 f k (R.getD k []) := by simp [Xa, List.range_succ]
theorem Fc {f : Nat -> Nat} {R : List (List Ar)} {k : Nat} {e : Ed} : e ∈ Xa f R k ↔ ∃ s, s < k /\ ∃ a ∈ R.getD s [], a.1 = 0 /\ f s ≠ f a.2.toNat /\ e = (f s, f a.2.toNat) := by
 unfold Xa X9
 simp only [List.mem_flatMap, List.mem_range, List.mem_filterMap]
 constructor
 rotate_left
 ·rintro ⟨s, hs, a, ha, h1, h2, rfl⟩
  exact ⟨s, hs, a, ha, by unfold X8; rw [if_pos ⟨h1, h2⟩]⟩
 rintro ⟨s, hs, a, ha, h⟩
 unfold X8 at h
 split at h
 rotate_left
 ·cases h
 rename_i hc
 injection h with h
 exact ⟨s, hs, a, ha, hc.1, hc.2, h.symm⟩
theorem Nl (f : Nat -> Nat) (R : List (List Ar)) : ∀ k, k <= R.length -> (Xa f R k).length <= AN (R.take k) := by
 intro k
 induction k with
 | zero => intro _; simp [Xa, AN]
 | succ k ih =>
  intro hk
  have h1 := ih (by omega)
  have h2 := BX (R := R) (k := k) hk
  have h3 : R.getD k [] = R[k] := by rw [gE2, gE1 hk]; rfl
  have h4 := List.length_filterMap_le (X8 f k) R[k]
  rw [KH, List.length_append, h3]
  unfold X9
  omega
def Xb (E : List Ed) (c : Nat) : Nat := E.countP fun e => e.1 == c
def Xc (n : Nat) (E : List Ed) : List Int := (List.range n).map fun c => (Xb E c : Int)
def Xd (E : List Ed) (t : Nat) : List Nat := (E.filter fun e => e.2 == t).map (·.1)
def En (n : Nat) (E : List Ed) : List (List Int) := (List.range n).map fun t => (Xd E t).map Int.ofNat
theorem Gp (n : Nat) (E : List Ed) : (Xc n E).length = n := by simp [Xc]
theorem HA {n : Nat} {E : List Ed} {c : Nat} (h : c < n) : (Xc n E)[c]? = some (Xb E c : Int) := by simp [Xc, h]
theorem FK (n : Nat) (E : List Ed) : (En n E).length = n := by simp [En]
theorem KI {n : Nat} {E : List Ed} {t : Nat} (h : t < n) : (En n E)[t]? = some ((Xd E t).map Int.ofNat) := by simp [En, h]
theorem Pv (E : List Ed) (c t d : Nat) : Xb (E ++ [(c, t)]) d = Xb E d + if c = d then 1 else 0 := by
 unfold Xb
 rw [List.countP_append]
 by_cases h : c = d <;> simp [h]
theorem Pw {n : Nat} {E : List Ed} {c t : Nat} (h : c < n) : (Xc n E).set c ((Xb E c : Int) + 1) = Xc n (E ++ [(c, t)]) := by
 refine List.ext_getElem (by simp [Xc]) fun i h1 h2 => ?_
 rw [Gp] at h2
 have e2 : (Xc n (E ++ [(c, t)]))[i]'(by rw [Gp]; exact h2) = (Xb (E ++ [(c, t)]) i : Int) := by simp [Xc]
 rw [e2, Pv, List.getElem_set]
 by_cases e : c = i
 ·subst e; simp
 rw [if_neg e, if_neg e]; simp [Xc]
theorem Px (E : List Ed) (c t d : Nat) : Xd (E ++ [(c, t)]) d = Xd E d ++ if t = d then [c] else [] := by
 unfold Xd
 rw [List.filter_append, List.map_append]
 by_cases h : t = d <;> simp [h]
theorem Nm {n : Nat} {E : List Ed} {c t : Nat} (h : t < n) : (En n E).set t ((Xd E t).map Int.ofNat ++ [(c : Int)]) = En n (E ++ [(c, t)]) := by
 refine List.ext_getElem (by simp [En]) fun i h1 h2 => ?_
 rw [FK] at h2
 have e2 : (En n (E ++ [(c, t)]))[i]'(by rw [FK]; exact h2) = (Xd (E ++ [(c, t)]) i).map Int.ofNat := by simp [En]
 rw [e2, Px, List.getElem_set]
 by_cases e : t = i
 ·subst e; simp
 rw [if_neg e, if_neg e]; simp [En]
theorem Nn (E : List Ed) (t : Nat) : (Xd E t).length <= E.length := by
 unfold Xd; rw [List.length_map]; exact List.length_filter_le _ _
theorem QD (E : List Ed) (c : Nat) : Xb E c <= E.length := List.countP_le_length
def Xe (E : List Ed) (P : List Nat) (c : Nat) : Nat := E.countP fun e => e.1 == c && decide (e.2 ∈ P)
theorem QE (E : List Ed) (P : List Nat) (c : Nat) : Xe E P c <= Xb E c := List.countP_mono_left fun e _ h => by simp only [Bool.and_eq_true] at h; exact h.1
theorem KJ {E : List Ed} {P : List Nat} {q : Nat} (h : q ∉ P) (c : Nat) : Xe E (P ++ [q]) c = Xe E P c + (Xd E q).countP (· == c) := by
 unfold Xe Xd
 rw [List.countP_map, List.countP_filter]
 induction E with
 | nil => rfl
 | cons e r ih =>
  simp only [List.countP_cons, ih]
  by_cases h1 : e.1 = c
  rotate_left
  ·simp [h1]
  by_cases h2 : e.2 = q
  rotate_left
  ·by_cases h3 : e.2 ∈ P <;> simp [h1, h2, h3]; omega
  have h3 : e.2 ∉ P := by rw [h2]; exact h
  simp [h1, h2, h]; omega
theorem RD (E : List Ed) (c : Nat) : Xe E [] c = 0 := by simp [Xe]
theorem EJ {γ : Type} {p q : γ -> Bool} : ∀ {l : List γ}, (∀ x ∈ l, p x = true -> q x = true) -> l.countP p = l.countP q -> ∀ x ∈ l, q x = true -> p x = true
 | [], _, _, x, hx, _ => by simp at hx
 | a :: r, h, e, x, hx, hq => by
  have hle := List.countP_mono_left (p := p) (q := q) (l := r) fun y hy => h y (gEf _ hy)
  rw [List.countP_cons, List.countP_cons] at e
  have ha := h a (by simp)
  rcases List.mem_cons.1 hx with rfl | hx
  ·cases hp : p x with
   | true => rfl
   | false => rw [hp, hq] at e; simp at e; omega
  ·refine EJ (fun y hy => h y (gEf _ hy)) ?_ x hx hq
   cases hp : p a with
   | true => rw [hp, ha hp] at e; simp at e; exact e
   | false =>
    rw [hp] at e
    cases hqa : q a with
    | true => rw [hqa] at e; simp at e; omega
    | false => rw [hqa] at e; simpa using e
theorem Py {E : List Ed} {P : List Nat} {c : Nat} (h : Xe E P c = Xb E c) : ∀ e ∈ E, e.1 = c -> e.2 ∈ P := by
 intro e he h1
 have := EJ (p := fun e : Ed => e.1 == c && decide (e.2 ∈ P)) (q := fun e : Ed => e.1 == c) (l := E) (fun x _ hx => by simp only [Bool.and_eq_true] at hx; exact hx.1) h e he (by simpa using h1)
 simp only [Bool.and_eq_true, decide_eq_true_eq] at this
 exact this.2
structure Kh (E : List Ed) (n : Nat) (f : Nat -> Nat) (i m : Nat) (Q : List Nat) (W : List Int) : Prop where
 len : W.length = n
 wt : ∀ c, c < n -> W[c]? = some (((Xb E c : Nat) : Int) - (Xe E (Q.take i) c : Nat) - (((Xd E (Q.getD i 0)).take m).countP (· == c) : Nat))
 nd : Q.Nodup
 rep : ∀ c ∈ Q, c < n /\ f c = c
 zero : ∀ c, c < n -> f c = c -> (c ∈ Q ↔ W[c]? = some 0)
 topo : ∀ (j c : Nat), Q[j]? = some c -> ∀ e ∈ E, e.1 = c -> ∃ j', j' < j /\ Q[j']? = some e.2
section
variable {E : List Ed} {n : Nat} {f : Nat -> Nat} {i m : Nat} {Q : List Nat} {W : List Int}
theorem Kh.qlen (h : Kh E n f i m Q W) : Q.length <= n := by
 have := h.nd.length_le_of_subset (l₂ := List.range n) fun q hq => List.mem_range.2 (h.rep q hq).1
 simpa using this
theorem Kh.step (h : Kh E n f i m Q W) (hi : i < Q.length) (hE : ∀ e ∈ E, e.1 < n /\ f e.1 = e.1) {c : Nat} (hc : (Xd E (Q.getD i 0))[m]? = some c) :
  c < n /\ f c = c /\ ∃ w : Int, W[c]? = some w /\ 1 <= w /\ w <= Xb E c /\ (w ≠ 1 -> Kh E n f i (m + 1) Q (W.set c (w - 1))) /\ (w = 1 -> Kh E n f i (m + 1) (Q ++ [c]) (W.set c (w - 1))) := by
 have hqi : Q[i]? = some (Q.getD i 0) := by rw [gE2, gE1 hi]; rfl
 have hwt := h.wt
 generalize hq : Q.getD i 0 = q at *
 have hmem : c ∈ Xd E q := gE9 hc
 have hce : ∃ e ∈ E, e.2 = q /\ e.1 = c := by
  obtain ⟨e, he, h1⟩ := List.mem_map.1 hmem
  have := List.mem_filter.1 he
  exact ⟨e, this.1, by simpa using this.2, h1⟩
 obtain ⟨e0, he0, he1, he2⟩ := hce
 have hcn := hE e0 he0
 rw [he2] at hcn
 obtain ⟨hc1, hc2⟩ := hcn
 have hml := (List.getElem?_eq_some_iff.1 hc).1
 have hcv := (List.getElem?_eq_some_iff.1 hc).2
 have hqn : q ∉ Q.take i := fun hin => by
  obtain ⟨j, hj, hj2⟩ := List.mem_take_iff_getElem.1 hin
  have hji : j < i := by have := List.length_take_le i Q; omega
  have e1 : Q[j] = Q[i] := by rw [hj2, (List.getElem?_eq_some_iff.1 hqi).2]
  exact List.pairwise_iff_getElem.1 h.nd j i (by omega) hi hji e1
 have htk : Q.take (i + 1) = Q.take i ++ [q] := by rw [gE8 hi, (List.getElem?_eq_some_iff.1 hqi).2]
 have hsn := KJ (E := E) hqn
 have hle := fun d => QE E (Q.take (i + 1)) d
 rw [htk] at hle
 have htm : (Xd E q).take (m + 1) = (Xd E q).take m ++ [c] := by rw [gE8 hml, hcv]
 have hcnt : ∀ d, ((Xd E q).take (m + 1)).countP (· == d) = ((Xd E q).take m).countP (· == d) + if c = d then 1 else 0 := fun d => by
  rw [htm, List.countP_append]
  by_cases e : c = d <;> simp [e]
 have hsub : ∀ d k, ((Xd E q).take k).countP (· == d) <= (Xd E q).countP (· == d) := fun d k => (List.take_sublist k _).countP_le
 have hw := hwt c hc1
 have hb1 := hcnt c
 rw [if_pos rfl] at hb1
 have hb2 := hsub c (m + 1)
 have hb3 := hle c
 rw [hsn] at hb3
 refine ⟨hc1, hc2, _, hw, by omega, by omega, fun hw1 => ?_, fun hw1 => ?_⟩
 ·refine ⟨by simp [h.len], fun d hd => ?_, h.nd, h.rep, fun d hd hd2 => ?_, h.topo⟩
  ·rw [hq, List.getElem?_set, hcnt d]
   by_cases e : c = d
   rotate_left
   ·rw [if_neg e, if_neg e, hwt d hd, Nat.add_zero]
   subst e
   rw [if_pos rfl, if_pos (by rw [h.len]; exact hc1), if_pos rfl]
   congr 1; omega
  rw [List.getElem?_set]
  by_cases e : c = d
  rotate_left
  ·rw [if_neg e]; exact h.zero d hd hd2
  subst e
  rw [if_pos rfl, if_pos (by rw [h.len]; exact hc1), h.zero c hd hd2, hw]
  constructor
  ·intro h0; injection h0 with h0; omega
  intro h0; injection h0 with h0; omega
 have hcq : c ∉ Q := fun hin => by
  have := (h.zero c hc1 hc2).1 hin
  rw [hw] at this
  injection this with this
  omega
 have htk2 : (Q ++ [c]).take i = Q.take i := List.take_append_of_le_length (by omega)
 have hgq : (Q ++ [c]).getD i 0 = q := by rw [gE2, gEa hi, hqi]; rfl
 refine ⟨by simp [h.len], fun d hd => ?_, ?_, fun d hd => ?_, fun d hd hd2 => ?_, fun j d hj e he h1 => ?_⟩
 ·rw [htk2, hgq, List.getElem?_set, hcnt d]
  by_cases e : c = d
  rotate_left
  ·rw [if_neg e, if_neg e, hwt d hd, Nat.add_zero]
  subst e
  rw [if_pos rfl, if_pos (by rw [h.len]; exact hc1), if_pos rfl]
  congr 1; omega
 ·rw [List.nodup_append]
  exact ⟨h.nd, by simp, fun a ha b hb => by simp at hb; subst hb; intro e; subst e; exact hcq ha⟩
 ·rcases List.mem_append.1 hd with h1 | h1
  ·exact h.rep d h1
  simp at h1; subst h1; exact ⟨hc1, hc2⟩
 ·rw [List.getElem?_set, List.mem_append, List.mem_singleton]
  by_cases e : c = d
  rotate_left
  ·rw [if_neg e, <- h.zero d hd hd2]
   exact ⟨fun h1 => h1.elim id fun h2 => absurd h2.symm e, .inl⟩
  subst e
  rw [if_pos rfl, if_pos (by rw [h.len]; exact hc1)]
  exact ⟨fun _ => by congr 1; omega, fun _ => .inr rfl⟩
 rcases Nat.lt_or_ge j Q.length with hl | hl
 ·rw [gEa hl] at hj
  obtain ⟨j', a1, a2⟩ := h.topo j d hj e he h1
  exact ⟨j', a1, by rw [gEa (List.getElem?_eq_some_iff.1 a2).1]; exact a2⟩
 rw [gEb hl] at hj
 have hj0 : j = Q.length := by
  have := (List.getElem?_eq_some_iff.1 hj).1
  simp at this; omega
 subst hj0
 simp at hj
 subst hj
 have hfull : Xe E (Q.take i ++ [q]) c = Xb E c := by rw [hsn]; omega
 have hin := Py hfull e he h1
 rw [<- htk] at hin
 obtain ⟨j', hj', hj2⟩ := List.mem_take_iff_getElem.1 hin
 exact ⟨j', by omega, by rw [gEa (by omega), gE1 (by omega), hj2]⟩
theorem Kh.next (h : Kh E n f i m Q W) (hi : i < Q.length) (hm : (Xd E (Q.getD i 0)).length <= m) : Kh E n f (i + 1) 0 Q W := by
 have hqi : Q[i]? = some (Q.getD i 0) := by rw [gE2, gE1 hi]; rfl
 refine ⟨h.len, fun c hc => ?_, h.nd, h.rep, h.zero, h.topo⟩
 have hqn : Q.getD i 0 ∉ Q.take i := fun hin => by
  obtain ⟨j, hj, hj2⟩ := List.mem_take_iff_getElem.1 hin
  have hji : j < i := by have := List.length_take_le i Q; omega
  have e1 : Q[j] = Q[i] := by rw [hj2, (List.getElem?_eq_some_iff.1 hqi).2]
  exact List.pairwise_iff_getElem.1 h.nd j i (by omega) hi hji e1
 have htk : Q.take (i + 1) = Q.take i ++ [Q.getD i 0] := by rw [gE8 hi, (List.getElem?_eq_some_iff.1 hqi).2]
 rw [h.wt c hc, htk, KJ hqn, gE7 hm]
 congr 1
 simp only [List.take_zero, List.countP_nil]
 omega
end
def HB (E : List Ed) (n : Nat) (f : Nat -> Nat) (Q : List Nat) : Prop := Q.Nodup /\ (∀ c, c ∈ Q ↔ c < n /\ f c = c) /\ ∀ (j c : Nat), Q[j]? = some c -> ∀ e ∈ E, e.1 = c -> ∃ j', j' < j /\ Q[j']? = some e.2
theorem Kh.done {E : List Ed} {n : Nat} {f : Nat -> Nat} {Q : List Nat} {W : List Int} (h : Kh E n f Q.length 0 Q W) (rk : Nat -> Nat) (hE : ∀ e ∈ E, e.2 < n /\ f e.2 = e.2 /\ rk e.2 < rk e.1) : HB E n f Q := by
 refine ⟨h.nd, fun c => ⟨h.rep c, ?_⟩, h.topo⟩
 have key : ∀ k c, rk c <= k -> c < n -> f c = c -> c ∈ Q := by
  intro k
  induction k with
  | zero =>
   intro c hk hc hf
   rw [h.zero c hc hf, h.wt c hc, List.take_length]
   have h0 : Xb E c = 0 := by
    unfold Xb
    rw [List.countP_eq_zero]
    intro e he h1
    have := (hE e he).2.2
    have h2 : e.1 = c := by simpa using h1
    rw [h2] at this; omega
   have h1 := QE E Q c
   rw [List.take_zero, List.countP_nil]
   congr 1; omega
  | succ k ih =>
   intro c hk hc hf
   rw [h.zero c hc hf, h.wt c hc, List.take_length]
   have hall : ∀ e ∈ E, e.1 = c -> e.2 ∈ Q := fun e he h1 => by
    obtain ⟨a1, a2, a3⟩ := hE e he
    rw [h1] at a3
    exact ih e.2 (by omega) a1 a2
   have h1 : Xe E Q c = Xb E c := by
    unfold Xe Xb
    refine List.countP_congr fun e he => ?_
    simp only [Bool.and_eq_true, decide_eq_true_eq, beq_iff_eq]
    exact ⟨fun h => h.1, fun h => ⟨h, hall e he h⟩⟩
   rw [h1, List.take_zero, List.countP_nil]
   congr 1; omega
 exact fun ⟨h1, h2⟩ => key _ c (Nat.le_refl _) h1 h2
def Xf (n : Nat) (r : List Ar) : List Ar := r.map fun a => (a.1, a.2 + (n : Int))
def Xg (n : Nat) (R : List (List Ar)) : List (List Ar) := R.map (Xf n)
def CL (A R : List (List Ar)) : List (List Ar) := A ++ Xg A.length R
theorem C2 (n : Nat) (r : List Ar) : (Xf n r).length = r.length := by simp [Xf]
theorem Fd (n : Nat) (R : List (List Ar)) : (Xg n R).length = R.length := by simp [Xg]
theorem Ck (A R : List (List Ar)) : (CL A R).length = A.length + R.length := by simp [CL, Fd]
theorem Pz (R : List (List Ar)) : CL [] R = R := by
 have : Xf 0 = id := by funext r; simp [Xf]
 simp [CL, Xg, this]
theorem TC {A R : List (List Ar)} {s : Nat} (h : s < A.length) : (CL A R).getD s [] = A.getD s [] := by
 rw [gE2, gE2, CL, gEa h]
theorem TD (A R : List (List Ar)) (s : Nat) : (CL A R).getD (A.length + s) [] = Xf A.length (R.getD s []) := by
 rw [gE2, gE2, CL, gEb (by omega), Nat.add_sub_cancel_left, Xg, List.getElem?_map]
 cases R[s]? <;> simp [Xf]
theorem TE (n : Nat) (r : List Ar) : Ch true (Xf n r) = Xf n (Ch true r) := by
 simp [Ch, Xf, List.takeWhile_map, Function.comp_def]
theorem KK {A R : List (List Ar)} {s : Nat} (h : s < A.length) : WG true (CL A R) s = WG true A s := by unfold WG; rw [TC h]
theorem KL {A R : List (List Ar)} (hlo : BK R = true) (s : Nat) : WG true (CL A R) (A.length + s) = (WG true R s).map (A.length + ·) := by
 unfold WG
 rw [TD, TE]
 unfold Xf
 rw [List.map_map, List.map_map]
 refine List.map_congr_left fun a ha => ?_
 have := (IA hlo (k := s) a ha).1
 simp only [Function.comp_apply]
 omega
theorem IB {A R : List (List Ar)} (hA : ∀ x, x < A.length -> ∀ y ∈ WG true A x, y < A.length) {s u : Nat} (hs : s < A.length) : Rc (WG true (CL A R)) s u ↔ Rc (WG true A) s u := by
 constructor
 rotate_left
 ·intro h
  induction h with
  | refl => exact .refl _
  | tail h1 h2 ih =>
   refine ih.tail ?_
   rwa [KK (h1.lt hs hA)]
 intro h
 induction h with
 | refl => exact .refl _
 | tail h1 h2 ih =>
  refine ih.tail ?_
  rwa [KK (ih.lt hs hA)] at h2
theorem IC {A R : List (List Ar)} (hlo : BK R = true) {s u : Nat} : Rc (WG true (CL A R)) (A.length + s) u ↔ ∃ v, u = A.length + v /\ Rc (WG true R) s v := by
 constructor
 rotate_left
 ·rintro ⟨v, rfl, h⟩
  induction h with
  | refl => exact .refl _
  | tail h1 h2 ih =>
   refine ih.tail ?_
   rw [KL hlo]
   exact List.mem_map.2 ⟨_, h2, rfl⟩
 intro h
 generalize hx : A.length + s = x at h
 induction h with
 | refl => exact ⟨s, hx.symm, .refl _⟩
 | tail h1 h2 ih =>
  obtain ⟨v, e, h3⟩ := ih
  rw [e, KL hlo] at h2
  obtain ⟨w, hw, rfl⟩ := List.mem_map.1 h2
  exact ⟨w, rfl, h3.tail hw⟩
theorem UG {A R : List (List Ar)} (hA : ∀ x, x < A.length -> ∀ y ∈ WG true A x, y < A.length) {s : Nat} (hs : s < A.length) : Dv (CL A R) s ↔ Dv A s := by
 constructor
 rotate_left
 ·rintro ⟨g, h1, w, h2, h3⟩
  have hg := h1.lt hs hA
  exact ⟨g, (IB hA hs).2 h1, w, by rwa [KK hg], (IB hA (hA _ hg _ h2)).2 h3⟩
 rintro ⟨g, h1, w, h2, h3⟩
 rw [IB hA hs] at h1
 have hg := h1.lt hs hA
 rw [KK hg] at h2
 exact ⟨g, h1, w, h2, (IB hA (hA _ hg _ h2)).1 h3⟩
theorem UH {A R : List (List Ar)} (hlo : BK R = true) {s : Nat} : Dv (CL A R) (A.length + s) ↔ Dv R s := by
 constructor
 rotate_left
 ·rintro ⟨g, h1, w, h2, h3⟩
  refine ⟨A.length + g, (IC hlo).2 ⟨g, rfl, h1⟩, A.length + w, ?_, (IC hlo).2 ⟨g, rfl, h3⟩⟩
  rw [KL hlo]
  exact List.mem_map.2 ⟨w, h2, rfl⟩
 rintro ⟨g, h1, w, h2, h3⟩
 obtain ⟨g, rfl, p1⟩ := (IC hlo).1 h1
 rw [KL hlo] at h2
 obtain ⟨w, p2, rfl⟩ := List.mem_map.1 h2
 obtain ⟨g2, e, p3⟩ := (IC hlo).1 h3
 have : g2 = g := by omega
 subst this
 exact ⟨_, p1, w, p2, p3⟩
def CpOk (R : List (List Ar)) (D : List Int) : Prop := D.length = R.length /\ ∀ v, v < R.length -> Least (WG true R) v (WF D (-1) v)
theorem Np {D : List Int} {s : Nat} {x : Int} (h : D[s]? = some x) : WF D (-1) s = x := by unfold WF; rw [h]; rfl
theorem CpOk.both {A R : List (List Ar)} {C D : List Int} (hA : ∀ x, x < A.length -> ∀ y ∈ WG true A x, y < A.length) (hlo : BK R = true) (h1 : CpOk A C) (h2 : CpOk R D) : CpOk (CL A R) (C ++ D.map (· + (A.length : Int))) := by
 refine ⟨by rw [Ck, List.length_append, List.length_map, h1.1, h2.1], fun v hv => ?_⟩
 rw [Ck] at hv
 rcases Nat.lt_or_ge v A.length with h | h
 ·have e : WF (C ++ D.map (· + (A.length : Int))) (-1) v = WF C (-1) v := by
   unfold WF; rw [gEa (by rw [h1.1]; exact h)]
  rw [e]
  obtain ⟨m, a1, a2, a3, a4⟩ := h1.2 v h
  have hm := a2.lt h hA
  refine ⟨m, a1, (IB hA h).2 a2, (IB hA hm).2 a3, fun u b1 b2 => ?_⟩
  have b1 := (IB hA h).1 b1
  exact a4 u b1 ((IB hA (b1.lt h hA)).1 b2)
 obtain ⟨s, rfl⟩ : ∃ s, v = A.length + s := ⟨v - A.length, by omega⟩
 have hs : s < R.length := by omega
 obtain ⟨m, a1, a2, a3, a4⟩ := h2.2 s hs
 have hsD : s < D.length := by rw [h2.1]; exact hs
 have e : WF (C ++ D.map (· + (A.length : Int))) (-1) (A.length + s) = WF D (-1) s + (A.length : Int) := by
  unfold WF
  rw [gEb (by rw [h1.1]; omega), h1.1, Nat.add_sub_cancel_left, List.getElem?_map, gE1 hsD]; rfl
 rw [e, a1]
 refine ⟨A.length + m, by omega, (IC hlo).2 ⟨m, rfl, a2⟩, (IC hlo).2 ⟨s, rfl, a3⟩, fun u b1 b2 => ?_⟩
 obtain ⟨u, rfl, p1⟩ := (IC hlo).1 b1
 obtain ⟨s2, e2, p2⟩ := (IC hlo).1 b2
 have : s2 = s := by omega
 subst this
 have := a4 u p1 p2
 omega
theorem DvL.both {A R : List (List Ar)} {B C : List Bool} (hA : ∀ x, x < A.length -> ∀ y ∈ WG true A x, y < A.length) (hlo : BK R = true) (h1 : DvL A B) (h2 : DvL R C) : DvL (CL A R) (B ++ C) := by
 refine ⟨by rw [Ck, List.length_append, h1.1, h2.1], fun v hv => ?_⟩
 rw [Ck] at hv
 rcases Nat.lt_or_ge v A.length with h | h
 ·rw [gE2, gEa (by rw [h1.1]; exact h), <- gE2, h1.2 v h, UG hA h]
 obtain ⟨s, rfl⟩ : ∃ s, v = A.length + s := ⟨v - A.length, by omega⟩
 rw [gE2, gEb (by rw [h1.1]; omega), h1.1, Nat.add_sub_cancel_left, <- gE2, h2.2 s (by omega), UH hlo]
theorem Gq {X : List (List Ar)} (hv : BL X = true) {n m : Nat} : m ∈ WG true X n ↔ (0, (m : Int)) ∈ X.getD n [] := by
 rw [<- N9 true hv]
 unfold M5 Hy
 simp only [List.mem_map, List.mem_filter, Bool.not_true, Bool.false_or, beq_iff_eq]
 constructor
 rotate_left
 ·intro h
  exact ⟨_, ⟨h, rfl⟩, by simp⟩
 rintro ⟨a, ⟨h1, h2⟩, rfl⟩
 have h3 : 0 <= a.2 := by
  rcases Nat.lt_or_ge n X.length with h | h
  rotate_left
  ·rw [gE2, List.getElem?_eq_none h] at h1; simp at h1
  rw [gE2, gE1 h, Option.getD_some] at h1
  have := (gE4 hv).1.2.2.2 _ (gE6 h) a h1
  omega
 have e : ((0 : Int), ((a.2.toNat : Nat) : Int)) = a := by
  rcases a with ⟨x, y⟩
  simp only at h2 h3 ⊢
  rw [h2]; congr 1; omega
 rw [e]; exact h1
def Xh (D : List Int) (v : Nat) : Nat := (D.getD v 0).toNat
theorem BR {X : List (List Ar)} {D : List Int} (hv : BL X = true) (h : CpOk X D) {v : Nat} (hs : v < X.length) : D[v]? = some (Xh D v : Int) /\ Xh D v < X.length /\ Rc (WG true X) v (Xh D v) /\ Rc (WG true X) (Xh D v) v /\ Xh D (Xh D v) = Xh D v := by
 have hlo : BK X = true := gEg (gE4 hv).1
 have hE := Ct true hlo
 obtain ⟨m, a1, a2, a3, a4⟩ := h.2 v hs
 have hg : D[v]? = some (m : Int) := by
  have : v < D.length := by rw [h.1]; exact hs
  unfold WF at a1
  rw [gE1 this] at a1 ⊢
  rw [<- a1]; rfl
 have e : Xh D v = m := by unfold Xh; rw [gE2, hg]; rfl
 have hm := a2.lt hs hE
 obtain ⟨m2, b1, b2, b3, b4⟩ := h.2 m hm
 have e2 : Xh D m = m := by
  have hg2 : D[m]? = some (m2 : Int) := by
   have : m < D.length := by rw [h.1]; exact hm
   unfold WF at b1
   rw [gE1 this] at b1 ⊢
   rw [<- b1]; rfl
  have c1 := a4 m2 (a2.trans b2) (b3.trans a3)
  have c2 := b4 m (.refl _) (.refl _)
  unfold Xh; rw [gE2, hg2]
  show ((m2 : Int)).toNat = m
  omega
 rw [e]
 exact ⟨hg, hm, a2, a3, e2⟩
theorem TF {X : List (List Ar)} {D : List Int} (hv : BL X = true) (h : CpOk X D) {v w : Nat} (hs : v < X.length) (h1 : Rc (WG true X) v w) (h2 : Rc (WG true X) w v) : Xh D v = Xh D w := by
 have hlo : BK X = true := gEg (gE4 hv).1
 have hw := h1.lt hs (Ct true hlo)
 obtain ⟨m, a1, a2, a3, a4⟩ := h.2 v hs
 obtain ⟨k, b1, b2, b3, b4⟩ := h.2 w hw
 have c1 := a4 k (h1.trans b2) (b3.trans h2)
 have c2 := b4 m (h2.trans a2) (a3.trans h1)
 have d1 : WF D (-1) v = WF D (-1) w := by rw [a1, b1]; omega
 have e1 := (BR hv h hs).1
 have e2 := (BR hv h hw).1
 rw [Np e1, Np e2] at d1
 omega
noncomputable def Xi (X : List (List Ar)) (v : Nat) : Nat := (List.range X.length).countP fun u => @decide (Rc (WG true X) v u) (Classical.propDecidable _)
theorem ID {γ : Type} {p q : γ -> Bool} : ∀ {l : List γ}, (∀ x ∈ l, p x = true -> q x = true) -> ∀ x ∈ l, q x = true -> p x = false -> l.countP p < l.countP q
 | a :: l, h, x, hx, h1, h2 => by
  have hm : l.countP p <= l.countP q := List.countP_mono_left fun y hy => h y (gEf _ hy)
  have ha := h a List.mem_cons_self
  rw [List.countP_cons, List.countP_cons]
  rcases List.mem_cons.1 hx with rfl | hx
  ·rw [h1, h2]; simp; omega
  ·have ih := ID (fun y hy => h y (gEf _ hy)) x hx h1 h2
   cases hp : p a with
   | false => simp; split <;> omega
   | true => rw [ha hp]; simp; omega
theorem PA {X : List (List Ar)} {D : List Int} (hv : BL X = true) (h : CpOk X D) : ∀ e ∈ Xa (Xh D) X X.length, (e.1 < X.length /\ Xh D e.1 = e.1) /\ e.2 < X.length /\ Xh D e.2 = e.2 /\ Xi X e.2 < Xi X e.1 := by
 intro e he
 have hlo : BK X = true := gEg (gE4 hv).1
 have hE := Ct true hlo
 obtain ⟨s, hs, a, ha, h0, hne, rfl⟩ := Fc.1 he
 have hg : X.getD s [] = X[s] := by rw [gE2, gE1 hs]; rfl
 rw [hg] at ha
 have hb := (gE4 hlo).2.2.2 _ (gE6 hs) a ha
 have ht : a.2.toNat < X.length := by omega
 have hadj : a.2.toNat ∈ WG true X s := by
  rw [Gq hv, hg]
  have : ((0 : Int), ((a.2.toNat : Nat) : Int)) = a := by
   rcases a with ⟨x, y⟩
   simp only at h0 hb ⊢
   rw [h0]; congr 1; omega
  rw [this]; exact ha
 obtain ⟨_, p2, p3, p4, p5⟩ := BR hv h hs
 obtain ⟨_, q2, q3, q4, q5⟩ := BR hv h ht
 refine ⟨⟨p2, p5⟩, q2, q5, ?_⟩
 have hst : Rc (WG true X) (Xh D s) (Xh D a.2.toNat) := (p4.trans (.one hadj)).trans q3
 unfold Xi
 refine ID (fun u _ hu => ?_) (Xh D s) (List.mem_range.2 p2) (@decide_eq_true _ (Classical.propDecidable _) (.refl _)) ?_
 ·simp only [decide_eq_true_eq] at hu ⊢
  exact hst.trans hu
 refine @decide_eq_false _ (Classical.propDecidable _) fun hc => hne ?_
 refine TF hv h hs (.one hadj) ?_
 exact (q3.trans hc).trans p4
theorem Nq {A R : List (List Ar)} (hA : A = [] \/ BL A = true) (hR : BL R = true) (h1 : A.length + R.length <= T3) (h2 : AN A + AN R <= T4) : BL (CL A R) = true := by
 have h := gE4 hR
 have hA2 : ∀ r ∈ A, (∀ a ∈ r, 0 <= a.1 /\ a.1 <= 1025 /\ 0 <= a.2 /\ a.2 < (A.length : Int)) /\ SortA r := by
  rcases hA with rfl | hA
  ·intro r hr; simp at hr
  have h3 := gE4 hA
  exact fun r hr => ⟨h3.1.2.2.2 r hr, h3.2 r hr⟩
 refine gEg ⟨⟨by rw [Ck]; have := h.1.1; omega, by rw [Ck]; exact h1, ?_, fun r hr a ha => ?_⟩, fun r hr => ?_⟩
 ·have : AN (CL A R) = AN A + AN R := by
   unfold AN CL Xg
   rw [List.map_append, List.sum_append, List.map_map]
   have : (List.length ∘ Xf A.length) = List.length := by funext r; exact C2 _ r
   rw [this]
  omega
 ·rw [Ck]
  rcases List.mem_append.1 hr with h3 | h3
  ·have := (hA2 r h3).1 a ha; omega
  obtain ⟨q, hq, rfl⟩ := List.mem_map.1 h3
  obtain ⟨b, hb, rfl⟩ := List.mem_map.1 ha
  have := h.1.2.2.2 q hq b hb
  simp only
  omega
 rcases List.mem_append.1 hr with h3 | h3
 ·exact (hA2 r h3).2
 obtain ⟨q, hq, rfl⟩ := List.mem_map.1 h3
 have h4 := h.2 q hq
 unfold SortA Xf at *
 rw [List.pairwise_map]
 refine h4.imp fun {a b} hab => ?_
 rw [CX] at hab ⊢
 simp only
 omega
open Go.RowKit
theorem DlC.uniq {R : List (List Ar)} {c d : List Int} (h1 : DlC R c) (h2 : DlC R d) : c = d := by
 obtain ⟨B, b1, b2⟩ := h1
 obtain ⟨B', b3, b4⟩ := h2
 have e := b1.uniq b3
 subst e
 exact b2.uniq b4
theorem PB {X : List (List Ar)} : ∀ r ∈ X, r.length <= AN X := fun r hr => by
 obtain ⟨j, hj, rfl⟩ := List.getElem_of_mem hr
 have h := EH X j
 rw [gE2, gE1 hj, Option.getD_some] at h
 exact h
theorem EK {B : Nat} : ∀ {X : List (List Ar)}, (∀ r ∈ X, r.length <= B) -> AN X <= X.length * B
 | [], _ => by simp [AN]
 | x :: r, h => by
  have h1 := h x (by simp)
  have h2 := EK (X := r) fun q hq => h q (gEf _ hq)
  simp only [AN, List.map_cons, List.sum_cons, List.length_cons, Nat.succ_mul] at h2 ⊢
  omega
theorem QF {k m : Nat} {R : List (List Ar)} (h : OkSys k m R) (hm : m = R.length) (h1 : 1 <= R.length) (hn : R.length <= 20) (hk : k <= 10) : BL R = true /\ AN R <= 200 /\ ∀ r ∈ R, r.length <= 10 := by
 subst hm
 have hr : ∀ r ∈ R, r.length <= 10 := fun r hr => Nat.le_trans (h.2 r hr).2.1 hk
 have ht := EK hr
 exact ⟨gEg ⟨⟨h1, by show R.length <= 16384; omega, by show AN R <= 262144; omega, fun r hr => (h.2 r hr).2.2⟩, fun r hr => (h.2 r hr).1⟩, by omega, hr⟩
theorem RE {A R : List (List Ar)} {B : Nat} (h1 : ∀ r ∈ A, r.length <= B) (h2 : ∀ r ∈ R, r.length <= B) : ∀ r ∈ CL A R, r.length <= B := fun r hr => by
 unfold CL Xg at hr
 rcases List.mem_append.1 hr with h | h
 ·exact h1 r h
 ·obtain ⟨q, hq, rfl⟩ := List.mem_map.1 h
  rw [C2]
  exact h2 q hq
set_option maxRecDepth 100000
def Gr : List Int := [0, 0, 2, 3, 4, 2, 3, 1, 2, 5, 1025]
theorem PD : ∀ x ∈ Gr, 0 <= x /\ x <= 1025 := by decide
theorem Fe : Gr.length = 11 := rfl
theorem Jr : Gr.take 11 = Gr := rfl
theorem DU (T : List Int) (hT : TpOk T) (a : Nat) (ha : a <= 100000000) : FC Tryz.prog 23 [.a (.c (.p 0 0))] [tape T a] (fun r o => o = [tape T (a + 1)] /\ ∃ v : Int, r = .i v /\ 0 <= v /\ v <= 1025) := by
 refine A9 Tryz.func23 rfl (by rw [Tryz.ntmps23]; simp) ?_
 rw [Tryz.ntmps23]
 simp only [Bz, tape]
 (refine Wf (an @List.set_cons_zero.{0} @List.set_cons_succ.{0}) ?_;(repeat clear hK K);repeat refine kq fun K hK=>?_)
 (refine D4 (BA (r := ⟨3, 1, true, A7 Gr⟩) 1 (Aa Gr) rfl (Gd _) (show 0 < (1 : Nat) by omega)) ?_; simp only [ST.frz, A0.frz, AV.frz, C.frz, Nat.le_refl, List.set_cons_zero, List.set_cons_succ, go_sem, Yi, Fe, Az, Jr])
 (refine Wf (an @Yi @Fe) ?_;(repeat clear hK K);repeat refine kq fun K hK=>?_)
 (refine Ad rfl ?_; intro K1 hK1; refine ct [0] (BW T a 11 hT (by omega) (by omega)) ?_ ?_)
 ·rintro _ _ ⟨rfl, v, rfl, _⟩; rfl
 rintro _ _ ⟨rfl, v, rfl, hv⟩
 (simp only [Aq, Bc, tape, List.append_nil, List.nil_append, List.length_map, go_sem]; refine hK1 _ ?_; clear hK1 K1)
 have hv2 : v < Gr.length := by rw [Fe]; omega
 (refine Wf (an @Yi (Aj (gE1 hv2))) ?_;(repeat clear hK K);repeat refine kq fun K hK=>?_)
 refine Wp [0] Tryz.results23 ?_
 exact ⟨_, rfl, PD _ (gE6 hv2)⟩

theorem KM (m : Nat) : (List.replicate m (C.o (2, 40) [])).map VH = AC (List.replicate m []) := by
 simp [AC, VH, At]
theorem IE (m : Nat) : OkSys 3 m (List.replicate m []) := ⟨by simp, fun r hr => by
 rw [List.mem_replicate] at hr
 rw [hr.2]
 exact ⟨by simp [SortA], by simp, by simp⟩⟩

def KN (R : List (List Ar)) : Ob := .r ⟨25, 1, false, [.t 1 (Ai R)]⟩
def Xj (k : Nat) : C -> C
 | .o k cs => .t k.1 cs
 | .v (.slice none 0 0) => .t k []
 | c => c
def Xk : List Nat -> List C -> List C
 | k :: ks, c :: cs => Xj k c :: Xk ks cs
 | [], c :: cs => VH c :: Xk [] cs
 | _, [] => []
theorem Nr (k : Nat) (c : C) : Xj k c = VH c \/ (c = .v (.slice none 0 0) /\ Xj k c = .t k []) := by
 unfold Xj
 split
 ·exact .inl rfl
 ·exact .inr ⟨rfl, rfl⟩
 rename_i h1 h2
 refine .inl ?_
 cases c <;> first | rfl | exact absurd rfl (h1 _ _)
theorem Ns {ks : List Nat} {cs : List C} {j : Nat} {c : C} (h : (Xk ks cs)[j]? = some c) : ∃ c0, cs[j]? = some c0 /\ (c = VH c0 \/ ∃ k, c0 = .v (.slice none 0 0) /\ c = .t k []) := by
 induction cs generalizing ks j with
 | nil => cases ks <;> simp [Xk] at h
 | cons x r ih =>
  cases ks with
  | nil =>
   cases j with
   | zero => simp [Xk] at h; exact ⟨x, rfl, .inl h.symm⟩
   | succ j => simp [Xk] at h; obtain ⟨c0, h1, h2⟩ := ih h; exact ⟨c0, by simpa using h1, h2⟩
  | cons k ks =>
   cases j with
   | zero =>
    simp [Xk] at h
    refine ⟨x, rfl, ?_⟩
    rcases Nr k x with e | ⟨e1, e2⟩
    ·exact .inl (by rw [<- h, e])
    exact .inr ⟨k, e1, by rw [<- h, e2]⟩
   | succ j => simp [Xk] at h; obtain ⟨c0, h1, h2⟩ := ih h; exact ⟨c0, by simpa using h1, h2⟩
theorem QG {ks : List Nat} {cs : List C} {j : Nat} {k : Nat × Nat} {ts : List Tr} : (Xk ks cs)[j]? ≠ some (.o k ts) := by
 intro h
 obtain ⟨c0, _, h | ⟨_, _, h⟩⟩ := Ns h
 ·exact JU h.symm
 cases h
theorem Nt (ks : List Nat) (cs : List C) : (Xk ks cs).length = cs.length := by
 induction cs generalizing ks with
 | nil => cases ks <;> rfl
 | cons x r ih => cases ks <;> simp [Xk, ih]
theorem TH {s : ST} (i : Nat) (ks : List Nat) {r : Row} (hi : s.hp[i]? = some (.r r)) : Le s { s with hp := s.hp.set i (.r { r with cells := Xk ks r.cells }) } := by
 rintro M0 w0 a w ⟨g, hpp, hR⟩
 have hlt : i < s.hp.length := (List.getElem?_eq_some_iff.1 hi).1
 have self : (s.hp.set i (.r { r with cells := Xk ks r.cells }))[i]? = some (.r { r with cells := Xk ks r.cells }) := by simp [hlt]
 have other : ∀ q, q ≠ i -> (s.hp.set i (.r { r with cells := Xk ks r.cells }))[q]? = s.hp[q]? := fun q hq => by rw [gE5 (Ne.symm hq)]
 generalize hh : s.hp.set i (.r { r with cells := Xk ks r.cells }) = hp' at *
 have ncl : ∀ j, ¬ Lv hp' g (.cl i j) := by
  rintro j ⟨r2, k, cs, e1, e2, _⟩
  rw [self] at e1
  cases e1
  exact QG e2
 have sub : ∀ ℓ, Lv hp' g ℓ -> Lv s.hp g ℓ := by
  intro ℓ hl
  cases ℓ with
  | ob q =>
   by_cases hq : q = i
   ·subst hq
    rcases hl with ⟨r2, e1, e2⟩ | ⟨kv, e1⟩
    ·exact .inl ⟨r, hi, e2⟩
    rw [self] at e1; cases e1
   rcases hl with ⟨r2, e1, e2⟩ | ⟨kv, e1⟩
   ·exact .inl ⟨r2, by rw [<- other q hq]; exact e1, e2⟩
   exact .inr ⟨kv, by rw [<- other q hq]; exact e1⟩
  | cl q j =>
   by_cases hq : q = i
   ·subst hq; exact absurd hl (ncl j)
   obtain ⟨r2, k, cs, e1, e2, e3⟩ := hl
   exact ⟨r2, k, cs, by rw [<- other q hq]; exact e1, e2, e3⟩
 have ow : ∀ b, Ow hp' g b -> Ow s.hp g b := fun b ho => ho.imp (fun h => h) (fun ⟨ℓ, hl, e⟩ => ⟨ℓ, sub ℓ hl, e⟩)
 have hm : Mo g s.hp w g hp' w (fun _ => True) := by
  refine ⟨fun q hq => ⟨?_, rfl, rfl⟩, fun b _ ho => ow b ho, Nat.le_refl _, fun _ _ _ => rfl, fun q _ hq r2 j k cs e1 e2 => ?_⟩
  ·by_cases e : q = i
   ·subst e; exact ⟨_, self, rfl⟩
   obtain ⟨o, h1, h2⟩ := hq
   exact ⟨o, by rw [other q e]; exact h1, h2⟩
  by_cases e : q = i
  rotate_left
  ·exact ⟨r2, by rw [<- other q e]; exact e1, e2, fun _ => rfl⟩
  subst e
  rw [self] at e1
  cases e1
  exact absurd e2 QG
 have hr := hR.hr
 refine ⟨g, ⟨by show s.pin <= hp'.length; rw [<- hh]; simpa using hpp.1, hpp.2⟩, hR.mo hm ?_ (fun ℓ hl => hR.new ℓ (sub ℓ hl)) hR.fp⟩
 refine ⟨hr.ml, fun ℓ hl => hr.md ℓ (sub ℓ hl), fun ℓ ℓ' h1 h2 => hr.inj ℓ ℓ' (sub ℓ h1) (sub ℓ' h2), fun q r2 e1 => ?_, fun q kv e1 => ?_, hm.gl hr.gl⟩
 rotate_left
 ·by_cases e : q = i
  ·subst e; rw [self] at e1; cases e1
  rw [other q e] at e1
  exact MpR.mo hm e1 (hr.mp q kv e1) rfl
 by_cases e : q = i
 rotate_left
 ·rw [other q e] at e1
  exact RowR.mo hm e1 (hr.row q r2 e1) (fun _ => rfl) (fun _ _ _ _ _ => ⟨rfl, rfl⟩)
 subst e
 rw [self] at e1
 cases e1
 rcases hr.row q r hi with ⟨k1, k2⟩ | ⟨k1, k2, arr, k3, k4, k5, k6, k7⟩
 ·exact .inl ⟨k1, by simp [k2, Xk]⟩
 refine .inr ⟨k1, fun h1 h2 => k2 h1 (List.length_eq_zero_iff.1 (by rw [<- Nt ks]; exact List.length_eq_zero_iff.2 h2)), arr, k3, by simpa [Nt] using k4, k5, k6, fun j c hj => ?_⟩
 obtain ⟨c0, hc0, hcc⟩ := Ns hj
 obtain ⟨u, u1, u2⟩ := k7 j c0 hc0
 refine ⟨u, u1, ?_⟩
 rcases hcc with rfl | ⟨k, rfl, rfl⟩
 rotate_left
 ·have hu : u = .slice none 0 0 := u2
  rw [hu]
  exact Rd.e _ _ _
 cases c0 with
 | o k cs => exact DN (t := .l k.1 cs) (fun b _ ho => ow b ho) hr hi ncl sub hc0 (.inl rfl) u2
 | _ => exact CellR.mo hm u2 (fun k cs hc => by cases hc)
theorem Js {s : ST} (i j id : Nat) {r : Row} {e0 k0 : Nat} (hne : i ≠ id) (hi : s.hp[i]? = some (.r r)) (hj : r.cells[j]? = some (.v (.slice none 0 0))) (hid : s.hp[id]? = some (.r ⟨e0, k0, true, []⟩)) : Le s { s with hp := s.hp.set i (.r { r with cells := r.cells.set j (.s id 0) }) } := by
 rintro M0 w0 a w ⟨g, hpp, hR⟩
 have hlt : i < s.hp.length := (List.getElem?_eq_some_iff.1 hi).1
 have hjl : j < r.cells.length := (List.getElem?_eq_some_iff.1 hj).1
 have self : (s.hp.set i (.r { r with cells := r.cells.set j (.s id 0) }))[i]? = some (.r { r with cells := r.cells.set j (.s id 0) }) := by simp [hlt]
 have other : ∀ q, q ≠ i -> (s.hp.set i (.r { r with cells := r.cells.set j (.s id 0) }))[q]? = s.hp[q]? := fun q hq => by rw [gE5 (Ne.symm hq)]
 have cel : ∀ q c, (r.cells.set j (.s id 0))[q]? = some c -> (q = j /\ c = .s id 0) \/ (q ≠ j /\ r.cells[q]? = some c) := by
  intro q c hq
  by_cases e : q = j
  ·subst e; rw [gEc hjl] at hq; cases hq; exact .inl ⟨rfl, rfl⟩
  rw [gE5 (Ne.symm e)] at hq; exact .inr ⟨e, hq⟩
 generalize hh : s.hp.set i (.r { r with cells := r.cells.set j (.s id 0) }) = hp' at *
 have sub : ∀ ℓ, Lv hp' g ℓ -> Lv s.hp g ℓ := by
  intro ℓ hl
  cases ℓ with
  | ob q =>
   by_cases hq : q = i
   ·subst hq
    rcases hl with ⟨r2, e1, e2⟩ | ⟨kv, e1⟩
    ·exact .inl ⟨r, hi, e2⟩
    rw [self] at e1; cases e1
   rcases hl with ⟨r2, e1, e2⟩ | ⟨kv, e1⟩
   ·exact .inl ⟨r2, by rw [<- other q hq]; exact e1, e2⟩
   exact .inr ⟨kv, by rw [<- other q hq]; exact e1⟩
  | cl q j2 =>
   obtain ⟨r2, k, cs, e1, e2, e3⟩ := hl
   by_cases hq : q = i
   rotate_left
   ·exact ⟨r2, k, cs, by rw [<- other q hq]; exact e1, e2, e3⟩
   subst hq
   rw [self] at e1
   cases e1
   rcases cel j2 _ e2 with ⟨_, h⟩ | ⟨_, h⟩
   ·cases h
   exact ⟨r, k, cs, hi, h, e3⟩
 have ow : ∀ b, Ow hp' g b -> Ow s.hp g b := fun b ho => ho.imp (fun h => h) (fun ⟨ℓ, hl, e⟩ => ⟨ℓ, sub ℓ hl, e⟩)
 have hm : Mo g s.hp w g hp' w (fun _ => True) := by
  refine ⟨fun q hq => ⟨?_, rfl, rfl⟩, fun b _ ho => ow b ho, Nat.le_refl _, fun _ _ _ => rfl, fun q _ hq r2 j2 k cs e1 e2 => ?_⟩
  ·by_cases e : q = i
   ·subst e; exact ⟨_, self, rfl⟩
   obtain ⟨o, h1, h2⟩ := hq
   exact ⟨o, by rw [other q e]; exact h1, h2⟩
  by_cases e : q = i
  rotate_left
  ·exact ⟨r2, by rw [<- other q e]; exact e1, e2, fun _ => rfl⟩
  subst e
  rw [self] at e1
  cases e1
  rcases cel j2 _ e2 with ⟨_, h⟩ | ⟨_, h⟩
  ·cases h
  exact ⟨r, hi, h, fun _ => rfl⟩
 have hr := hR.hr
 refine ⟨g, ⟨by show s.pin <= hp'.length; rw [<- hh]; simpa using hpp.1, hpp.2⟩, hR.mo hm ?_ (fun ℓ hl => hR.new ℓ (sub ℓ hl)) hR.fp⟩
 refine ⟨hr.ml, fun ℓ hl => hr.md ℓ (sub ℓ hl), fun ℓ ℓ' h1 h2 => hr.inj ℓ ℓ' (sub ℓ h1) (sub ℓ' h2), fun q r2 e1 => ?_, fun q kv e1 => ?_, hm.gl hr.gl⟩
 rotate_left
 ·by_cases e : q = i
  ·subst e; rw [self] at e1; cases e1
  rw [other q e] at e1
  exact MpR.mo hm e1 (hr.mp q kv e1) rfl
 by_cases e : q = i
 rotate_left
 ·rw [other q e] at e1
  exact RowR.mo hm e1 (hr.row q r2 e1) (fun _ => rfl) (fun _ _ _ _ _ => ⟨rfl, rfl⟩)
 subst e
 rw [self] at e1
 cases e1
 rcases hr.row q r hi with ⟨k1, k2⟩ | ⟨k1, k2, arr, k3, k4, k5, k6, k7⟩
 ·rw [k2] at hj; simp at hj
 refine .inr ⟨k1, fun h1 h2 => k2 h1 (List.length_eq_zero_iff.1 (by rw [<- List.length_set (i := j) (a := C.s id 0)]; exact List.length_eq_zero_iff.2 h2)), arr, k3, by simpa using k4, k5, k6, fun j2 c hj2 => ?_⟩
 rcases cel j2 c hj2 with ⟨rfl, rfl⟩ | ⟨_, h⟩
 rotate_left
 ·obtain ⟨u, u1, u2⟩ := k7 j2 c h
  exact ⟨u, u1, CellR.mo hm u2 (fun k cs hc _ => ⟨rfl, rfl⟩)⟩
 obtain ⟨u, u1, u2⟩ := k7 j2 _ hj
 have hu : u = .slice none 0 0 := u2
 refine ⟨u, u1, ?_⟩
 have hκ : g.κ id = 0 := by
  rcases hr.row id _ hid with ⟨z, _⟩ | ⟨_, z, _⟩
  ·exact z
  exact absurd rfl (z rfl)
 have hid' : hp'[id]? = some (.r ⟨e0, k0, true, []⟩) := by rw [other id (Ne.symm hne)]; exact hid
 exact ⟨⟨_, hid', rfl⟩, Nat.zero_le _, none, by rw [hu, hκ], fun hn => absurd hκ hn, by simp⟩
theorem Nu {s : ST} (e k : Nat) : Le s { s with hp := s.hp ++ [.r ⟨e, k, true, []⟩] } := by
 rintro M0 w0 a w ⟨g, hpp, hR⟩
 have hb := hR.birth0 (w' := w) (hp' := s.hp ++ [.r ⟨e, k, true, []⟩]) (id := s.hp.length) (r := ⟨e, k, true, []⟩) Cq (BV _) (Bb _) rfl (Fp.refl _ _)
 exact ⟨_, ⟨by have := hpp.1; simp; omega, hpp.2.trans (Dp hpp.1)⟩, hb⟩
def Ay (R : List (List Ar)) : List C := R.map fun r => C.o (2, 40) (At r)
theorem AB (xs : List (List Ar)) : (Ay xs).length = xs.length := by simp [Ay]
theorem Bu {xs : List (List Ar)} {i : Nat} {x : List Ar} (h : xs[i]? = some x) : (Ay xs)[i]? = some (.o (2, 40) (At x)) := by simp [Ay, h]
theorem CB (xs : List (List Ar)) (i : Nat) (x : List Ar) : (Ay xs).set i (.o (2, 40) (At x)) = Ay (xs.set i x) := by simp [Ay, List.map_set]
theorem Bv (f : List Nat) (L : List (List Ar)) : (Ay L).map (C.ren f) = Ay L := by simp [Ay, C.ren, Function.comp_def]
theorem Nv (f : Nat -> Nat) (L : List (List Ar)) : (Ay L).map (C.up f) = Ay L := by simp [Ay, C.up, Function.comp_def]
theorem Gs (L : List (List Ar)) : (Ay L).map VH = AC L := by simp [Ay, AC, VH, Function.comp_def]
theorem Jt (xs : List (List Ar)) (x : List Ar) : Ay xs ++ [.o (2, 40) (At x)] = Ay (xs ++ [x]) := by simp [Ay]

theorem PE (R : List (List Ar)) (hn : R.length <= 1000000) (hr : ∀ r ∈ R, r.length <= 1000000) : FC Tryz.prog 25 [Bh R] [] (fun r o => r = .a (.g [.s 0 R.length]) /\ o = [.r ⟨41, 1, true, Ay R⟩, .r ⟨25, 1, false, [.s 0 R.length]⟩]) := by
 refine A9 Tryz.func25 rfl (by rw [Tryz.ntmps25]; simp) ?_
 rw [Tryz.ntmps25]
 simp only [Bz, Bh]
 (refine Wf (an @List.set_cons_zero.{0} @List.set_cons_succ.{0}) ?_;(repeat clear hK K);repeat refine kq fun K hK=>?_)
 refine Av (Nu 41 1) ?_
 simp only [List.cons_append, List.nil_append]
 refine Av (Js 2 0 3 (by decide) rfl rfl rfl) ?_
 simp only [List.set_cons_zero, List.set_cons_succ]
 refine A6 (fun k : Nat => { tm := [(1, .a (.c (.p 0 0))), (2, .a (.c (.p 1 0))), (3, .a (.c (.p 2 0))), (4, .i k)], hp := [.r ⟨25, 1, false, [.t 1 (Ai R)]⟩, .r ⟨25, 1, false, [.v (.slice none 0 0)]⟩, .r ⟨25, 1, false, [.s 3 k]⟩, .r ⟨41, 1, true, Ay (R.take k)⟩], n := 25, pin := 0 }) (fun k => k <= R.length) (fun k => R.length - k) 0 ?_ ?_ ?_
 ·omega
 ·(refine BP ?_; simp only [Dq, go_sem, List.take_zero, Ay, List.map_nil]; try simp)
 rintro k hk K hK
 have hkl : (Ay (R.take k)).length = k := by rw [AB]; simp; omega
 by_cases hlt : k < R.length
 rotate_left
 ·have hl1 : decide ((k : Int) < (R.length : Int)) = false := by simpa using hlt
  have hke : k = R.length := by omega
  subst hke
  rw [List.take_length]
  (refine Wf (an @hl1 @A4) ?_;(repeat clear hK K);repeat refine kq fun K hK=>?_)
  refine Wm ?_
  (refine Wi ?_;repeat clear hK K)
  (repeat (first | (refine AG ?_; intro K hK) | refine Am ?_ | refine Ag ?_ | (refine Bg rfl rfl ?_; intro K1 hK1; simp only [go_sem, List.set_cons_zero, List.set_cons_succ, C.pl, C.one, List.all_cons, List.all_nil, Bool.and_true, List.take_succ_cons, List.take_zero, List.drop_zero]; (first | refine hK1 _ ?_ | refine AE (hK1 _ ?_)); clear hK1 K1) | ((first | refine Ab ?_ | refine Ap ?_); refine hK _ ?_; clear hK K)))
  ((try refine AF ?_); (try simp only [Ae, AJ]); refine Bm (A8 [3, 1] rfl rfl) ?_; (try simp only [List.set_nil, List.take_nil, List.take_zero, List.map_append, go_sem]); ((try refine AF ?_); (try refine Ab ?_); (try simp only [Ae, AJ]); refine BE (by first | exact .inl rfl | exact .inr rfl) rfl ?_; simp only [VE, EO, Em, EU, Tryz.results25, go_sem, true_and, and_true, Bv, C.pl, List.all_cons, List.all_nil, Bool.and_true, List.take_succ_cons, List.take_zero, List.drop_zero]))
 have hl1 : decide ((k : Int) < (R.length : Int)) = true := by simpa using hlt
 have hg := gE1 hlt
 have hrk := hr _ (gE6 hlt)
 (refine Wf (an @hl1 @A4) ?_;(repeat clear hK K);repeat refine kq fun K hK=>?_)
 refine Wl ?_
 (refine We ?_;(repeat clear hK K);repeat refine kq fun K hK=>?_)
 (refine AD [] (.m 0 0 0 (.m 3 0 0 (.m 5 0 0 (.m 1 1 10 (.m 4 1 8 (.m 6 0 0 (.m 7 1 8 (.a 2 (.a 8 (.a 9 (.a 10 (.m 11 0 0 (.a 12 .e))))))))))))) (by kernel_rfl) (by kernel_rfl) (by intro c st h; simp [Ae, AJ, VD] at h) ?_)
 (refine Wh (an @A4 (Ac hg)) ?_; repeat clear hK K)
 (refine W4 rfl rfl ?_; intro K1 hK1; refine BF rfl ?_; simp only [go_sem]; (first | refine hK1 _ ?_ | refine AE (hK1 _ ?_)); clear hK1 K1)
 (refine W4 rfl rfl ?_; intro K1 hK1; refine Rf rfl rfl rfl rfl ?_; simp only [go_sem, Co, A3, Al, List.take_zero, List.nil_append]; (first | refine hK1 _ ?_ | refine AE (hK1 _ ?_)); clear hK1 K1)
 (refine W4 rfl rfl ?_; intro K1 hK1; refine BF rfl ?_; simp only [go_sem]; (first | refine hK1 _ ?_ | refine AE (hK1 _ ?_)); clear hK1 K1)
 (refine W5 rfl rfl rfl rfl ?_; intro K1 hK1; refine B4 rfl ?_; simp only [go_sem, hkl, Nat.mul_one, gE7 (Nat.le_of_eq hkl), C.one, List.take_succ_cons, List.take_zero, List.all_cons, List.all_nil, Bool.and_true]; (first | refine hK1 _ ?_ | refine AE (hK1 _ ?_)); clear hK1 K1)
 (refine Wg ?_; repeat clear hK K)
 (refine W5 rfl rfl rfl rfl ?_; intro K1 hK1; refine B4 rfl ?_; simp only [go_sem]; (first | refine hK1 _ ?_ | refine AE (hK1 _ ?_)); clear hK1 K1)
 (refine Wg ?_; repeat clear hK K)
 have hj : (Ay (R.take k) ++ [C.s 5 R[k].length])[k]? = some (.s 5 R[k].length) := by rw [gEb (by omega), hkl, Nat.sub_self]; rfl
 have hset : (Ay (R.take k) ++ [C.s 5 R[k].length]).set k (.o (2, 40) (At R[k])) = Ay (R.take (k + 1)) := by
  rw [List.set_append_right _ _ (by omega), hkl, Nat.sub_self, gE8 hlt, <- Jt]; rfl
 refine Av (AR (r := ⟨40, 2, true, As R[k]⟩) (ri := ⟨41, 1, true, Ay (R.take k) ++ [.s 5 R[k].length]⟩) (ts := At R[k]) 7 k 5 R[k].length (by decide) rfl hj rfl rfl (show 0 < 2 by omega) (Ah _).symm (DA _)) ?_
 simp only [hset, go_sem]
 (refine We ?_;(repeat clear hK K);repeat refine kq fun K hK=>?_)
 refine Wn ?_
 refine hK _ (k + 1) (by omega) (by omega) ?_
 refine Le.trans (A8 [0, 1, 2, 7] rfl rfl) ?_
 (try simp only [List.set_nil, List.take_nil, List.take_zero, List.map_append, go_sem])
 (try simp only [Bv])
 exact Wo
end Go.Proofs.YthnkailnoobdoaaGreatDoor
