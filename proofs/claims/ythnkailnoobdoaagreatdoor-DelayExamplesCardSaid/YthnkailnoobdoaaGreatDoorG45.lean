/- Lemmas. -/
import Derived.Test.YthnkailnoobdoaaGreatDoorG42
import Derived.Test.YthnkailnoobdoaaGreatDoorTj1
import Derived.Test.YthnkailnoobdoaaGreatDoorMF
import Derived.Test.YthnkailnoobdoaaGreatDoorMG
namespace Go.Proofs.YthnkailnoobdoaaGreatDoor
set_option linter.unusedVariables false
set_option linter.unusedSimpArgs false
open Go.RowKit
set_option maxRecDepth 100000
attribute [local go_sem] lga C.pl C.one

def WP (B : List Bool) : List C := B.map fun b => C.v (.bool b)
theorem Ci (B : List Bool) : (WP B).length = B.length := by simp [WP]
theorem Hx {B : List Bool} {i : Nat} {b : Bool} (h : B[i]? = some b) : (WP B)[i]? = some (.v (.bool b)) := by simp [WP, h]
theorem Ei (B : List Bool) (i : Nat) (b : Bool) : (WP B).set i (.v (.bool b)) = WP (B.set i b) := by simp [WP, List.map_set]
theorem BD (f : List Nat) (B : List Bool) : (WP B).map (C.ren f) = WP B := by simp [WP, C.ren, Function.comp_def]
def Hy (t : Bool) (r : List Ar) : List Ar := r.filter fun a => !t || a.1 == 0
def M5 (t : Bool) (R : List (List Ar)) (v : Nat) : List Nat := (Hy t (R.getD v [])).map fun a => a.2.toNat
def BH (B : List Bool) (u : Nat) : Bool := B.getD u false
structure Rs (E : Nat -> List Nat) (n : Nat) (F : List Nat) (B : List Bool) (Q : List Nat) : Prop where
 len : B.length = n
 snd : ∀ u, BH B u = true -> ∃ v ∈ F, Rc E v u
 q : ∀ u ∈ Q, u < n /\ ∃ v ∈ F, Rc E v u
 cl : ∀ u, BH B u = true -> ∀ w ∈ E u, BH B w = true \/ w ∈ Q
 st : ∀ v ∈ F, BH B v = true \/ v ∈ Q
variable {E : Nat -> List Nat} {n u : Nat} {F : List Nat} {B : List Bool} {Q : List Nat}
theorem Rs.start (hF : ∀ v ∈ F, v < n) : Rs E n F (List.replicate n false) F := by
 have e : ∀ u, BH (List.replicate n false) u = false := fun u => by
  unfold BH; rw [gE2, List.getElem?_replicate]; split <;> rfl
 exact ⟨by simp, fun u h => (by rw [e] at h; cases h), fun u h => ⟨hF u h, u, h, .refl _⟩, fun u h => (by rw [e] at h; cases h), fun v h => .inr h⟩
theorem Rs.done (h : Rs E n F B []) (u : Nat) : BH B u = true ↔ ∃ v ∈ F, Rc E v u := by
 refine ⟨h.snd u, fun ⟨v, hv, hr⟩ => ?_⟩
 induction hr with
 | refl => exact (h.st v hv).resolve_right (by simp)
 | tail _ he ih => exact (h.cl _ (ih ⟨v, hv, ‹_›⟩) _ he).resolve_right (by simp)
end Go.Proofs.YthnkailnoobdoaaGreatDoor
namespace Go.Proofs.YthnkailnoobdoaaGreatDoor
set_option linter.unusedVariables false
set_option linter.unusedSimpArgs false

def WQ (f : Nat -> Nat) (c : Nat) (o : List (List Ar)) (a : Ar) : List (List Ar) := o.set c (o.getD c [] ++ [(a.1, (f a.2.toNat : Int))])
def UF (f : Nat -> Nat) (c : Nat) (o : List (List Ar)) (row : List Ar) : List (List Ar) := row.foldl (WQ f c) o
theorem Rx (f : Nat -> Nat) (c : Nat) (o : List (List Ar)) (a : Ar) : (WQ f c o a).length = o.length := by simp [WQ]
theorem Rc.lt {E : Nat -> List Nat} {n u v : Nat} (h : Rc E u v) (hu : u < n) (hE : ∀ x, x < n -> ∀ y ∈ E x, y < n) : v < n := by
 induction h with
 | refl => exact hu
 | tail _ he ih => exact hE _ ih _ he
theorem Ct {R : List (List Ar)} (t : Bool) (hv : BK R = true) : ∀ x, x < R.length -> ∀ y ∈ WG t R x, y < R.length := by
 intro x hx y hy
 unfold WG at hy
 rw [gE2, gE1 hx, Option.getD_some] at hy
 obtain ⟨a, ha, rfl⟩ := List.mem_map.1 hy
 have h1 : a ∈ R[x] := by
  unfold Ch at ha
  split at ha
  ·exact (List.takeWhile_sublist _).subset ha
  exact ha
 have h2 := (gE4 hv).2.2.2 _ (gE6 hx) a h1
 omega
theorem Pn (o : List (List Ar)) {c : Nat} (h : c < o.length) (x : Ar) : AN (o.set c (o.getD c [] ++ [x])) = AN o + 1 := by
 induction o generalizing c with
 | nil => simp at h
 | cons a r ih =>
  cases c with
  | zero => simp [AN]; omega
  | succ c =>
   have := ih (c := c) (by simpa using h)
   simp only [List.set_cons_succ, List.getD_cons_succ]
   simp only [AN, List.map_cons, List.sum_cons] at this ⊢
   omega
theorem EH (o : List (List Ar)) (c : Nat) : (o.getD c []).length <= AN o := by
 induction o generalizing c with
 | nil => simp
 | cons a r ih =>
  cases c with
  | zero => simp [AN]
  | succ c =>
   have := ih c
   simp only [List.getD_cons_succ]
   simp only [AN, List.map_cons, List.sum_cons] at this ⊢
   omega
theorem Po (m : Nat) : AN (List.replicate m []) = 0 := by
 unfold AN
 rw [List.map_replicate, List.sum_replicate_nat]; simp
def TlP (m : Nat) (o : List (List Ar)) : Prop := ∀ r ∈ o, ∀ a ∈ r, 0 <= a.1 /\ a.1 <= 1025 /\ 0 <= a.2 /\ a.2 < (m : Int)
theorem TlP.one {f : Nat -> Nat} {m c : Nat} {o : List (List Ar)} {a : Ar} (h : TlP m o) (ha : 0 <= a.1 /\ a.1 <= 1025) (hf : f a.2.toNat < m) : TlP m (WQ f c o a) := by
 intro r hr b hb
 rcases List.mem_or_eq_of_mem_set hr with h1 | h1
 ·exact h r h1 b hb
 subst h1
 rcases List.mem_append.1 hb with h2 | h2
 rotate_left
 ·simp at h2; subst h2
  exact ⟨ha.1, ha.2, by simp only; omega, by simp only; omega⟩
 rw [gE2] at h2
 rcases Nat.lt_or_ge c o.length with h3 | h3
 rotate_left
 ·rw [List.getElem?_eq_none h3] at h2; simp at h2
 rw [gE1 h3, Option.getD_some] at h2
 exact h _ (gE6 h3) b h2
theorem LM {r : List Ar} (hs : SortA r) (h0 : ∀ a ∈ r, 0 <= a.1) (t : Bool) : Hy t r = Ch t r := by
 cases t with
 | false => unfold Hy Ch; simp
 | true =>
  unfold Hy Ch
  rw [if_pos rfl]
  simp only [Bool.not_true, Bool.false_or]
  induction r with
  | nil => rfl
  | cons a r ih =>
   have hs2 := List.pairwise_cons.1 hs
   by_cases h : (a.1 == 0) = true
   ·rw [List.filter_cons, if_pos h, List.takeWhile_cons, if_pos h, ih hs2.2 fun b hb => h0 b (gEf _ hb)]
   rw [List.filter_cons, if_neg h, List.takeWhile_cons, if_neg h]
   refine List.filter_eq_nil_iff.2 fun b hb => ?_
   have h1 := hs2.1 b hb
   rw [CX] at h1
   have h2 := h0 a List.mem_cons_self
   have h3 : a.1 ≠ 0 := fun e => h (by simp [e])
   have : b.1 ≠ 0 := by omega
   simpa using this
theorem N9 {R : List (List Ar)} (t : Bool) (hv : BL R = true) : M5 t R = WG t R := by
 funext v
 unfold M5 WG
 rcases Nat.lt_or_ge v R.length with h | h
 rotate_left
 ·rw [gE2, List.getElem?_eq_none h, Option.getD_none]
  cases t <;> rfl
 rw [gE2, gE1 h, Option.getD_some]
 have h2 := gE4 hv
 rw [LM (h2.2 _ (gE6 h)) fun a ha => (h2.1.2.2.2 _ (gE6 h) a ha).1]
theorem Least.uniq {E : Nat -> List Nat} {v : Nat} {x y : Int} (h1 : Least E v x) (h2 : Least E v y) : x = y := by
 obtain ⟨m, a1, a2, a3, a4⟩ := h1
 obtain ⟨k, b1, b2, b3, b4⟩ := h2
 have := a4 k b2 b3
 have := b4 m a2 a3
 omega
open Go.RowKit
set_option maxRecDepth 100000
attribute [local go_sem] lga C.pl C.one
theorem H3 {l : List Int} {n : Nat} (h : Ws l) (hb : ∀ x ∈ l, 0 <= x /\ x < (n : Int)) : l.length <= n := by
 have h1 : (l.map Int.toNat).Nodup := by
  unfold Ws at h
  rw [List.Nodup, List.pairwise_map]
  refine h.imp_of_mem fun {a b} ha hb2 hab e => ?_
  have := hb a ha
  have := hb b hb2
  omega
 have := Kz n (l.map Int.toNat) h1 fun u hu => by
  obtain ⟨x, hx, rfl⟩ := List.mem_map.1 hu
  have := hb x hx
  omega
 simpa using this
def B9 (L : List (List Int)) : List C := L.map fun r => C.o (1, 3) (Aa r)
theorem Bs (L : List (List Int)) : (B9 L).length = L.length := by simp [B9]
theorem F9 (L : List (List Int)) (i : Nat) (x : List Int) : (B9 L).set i (.o (1, 3) (Aa x)) = B9 (L.set i x) := by simp [B9, List.map_set]
theorem D7 (f : List Nat) (L : List (List Int)) : (B9 L).map (C.ren f) = B9 L := by simp [B9, C.ren, Function.comp_def]
def RowOk (E : Nat -> List Nat) (n j : Nat) (L : List Int) : Prop := ∃ B : List Bool, B.length = n /\ (∀ u, BH B u = true ↔ Rc E j u) /\ L = ((List.range n).filter (BH B)).map Int.ofNat
theorem RowOk.mem {E : Nat -> List Nat} {n j : Nat} {L : List Int} (h : RowOk E n j L) {u : Nat} (hu : u < n) : (u : Int) ∈ L ↔ Rc E j u := by
 obtain ⟨B, _, h2, rfl⟩ := h
 rw [FJ, List.mem_filter, List.mem_range, h2]
 exact ⟨fun h => h.2, fun h => ⟨hu, h⟩⟩
theorem RowOk.len {E : Nat -> List Nat} {n j : Nat} {L : List Int} (h : RowOk E n j L) : L.length <= n := by
 obtain ⟨B, _, h2, rfl⟩ := h
 rw [List.length_map]
 have := List.length_filter_le (BH B) (List.range n)
 simpa using this
def Dv (R : List (List Ar)) (s : Nat) : Prop := ∃ g, Rc (WG true R) s g /\ ∃ w, w ∈ WG true R g /\ Rc (WG true R) w g
def WT (s : Nat) (o : List (List Int)) (a : Ar) : List (List Int) := o.set a.2.toNat (o.getD a.2.toNat [] ++ [(s : Int)])
def E2 (s : Nat) (o : List (List Int)) (row : List Ar) : List (List Int) := row.foldl (WT s) o
def WU (R : List (List Ar)) : Nat -> List (List Int)
 | 0 => List.replicate R.length []
 | k + 1 => E2 k (WU R k) (Ch true (R.getD k []))
def M6 (o : List (List Int)) : Nat := (o.map List.length).sum
theorem Jn (s : Nat) (o : List (List Int)) (a : Ar) : (WT s o a).length = o.length := by simp [WT]
theorem Iz (s : Nat) (row : List Ar) : ∀ o, (E2 s o row).length = o.length := by
 induction row with
 | nil => intro o; rfl
 | cons a r ih => intro o; show (E2 s (WT s o a) r).length = _; rw [ih, Jn]
theorem Gj (R : List (List Ar)) (k : Nat) : (WU R k).length = R.length := by
 induction k with
 | zero => simp [WU]
 | succ k ih => rw [WU, Iz, ih]
theorem LN (s : Nat) (o : List (List Int)) (row : List Ar) (a : Ar) : E2 s o (row ++ [a]) = WT s (E2 s o row) a := by unfold E2; rw [List.foldl_append]; rfl
theorem Pq (o : List (List Int)) {c : Nat} (h : c < o.length) (x : Int) : M6 (o.set c (o.getD c [] ++ [x])) = M6 o + 1 := by
 induction o generalizing c with
 | nil => simp at h
 | cons y r ih =>
  cases c with
  | zero => simp [M6]; omega
  | succ c =>
   have := ih (c := c) (by simpa using h)
   simp only [List.set_cons_succ, List.getD_cons_succ]
   simp only [M6, List.map_cons, List.sum_cons] at this ⊢
   omega
theorem KE (o : List (List Int)) (c : Nat) : (o.getD c []).length <= M6 o := by
 induction o generalizing c with
 | nil => simp
 | cons y r ih =>
  cases c with
  | zero => simp [M6]
  | succ c =>
   have := ih c
   simp only [List.getD_cons_succ]
   simp only [M6, List.map_cons, List.sum_cons] at this ⊢
   omega
theorem Nh (s : Nat) (row : List Ar) : ∀ o : List (List Int), (∀ a ∈ row, a.2.toNat < o.length) -> M6 (E2 s o row) = M6 o + row.length := by
 induction row with
 | nil => intro o _; rfl
 | cons a r ih =>
  intro o h
  show M6 (E2 s (WT s o a) r) = _
  rw [ih _ (by rw [Jn]; exact fun b hb => h b (gEf _ hb))]
  unfold WT
  rw [Pq o (h a (by simp))]
  simp only [List.length_cons]; omega
theorem Ry {s t : Nat} {o : List (List Int)} {a : Ar} {x : Int} (h : a.2.toNat < o.length) : x ∈ (WT s o a).getD t [] ↔ x ∈ o.getD t [] \/ (a.2.toNat = t /\ x = (s : Int)) := by
 unfold WT
 rw [gE2]
 by_cases e : a.2.toNat = t
 rotate_left
 ·rw [gE5 e, <- gE2]
  simp [e]
 subst e
 rw [gEc h, Option.getD_some, List.mem_append]
 simp
theorem Ni {s t : Nat} {x : Int} : ∀ (row : List Ar) (o : List (List Int)), (∀ a ∈ row, a.2.toNat < o.length) -> (x ∈ (E2 s o row).getD t [] ↔ x ∈ o.getD t [] \/ (x = (s : Int) /\ t ∈ row.map fun a => a.2.toNat)) := by
 intro row
 induction row with
 | nil => intro o _; simp [E2]
 | cons a r ih =>
  intro o h
  show x ∈ (E2 s (WT s o a) r).getD t [] ↔ _
  rw [ih _ (by rw [Jn]; exact fun b hb => h b (gEf _ hb)), Ry (h a (by simp))]
  simp only [List.map_cons, List.mem_cons]
  constructor
  rotate_left
  ·rintro (h | ⟨h1, h2 | h2⟩)
   ·exact .inl (.inl h)
   ·exact .inl (.inr ⟨h2.symm, h1⟩)
   exact .inr ⟨h1, h2⟩
  rintro ((h | ⟨h1, h2⟩) | ⟨h1, h2⟩)
  ·exact .inl h
  ·exact .inr ⟨h2, .inl h1.symm⟩
  exact .inr ⟨h1, .inr h2⟩
theorem Nj {t : Bool} {r : List Ar} : ∀ a ∈ Ch t r, a ∈ r := fun a ha => by
 unfold Ch at ha
 split at ha
 ·exact (List.takeWhile_sublist _).subset ha
 ·exact ha
theorem Gk (t : Bool) (r : List Ar) : (Ch t r).length <= r.length := by
 unfold Ch
 split
 ·exact (List.takeWhile_sublist _).length_le
 exact Nat.le_refl _
theorem IA {R : List (List Ar)} (hlo : BK R = true) {k : Nat} : ∀ a ∈ Ch true (R.getD k []), 0 <= a.2 /\ a.2.toNat < R.length := fun a ha => by
 have h1 := Nj a ha
 rcases Nat.lt_or_ge k R.length with h | h
 ·rw [gE2, gE1 h] at h1
  have := (gE4 hlo).2.2.2 _ (gE6 h) a h1
  omega
 ·rw [gE2, List.getElem?_eq_none h] at h1; simp at h1
theorem Rz {R : List (List Ar)} (hlo : BK R = true) {t : Nat} {x : Int} : ∀ k, x ∈ (WU R k).getD t [] ↔ ∃ s, s < k /\ x = (s : Int) /\ t ∈ WG true R s := by
 intro k
 induction k with
 | zero =>
  simp only [WU, gE2, List.getElem?_replicate]
  split <;> simp
 | succ k ih =>
  rw [WU, Ni _ _ (by rw [Gj]; exact fun a ha => (IA hlo a ha).2), ih]
  constructor
  ·rintro (⟨s, h1, h2, h3⟩ | ⟨h1, h2⟩)
   ·exact ⟨s, by omega, h2, h3⟩
   exact ⟨k, by omega, h1, h2⟩
  rintro ⟨s, h1, h2, h3⟩
  by_cases e : s = k
  ·subst e; exact .inr ⟨h2, h3⟩
  exact .inl ⟨s, by omega, h2, h3⟩
theorem KF {R : List (List Ar)} (hlo : BK R = true) : ∀ k, k <= R.length -> M6 (WU R k) <= AN (R.take k) := by
 intro k
 induction k with
 | zero => intro _; simp [WU, M6, AN]
 | succ k ih =>
  intro hk
  have h1 := ih (by omega)
  have h2 := BX (R := R) (k := k) hk
  have h3 := Gk true (R.getD k [])
  have h4 : R.getD k [] = R[k] := by rw [gE2, gE1 hk]; rfl
  rw [WU, Nh _ _ _ (by rw [Gj]; exact fun a ha => (IA hlo a ha).2)]
  rw [h4] at h3 ⊢
  omega
structure Bq (E : Nat -> List Nat) (n : Nat) (G : Nat -> Prop) (O : List Int) (Q : List Nat) : Prop where
 len : O.length = n
 lt : ∀ q ∈ Q, q < n
 nd : Q.Nodup
 iff : ∀ s, s < n -> (0 <= WF O (-1) s ↔ s ∈ Q)
 hi : ∀ s, WF O (-1) s <= (Q.length : Int)
 rc : ∀ q ∈ Q, ∃ g, g < n /\ G g /\ Rc E q g
section
variable {E : Nat -> List Nat} {n : Nat} {G : Nat -> Prop} {O : List Int} {Q : List Nat}
theorem Bq.qlen (h : Bq E n G O Q) : Q.length <= n := by
 have := h.nd.length_le_of_subset (l₂ := List.range n) fun q hq => List.mem_range.2 (h.lt q hq)
 simpa using this
theorem Bq.start (E : Nat -> List Nat) (n : Nat) (G : Nat -> Prop) : Bq E n G (List.replicate n (-1)) [] := by
 refine ⟨by simp, by simp, List.nodup_nil, fun s hs => ?_, fun s => ?_, by simp⟩
 ·rw [C1 (by simpa using hs)]; simp
 unfold WF
 rw [List.getElem?_replicate]
 split <;> simp
theorem Bq.push (h : Bq E n G O Q) {s : Nat} (hs : s < n) (hq : s ∉ Q) {v : Int} (h0 : 0 <= v) (h1 : v <= (Q.length : Int) + 1) (hr : ∃ g, g < n /\ G g /\ Rc E s g) : Bq E n G (O.set s v) (Q ++ [s]) := by
 have hl := h.len
 refine ⟨by simp [hl], fun q hq => ?_, ?_, fun t ht => ?_, fun t => ?_, fun q hq => ?_⟩
 rotate_left 4
 ·rcases List.mem_append.1 hq with h2 | h2
  ·exact h.rc q h2
  simp at h2; subst h2; exact hr
 ·rcases List.mem_append.1 hq with h2 | h2
  ·exact h.lt q h2
  simp at h2; subst h2; exact hs
 ·rw [List.nodup_append]
  exact ⟨h.nd, by simp, fun a ha b hb => by simp at hb; subst hb; intro e; subst e; exact hq ha⟩
 ·rw [DG (by omega)]
  unfold upd
  split
  ·rename_i e; subst e; simp [h0]
  rename_i e; rw [h.iff t ht]; simp [e]
 rw [DG (by omega)]
 unfold upd
 simp only [List.length_append, List.length_singleton]
 split
 ·omega
 have := h.hi t; omega
theorem Bq.done (h : Bq E n G O Q) (hE : ∀ x, x < n -> ∀ y ∈ E x, y < n) (hg : ∀ g, g < n -> G g -> g ∈ Q) (hc : ∀ q ∈ Q, ∀ p, p < n -> q ∈ E p -> p ∈ Q) {s : Nat} (hs : s < n) : 0 <= WF O (-1) s ↔ ∃ g, g < n /\ G g /\ Rc E s g := by
 rw [h.iff s hs]
 constructor
 ·exact h.rc s
 rintro ⟨g, h1, h2, h3⟩
 have key : ∀ x, Rc E s x -> x ∈ Q -> s ∈ Q := by
  intro x hx
  induction hx with
  | refl => exact id
  | tail hv hw ih => exact fun hq => ih (hc _ hq _ (hv.lt hs hE) hw)
 exact key g h3 (hg g h1 h2)
end
def WV (D : List Int) (s : Nat) (row : List Ar) : Bool := row.any fun a => decide (D.getD a.2.toNat 0 = D.getD s 0)
def WW (R : List (List Ar)) (D : List Int) (k : Nat) : List Bool := (List.range k).map fun s => WV D s (Ch true (R.getD s []))
theorem Fa (R : List (List Ar)) (D : List Int) (k : Nat) : (WW R D k).length = k := by simp [WW]
theorem Pr (D : List Int) (s : Nat) (row : List Ar) (a : Ar) : WV D s (row ++ [a]) = (WV D s row || decide (D.getD a.2.toNat 0 = D.getD s 0)) := by simp [WV]
theorem Nk {R : List (List Ar)} {D : List Int} (hlo : BK R = true) (hD : D.length = R.length) (hL : ∀ v, v < R.length -> Least (WG true R) v (WF D (-1) v)) {g : Nat} (hg : g < R.length) : (WW R D R.length).getD g false = true ↔ ∃ w, w ∈ WG true R g /\ Rc (WG true R) w g := by
 have e1 : (WW R D R.length).getD g false = WV D g (Ch true (R.getD g [])) := by simp [WW, gE2, hg]
 have hE := Ct true hlo
 have hd : ∀ v, v < R.length -> D.getD v 0 = WF D (-1) v := fun v hv => by rw [C1 (by omega), gE2, gE1 (by omega)]; rfl
 rw [e1]
 unfold WV
 rw [List.any_eq_true]
 simp only [decide_eq_true_eq]
 constructor
 ·rintro ⟨a, ha, e⟩
  have hw : a.2.toNat ∈ WG true R g := List.mem_map.2 ⟨a, ha, rfl⟩
  have hwl := hE g hg _ hw
  rw [hd _ hwl, hd _ hg] at e
  obtain ⟨x, ex, p1, p2, _⟩ := hL _ hwl
  obtain ⟨y, ey, q1, q2, _⟩ := hL _ hg
  have : x = y := by omega
  subst this
  exact ⟨_, hw, p1.trans q2⟩
 rintro ⟨w, hw, hr⟩
 obtain ⟨a, ha, rfl⟩ := List.mem_map.1 hw
 refine ⟨a, ha, ?_⟩
 have hwl := hE g hg _ hw
 rw [hd _ hwl, hd _ hg]
 obtain ⟨x, ex, p1, p2, p3⟩ := hL _ hwl
 obtain ⟨y, ey, q1, q2, q3⟩ := hL _ hg
 have hgw : Rc (WG true R) g a.2.toNat := .one hw
 have l1 := p3 y (hr.trans q1) (q2.trans hgw)
 have l2 := q3 x (hgw.trans p1) (p2.trans hr)
 omega
def DvL (R : List (List Ar)) (B : List Bool) : Prop := B.length = R.length /\ ∀ s, s < R.length -> (B.getD s false = true ↔ Dv R s)
theorem DvL.uniq {R : List (List Ar)} {A B : List Bool} (h1 : DvL R A) (h2 : DvL R B) : A = B := by
 refine List.ext_getElem (by rw [h1.1, h2.1]) fun i hi hj => ?_
 have a := h1.2 i (by have := h1.1; omega)
 have b := h2.2 i (by have := h1.1; omega)
 rw [gE2, gE1 hi, Option.getD_some] at a
 rw [gE2, gE1 hj, Option.getD_some] at b
 rw [Bool.eq_iff_iff, a, b]
def WX (acc : List Int) (r : List Ar) : List Int := r.foldl (fun acc a => Fx a.1 acc) acc
def WY (R : List (List Ar)) (k : Nat) : List Int := (R.take k).foldl WX [0]
theorem KG {R : List (List Ar)} {k : Nat} (h : k < R.length) : WY R (k + 1) = WX (WY R k) R[k] := by
 unfold WY
 rw [gE8 h, List.foldl_append]; rfl
theorem Gl {x : Int} : ∀ (r : List Ar) (acc : List Int), x ∈ WX acc r ↔ x ∈ acc \/ ∃ a ∈ r, a.1 = x
 | [], acc => by simp [WX]
 | a :: r, acc => by
  show x ∈ WX (Fx a.1 acc) r ↔ _
  rw [Gl r, DQ]
  simp only [List.mem_cons, exists_eq_or_imp]
  constructor
  ·rintro ((rfl | h) | h)
   ·exact .inr (.inl rfl)
   ·exact .inl h
   ·exact .inr (.inr h)
  ·rintro (h | h | h)
   ·exact .inl (.inr h)
   ·exact .inl (.inl h.symm)
   ·exact .inr h
theorem Jo : ∀ (r : List Ar) (acc : List Int), Ws acc -> Ws (WX acc r)
 | [], _, h => h
 | _ :: r, _, h => Jo r _ (Hn h)
theorem H4 {R : List (List Ar)} (hb : ∀ r ∈ R, ∀ a ∈ r, 0 <= a.1 /\ a.1 <= 1025) (k : Nat) : k <= R.length -> Ws (WY R k) /\ (∀ x ∈ WY R k, 0 <= x /\ x < 1026) /\ (0 : Int) ∈ WY R k /\ ∀ r ∈ R.take k, ∀ a ∈ r, a.1 ∈ WY R k := by
 induction k with
 | zero => intro _; exact ⟨by simp [WY, Ws], by simp [WY], by simp [WY], by simp⟩
 | succ k ih =>
  intro hk
  obtain ⟨h1, h2, h3, h4⟩ := ih (by omega)
  have hkl : k < R.length := hk
  rw [KG hkl]
  refine ⟨Jo _ _ h1, fun x hx => ?_, (Gl _ _).2 (.inl h3), fun r hr a ha => ?_⟩
  ·rcases (Gl _ _).1 hx with h | ⟨a, ha, rfl⟩
   ·exact h2 x h
   have := hb _ (gE6 hkl) a ha; omega
  rw [Gl]
  rw [gE8 hkl] at hr
  rcases List.mem_append.1 hr with h | h
  ·exact .inl (h4 r h a ha)
  simp at h; subst h; exact .inr ⟨a, ha, rfl⟩
noncomputable def WZ (R : List (List Ar)) (s : Nat) : List Nat := T5 R.length (fun u => @decide (Rc (WG true R) s u) (Classical.propDecidable _))
theorem Gm {R : List (List Ar)} {s u : Nat} : u ∈ WZ R s ↔ u < R.length /\ Rc (WG true R) s u := by
 unfold WZ
 rw [EG]
 simp
noncomputable def X1 (R : List (List Ar)) (s : Nat) (e : Int) : List Int := if e = 0 then (WZ R s).map Int.ofNat else (T5 R.length (fun u => decide (u ∈ tg R (WZ R s) e))).map Int.ofNat
theorem Jp {R : List (List Ar)} (hlo : BK R = true) {s : Nat} (hs : s < R.length) {e x : Int} : x ∈ X1 R s e ↔ (e = 0 /\ ∃ u : Nat, x = (u : Int) /\ Rc (WG true R) s u) \/ (e ≠ 0 /\ ∃ t, Rc (WG true R) s t /\ ∃ a ∈ R.getD t [], a.1 = e /\ a.2 = x) := by
 have hE := Ct true hlo
 unfold X1
 by_cases e0 : e = 0
 ·rw [if_pos e0, List.mem_map]
  constructor
  ·rintro ⟨u, hu, rfl⟩
   exact .inl ⟨e0, u, rfl, (Gm.1 hu).2⟩
  rintro (⟨_, u, rfl, hu⟩ | ⟨h, _⟩)
  ·exact ⟨u, Gm.2 ⟨hu.lt hs hE, hu⟩, rfl⟩
  exact absurd e0 h
 rw [if_neg e0, List.mem_map]
 constructor
 ·rintro ⟨u, hu, rfl⟩
  rw [EG, decide_eq_true_iff, QB] at hu
  obtain ⟨_, t, ht, h2⟩ := hu
  obtain ⟨a, ha, h3, h4⟩ := N5.1 h2
  have htl := (Gm.1 ht).1
  have hb : 0 <= a.2 := by
   rw [gE2, gE1 htl, Option.getD_some] at ha
   exact ((gE4 hlo).2.2.2 _ (gE6 htl) a ha).2.2.1
  exact .inr ⟨e0, t, (Gm.1 ht).2, a, ha, h3, by simp only [Int.ofNat_eq_natCast]; omega⟩
 rintro (⟨h, _⟩ | ⟨_, t, ht, a, ha, h3, rfl⟩)
 ·exact absurd h e0
 have htl := ht.lt hs hE
 have hb := ha
 rw [gE2, gE1 htl, Option.getD_some] at hb
 have hb2 := (gE4 hlo).2.2.2 _ (gE6 htl) a hb
 refine ⟨a.2.toNat, ?_, by simp only [Int.ofNat_eq_natCast]; omega⟩
 rw [EG, decide_eq_true_iff, QB]
 exact ⟨by omega, t, Gm.2 ⟨htl, ht⟩, N5.2 ⟨a, ha, h3, rfl⟩⟩
theorem QC {R : List (List Ar)} (hlo : BK R = true) {s : Nat} {e : Int} (hs : s < R.length) : (X1 R s e).length <= R.length /\ ∀ x ∈ X1 R s e, 0 <= x /\ x < (R.length : Int) := by
 have hl : ∀ p : Nat -> Bool, (T5 R.length p).length <= R.length := fun p => by
  unfold T5
  exact Nat.le_trans (List.length_filter_le _ _) (by simp)
 refine ⟨?_, fun x hx => ?_⟩
 ·unfold X1
  split <;> rw [List.length_map] <;> exact hl _
 unfold X1 at hx
 split at hx
 ·obtain ⟨u, hu, rfl⟩ := List.mem_map.1 hx
  have := (EG.1 hu).1
  simp only [Int.ofNat_eq_natCast]; omega
 obtain ⟨u, hu, rfl⟩ := List.mem_map.1 hx
 have := (EG.1 hu).1
 simp only [Int.ofNat_eq_natCast]; omega
noncomputable def X2 (R : List (List Ar)) (s : Nat) (e : Int) : List Ar := (X1 R s e).map fun u => (e, u)
noncomputable def X3 (R : List (List Ar)) (Ev : List Int) (s k : Nat) : List Ar := (Ev.take k).flatMap (X2 R s)
noncomputable def X4 (R : List (List Ar)) (Ev : List Int) (s : Nat) : List Ar := X3 R Ev s Ev.length
noncomputable def X5 (R : List (List Ar)) (Ev : List Int) (k : Nat) : List (List Ar) := (List.range k).map (X4 R Ev)
theorem RA (R : List (List Ar)) (Ev : List Int) (k : Nat) : (X5 R Ev k).length = k := by simp [X5]
theorem Pt {R : List (List Ar)} {Ev : List Int} {s k : Nat} (h : k < Ev.length) : X3 R Ev s (k + 1) = X3 R Ev s k ++ X2 R s Ev[k] := by
 unfold X3
 rw [gE8 h, List.flatMap_append]
 simp
theorem RB {R : List (List Ar)} (hlo : BK R = true) {Ev : List Int} {s : Nat} (hs : s < R.length) : ∀ k, k <= Ev.length -> (X3 R Ev s k).length <= k * R.length := by
 intro k
 induction k with
 | zero => intro _; simp [X3]
 | succ k ih =>
  intro hk
  have h1 := ih (by omega)
  have h2 := (QC hlo (e := Ev[k]) hs).1
  rw [Pt hk, List.length_append, X2, List.length_map, Nat.succ_mul]
  omega
noncomputable def H5 (R : List (List Ar)) : List (List Ar) := X5 R (WY R R.length) R.length
theorem Hz {R : List (List Ar)} (hv : BL R = true) {s : Nat} (hs : s < R.length) {a : Ar} : a ∈ (H5 R).getD s [] ↔ (a.1 = 0 /\ ∃ u : Nat, a.2 = (u : Int) /\ Rc (WG true R) s u) \/ (a.1 ≠ 0 /\ ∃ t, Rc (WG true R) s t /\ a ∈ R.getD t []) := by
 have hlo : BK R = true := gEg (gE4 hv).1
 have hg : (H5 R).getD s [] = X4 R (WY R R.length) s := by simp [H5, X5, gE2, hs]
 have hev := H4 (R := R) (fun r hr a ha => by have := (gE4 hlo).2.2.2 r hr a ha; omega) R.length (Nat.le_refl _)
 rw [List.take_length] at hev
 rw [hg]
 unfold X4 X3
 rw [List.take_length, List.mem_flatMap]
 constructor
 ·rintro ⟨e, he, h⟩
  obtain ⟨x, hx, rfl⟩ := List.mem_map.1 h
  rcases (Jp hlo hs).1 hx with ⟨h1, u, rfl, h2⟩ | ⟨h1, t, h2, b, hb, h3, h4⟩
  ·exact .inl ⟨h1, u, rfl, h2⟩
  refine .inr ⟨h1, t, h2, ?_⟩
  have : b = (e, x) := by rcases b with ⟨p, q⟩; simp only at h3 h4; rw [h3, h4]
  rw [<- this]; exact hb
 rintro (⟨h1, u, h2, h3⟩ | ⟨h1, t, h2, h3⟩)
 ·refine ⟨0, hev.2.2.1, List.mem_map.2 ⟨(u : Int), (Jp hlo hs).2 (.inl ⟨rfl, u, rfl, h3⟩), ?_⟩⟩
  rcases a with ⟨p, q⟩; simp only at h1 h2 ⊢; rw [h1, h2]
 have htl := h2.lt hs (Ct true hlo)
 have h4 := h3
 rw [gE2, gE1 htl, Option.getD_some] at h4
 exact ⟨a.1, hev.2.2.2 _ (gE6 htl) a h4, List.mem_map.2 ⟨a.2, (Jp hlo hs).2 (.inr ⟨h1, t, h2, a, h3, rfl, rfl⟩), rfl⟩⟩
theorem RC {R : List (List Ar)} (hv : BL R = true) (hn : R.length <= 100) : (H5 R).length = R.length /\ ∀ r ∈ H5 R, r.length <= 1000000 /\ ∀ a ∈ r, 0 <= a.2 /\ a.2 < (R.length : Int) := by
 have hlo : BK R = true := gEg (gE4 hv).1
 have hl : (H5 R).length = R.length := RA _ _ _
 have hev := H4 (R := R) (fun r hr a ha => by have := (gE4 hlo).2.2.2 r hr a ha; omega) R.length (Nat.le_refl _)
 have hevl : (WY R R.length).length <= 1026 := H3 hev.1 (by simpa using hev.2.1)
 refine ⟨hl, fun r hr => ?_⟩
 obtain ⟨s, hs, rfl⟩ := List.mem_map.1 hr
 rw [List.mem_range] at hs
 have h1 := RB hlo (Ev := WY R R.length) hs _ (Nat.le_refl _)
 have h2 : (WY R R.length).length * R.length <= 1026 * 100 := Nat.mul_le_mul hevl hn
 refine ⟨by unfold X4; omega, fun a ha => ?_⟩
 unfold X4 X3 at ha
 obtain ⟨e, _, h⟩ := List.mem_flatMap.1 ha
 obtain ⟨x, hx, rfl⟩ := List.mem_map.1 h
 exact (QC hlo hs).2 x hx
def X6 (B : List Bool) (s : Nat) : Int := if B.getD s false = B.getD 0 false then 0 else 1
def X7 (B : List Bool) (n : Nat) : List Int := (List.range n).map (X6 B)
theorem Gn {B : List Bool} {n s : Nat} (h : s < n) : (X7 B n).getD s 0 = X6 B s := by simp [X7, gE2, h]
theorem Tz {B : List Bool} : ∀ n, 1 <= n -> (Ww (fun s => B.getD s false) n).1 = X7 B n /\ ((Ww (fun s => B.getD s false) n).2 = 1 /\ (∀ s, s < n -> B.getD s false = B.getD 0 false) \/ (Ww (fun s => B.getD s false) n).2 = 2 /\ ∃ s, s < n /\ B.getD s false ≠ B.getD 0 false) := by
 intro n
 induction n with
 | zero => intro h; omega
 | succ n ih =>
  intro _
  by_cases h0 : n = 0
  ·subst h0
   refine ⟨?_, .inl ⟨rfl, fun s hs => by rw [show s = 0 by omega]⟩⟩
   show ([] ++ [((0 : Nat) : Int)]) = _
   simp [X7, X6]
  obtain ⟨h1, h2⟩ := ih (by omega)
  have hd : X7 B (n + 1) = X7 B n ++ [X6 B n] := by simp [X7, List.range_succ]
  rcases EC (fun s => B.getD s false) n with ⟨t, a1, a2, a3, a4⟩ | ⟨a3, a4⟩
  ·rw [a4, hd, h1, Gn a1]
   have e1 : X6 B t = X6 B n := by unfold X6; rw [a2]
   refine ⟨by rw [e1], ?_⟩
   rcases h2 with ⟨b1, b2⟩ | ⟨b1, s, b2, b3⟩
   rotate_left
   ·exact .inr ⟨b1, s, by omega, b3⟩
   refine .inl ⟨b1, fun s hs => ?_⟩
   by_cases e : s = n
   ·subst e; rw [<- a2]; exact b2 t a1
   exact b2 s (by omega)
  have hne := a3 0 (by omega)
  have hone : (Ww (fun s => B.getD s false) n).2 = 1 := by
   rcases h2 with ⟨b1, _⟩ | ⟨_, s, b2, b3⟩
   ·exact b1
   exfalso
   have c1 := a3 s b2
   revert hne c1 b3
   generalize B.getD s false = x
   generalize B.getD 0 false = y
   generalize B.getD n false = z
   cases x <;> cases y <;> cases z <;> simp
  rw [a4, hd, h1, hone]
  refine ⟨by unfold X6; rw [if_neg (Ne.symm hne)]; rfl, .inr ⟨rfl, n, by omega, Ne.symm hne⟩⟩
theorem Jq (B : List Bool) {n : Nat} (h : 1 <= n) : Nrm n (X7 B n) := by
 rw [<- (Tz n h).1]
 exact Qx _ _
def DlC (R : List (List Ar)) (c : List Int) : Prop := ∃ B, DvL R B /\ FxS (H5 R) (X7 B R.length) c
end Go.Proofs.YthnkailnoobdoaaGreatDoor
