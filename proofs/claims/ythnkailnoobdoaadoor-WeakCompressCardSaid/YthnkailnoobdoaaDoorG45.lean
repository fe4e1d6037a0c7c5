/- Lemmas. -/
import Derived.Test.YthnkailnoobdoaaDoorG42
import Derived.Test.YthnkailnoobdoaaDoorTj1
import Derived.Test.YthnkailnoobdoaaDoorMF
import Derived.Test.YthnkailnoobdoaaDoorMG
namespace Go.Proofs.YthnkailnoobdoaaDoor
set_option linter.unusedVariables false
set_option linter.unusedSimpArgs false
open Go.RowKit
set_option maxRecDepth 100000
attribute [local go_sem] lga C.pl C.one

def Vz (B : List Bool) : List C := B.map fun b => C.v (.bool b)
theorem H6 (B : List Bool) : (Vz B).length = B.length := by simp [Vz]
theorem Qu {B : List Bool} {i : Nat} {b : Bool} (h : B[i]? = some b) : (Vz B)[i]? = some (.v (.bool b)) := by simp [Vz, h]
theorem H7 (B : List Bool) (i : Nat) (b : Bool) : (Vz B).set i (.v (.bool b)) = Vz (B.set i b) := by simp [Vz, List.map_set]
theorem CE (f : List Nat) (B : List Bool) : (Vz B).map (C.ren f) = Vz B := by simp [Vz, C.ren, Function.comp_def]
def Sd (t : Bool) (r : List Ar) : List Ar := r.filter fun a => !t || a.1 == 0
def Tj (t : Bool) (R : List (List Ar)) (v : Nat) : List Nat := (Sd t (R.getD v [])).map fun a => a.2.toNat
def DI (B : List Bool) (u : Nat) : Bool := B.getD u false
structure Rs (E : Nat -> List Nat) (n : Nat) (F : List Nat) (B : List Bool) (Q : List Nat) : Prop where
 len : B.length = n
 snd : ∀ u, DI B u = true -> ∃ v ∈ F, Rc E v u
 q : ∀ u ∈ Q, u < n /\ ∃ v ∈ F, Rc E v u
 cl : ∀ u, DI B u = true -> ∀ w ∈ E u, DI B w = true \/ w ∈ Q
 st : ∀ v ∈ F, DI B v = true \/ v ∈ Q
variable {E : Nat -> List Nat} {n u : Nat} {F : List Nat} {B : List Bool} {Q : List Nat}
theorem Rs.start (hF : ∀ v ∈ F, v < n) : Rs E n F (List.replicate n false) F := by
 have e : ∀ u, DI (List.replicate n false) u = false := fun u => by
  unfold DI; rw [gE2, List.getElem?_replicate]; split <;> rfl
 exact ⟨by simp, fun u h => (by rw [e] at h; cases h), fun u h => ⟨hF u h, u, h, .refl _⟩, fun u h => (by rw [e] at h; cases h), fun v h => .inr h⟩
theorem Rs.old (h : Rs E n F B (Q ++ [u])) (hs : DI B u = true) : Rs E n F B Q := by
 refine ⟨h.len, h.snd, fun w hw => h.q w (List.mem_append_left _ hw), fun w hw x hx => ?_, fun v hv => ?_⟩
 rotate_left
 ·rcases h.st v hv with h1 | h1
  ·exact .inl h1
  rcases List.mem_append.1 h1 with h1 | h1
  ·exact .inr h1
  simp at h1; subst h1; exact .inl hs
 rcases h.cl w hw x hx with h1 | h1
 ·exact .inl h1
 rcases List.mem_append.1 h1 with h1 | h1
 ·exact .inr h1
 simp at h1; subst h1; exact .inl hs
theorem Rs.done (h : Rs E n F B []) (u : Nat) : DI B u = true ↔ ∃ v ∈ F, Rc E v u := by
 refine ⟨h.snd u, fun ⟨v, hv, hr⟩ => ?_⟩
 induction hr with
 | refl => exact (h.st v hv).resolve_right (by simp)
 | tail _ he ih => exact (h.cl _ (ih ⟨v, hv, ‹_›⟩) _ he).resolve_right (by simp)
end Go.Proofs.YthnkailnoobdoaaDoor
namespace Go.Proofs.YthnkailnoobdoaaDoor
set_option linter.unusedVariables false
set_option linter.unusedSimpArgs false

def VA (f : Nat -> Nat) (c : Nat) (o : List (List Ar)) (a : Ar) : List (List Ar) := o.set c (o.getD c [] ++ [(a.1, (f a.2.toNat : Int))])
def Tk (f : Nat -> Nat) (c : Nat) (o : List (List Ar)) (row : List Ar) : List (List Ar) := row.foldl (VA f c) o
theorem Qv (f : Nat -> Nat) (c : Nat) (o : List (List Ar)) (a : Ar) : (VA f c o a).length = o.length := by simp [VA]
theorem Rc.lt {E : Nat -> List Nat} {n u v : Nat} (h : Rc E u v) (hu : u < n) (hE : ∀ x, x < n -> ∀ y ∈ E x, y < n) : v < n := by
 induction h with
 | refl => exact hu
 | tail _ he ih => exact hE _ ih _ he
theorem Bv {R : List (List Ar)} (t : Bool) (hv : Bd R = true) : ∀ x, x < R.length -> ∀ y ∈ Vo t R x, y < R.length := by
 intro x hx y hy
 unfold Vo at hy
 rw [gE2, gE1 hx, Option.getD_some] at hy
 obtain ⟨a, ha, rfl⟩ := List.mem_map.1 hy
 have h1 : a ∈ R[x] := by
  unfold C5 at ha
  split at ha
  ·exact (List.takeWhile_sublist _).subset ha
  exact ha
 have h2 := (gE4 hv).2.2.2 _ (gE6 hx) a h1
 omega
theorem Of (o : List (List Ar)) {c : Nat} (h : c < o.length) (x : Ar) : AA (o.set c (o.getD c [] ++ [x])) = AA o + 1 := by
 induction o generalizing c with
 | nil => simp at h
 | cons a r ih =>
  cases c with
  | zero => simp [AA]; omega
  | succ c =>
   have := ih (c := c) (by simpa using h)
   simp only [List.set_cons_succ, List.getD_cons_succ]
   simp only [AA, List.map_cons, List.sum_cons] at this ⊢
   omega
theorem DB (o : List (List Ar)) (c : Nat) : (o.getD c []).length <= AA o := by
 induction o generalizing c with
 | nil => simp
 | cons a r ih =>
  cases c with
  | zero => simp [AA]
  | succ c =>
   have := ih c
   simp only [List.getD_cons_succ]
   simp only [AA, List.map_cons, List.sum_cons] at this ⊢
   omega
theorem Og (m : Nat) : AA (List.replicate m []) = 0 := by
 unfold AA
 rw [List.map_replicate, List.sum_replicate_nat]; simp
def TlP (m : Nat) (o : List (List Ar)) : Prop := ∀ r ∈ o, ∀ a ∈ r, 0 <= a.1 /\ a.1 <= 1025 /\ 0 <= a.2 /\ a.2 < (m : Int)
theorem TlP.one {f : Nat -> Nat} {m c : Nat} {o : List (List Ar)} {a : Ar} (h : TlP m o) (ha : 0 <= a.1 /\ a.1 <= 1025) (hf : f a.2.toNat < m) : TlP m (VA f c o a) := by
 intro r hr b hb
 rcases List.mem_or_eq_of_mem_set hr with h1 | h1
 ·exact h r h1 b hb
 subst h1
 rcases List.mem_append.1 hb with h2 | h2
 rotate_left
 ·simp at h2; subst h2
  exact ⟨ha.1, ha.2, by simp only; omega, by simp only; omega⟩
 rw [gE2] at h2
 rcases Nat.lt_or_ge c o.length with h3 | h3
 rotate_left
 ·rw [List.getElem?_eq_none h3] at h2; simp at h2
 rw [gE1 h3, Option.getD_some] at h2
 exact h _ (gE6 h3) b h2
theorem KV {r : List Ar} (hs : SortA r) (h0 : ∀ a ∈ r, 0 <= a.1) (t : Bool) : Sd t r = C5 t r := by
 cases t with
 | false => unfold Sd C5; simp
 | true =>
  unfold Sd C5
  rw [if_pos rfl]
  simp only [Bool.not_true, Bool.false_or]
  induction r with
  | nil => rfl
  | cons a r ih =>
   have hs2 := List.pairwise_cons.1 hs
   by_cases h : (a.1 == 0) = true
   ·rw [List.filter_cons, if_pos h, List.takeWhile_cons, if_pos h, ih hs2.2 fun b hb => h0 b (gEf _ hb)]
   rw [List.filter_cons, if_neg h, List.takeWhile_cons, if_neg h]
   refine List.filter_eq_nil_iff.2 fun b hb => ?_
   have h1 := hs2.1 b hb
   rw [CD] at h1
   have h2 := h0 a List.mem_cons_self
   have h3 : a.1 ≠ 0 := fun e => h (by simp [e])
   have : b.1 ≠ 0 := by omega
   simpa using this
theorem Se {R : List (List Ar)} (t : Bool) (hv : AR R = true) : Tj t R = Vo t R := by
 funext v
 unfold Tj Vo
 rcases Nat.lt_or_ge v R.length with h | h
 rotate_left
 ·rw [gE2, List.getElem?_eq_none h, Option.getD_none]
  cases t <;> rfl
 rw [gE2, gE1 h, Option.getD_some]
 have h2 := gE4 hv
 rw [KV (h2.2 _ (gE6 h)) fun a ha => (h2.1.2.2.2 _ (gE6 h) a ha).1]
theorem Least.uniq {E : Nat -> List Nat} {v : Nat} {x y : Int} (h1 : Least E v x) (h2 : Least E v y) : x = y := by
 obtain ⟨m, a1, a2, a3, a4⟩ := h1
 obtain ⟨k, b1, b2, b3, b4⟩ := h2
 have := a4 k b2 b3
 have := b4 m a2 a3
 omega
open Go.RowKit
set_option maxRecDepth 100000
attribute [local go_sem] lga C.pl C.one
theorem PE {l : List Int} {n : Nat} (h : Vb l) (hb : ∀ x ∈ l, 0 <= x /\ x < (n : Int)) : l.length <= n := by
 have h1 : (l.map Int.toNat).Nodup := by
  unfold Vb at h
  rw [List.Nodup, List.pairwise_map]
  refine h.imp_of_mem fun {a b} ha hb2 hab e => ?_
  have := hb a ha
  have := hb b hb2
  omega
 have := JT n (l.map Int.toNat) h1 fun u hu => by
  obtain ⟨x, hx, rfl⟩ := List.mem_map.1 hu
  have := hb x hx
  omega
 simpa using this
def AX (L : List (List Int)) : List C := L.map fun r => C.o (1, 3) (Ad r)
theorem Bf (L : List (List Int)) : (AX L).length = L.length := by simp [AX]
theorem EF (L : List (List Int)) (i : Nat) (x : List Int) : (AX L).set i (.o (1, 3) (Ad x)) = AX (L.set i x) := by simp [AX, List.map_set]
theorem CN (f : List Nat) (L : List (List Int)) : (AX L).map (C.ren f) = AX L := by simp [AX, C.ren, Function.comp_def]
def RowOk (E : Nat -> List Nat) (n j : Nat) (L : List Int) : Prop := ∃ B : List Bool, B.length = n /\ (∀ u, DI B u = true ↔ Rc E j u) /\ L = ((List.range n).filter (DI B)).map Int.ofNat
theorem RowOk.mem {E : Nat -> List Nat} {n j : Nat} {L : List Int} (h : RowOk E n j L) {u : Nat} (hu : u < n) : (u : Int) ∈ L ↔ Rc E j u := by
 obtain ⟨B, _, h2, rfl⟩ := h
 rw [Ff, List.mem_filter, List.mem_range, h2]
 exact ⟨fun h => h.2, fun h => ⟨hu, h⟩⟩
theorem RowOk.len {E : Nat -> List Nat} {n j : Nat} {L : List Int} (h : RowOk E n j L) : L.length <= n := by
 obtain ⟨B, _, h2, rfl⟩ := h
 rw [List.length_map]
 have := List.length_filter_le (DI B) (List.range n)
 simpa using this
def Dv (R : List (List Ar)) (s : Nat) : Prop := ∃ g, Rc (Vo true R) s g /\ ∃ w, w ∈ Vo true R g /\ Rc (Vo true R) w g
def VB (s : Nat) (o : List (List Int)) (a : Ar) : List (List Int) := o.set a.2.toNat (o.getD a.2.toNat [] ++ [(s : Int)])
def DJ (s : Nat) (o : List (List Int)) (row : List Ar) : List (List Int) := row.foldl (VB s) o
def VC (R : List (List Ar)) : Nat -> List (List Int)
 | 0 => List.replicate R.length []
 | k + 1 => DJ k (VC R k) (C5 true (R.getD k []))
def Ld (o : List (List Int)) : Nat := (o.map List.length).sum
theorem IU (s : Nat) (o : List (List Int)) (a : Ar) : (VB s o a).length = o.length := by simp [VB]
theorem I7 (s : Nat) (row : List Ar) : ∀ o, (DJ s o row).length = o.length := by
 induction row with
 | nil => intro o; rfl
 | cons a r ih => intro o; show (DJ s (VB s o a) r).length = _; rw [ih, IU]
theorem FS (R : List (List Ar)) (k : Nat) : (VC R k).length = R.length := by
 induction k with
 | zero => simp [VC]
 | succ k ih => rw [VC, I7, ih]
theorem KW (s : Nat) (o : List (List Int)) (row : List Ar) (a : Ar) : DJ s o (row ++ [a]) = VB s (DJ s o row) a := by unfold DJ; rw [List.foldl_append]; rfl
theorem Oh (o : List (List Int)) {c : Nat} (h : c < o.length) (x : Int) : Ld (o.set c (o.getD c [] ++ [x])) = Ld o + 1 := by
 induction o generalizing c with
 | nil => simp at h
 | cons y r ih =>
  cases c with
  | zero => simp [Ld]; omega
  | succ c =>
   have := ih (c := c) (by simpa using h)
   simp only [List.set_cons_succ, List.getD_cons_succ]
   simp only [Ld, List.map_cons, List.sum_cons] at this ⊢
   omega
theorem JV (o : List (List Int)) (c : Nat) : (o.getD c []).length <= Ld o := by
 induction o generalizing c with
 | nil => simp
 | cons y r ih =>
  cases c with
  | zero => simp [Ld]
  | succ c =>
   have := ih c
   simp only [List.getD_cons_succ]
   simp only [Ld, List.map_cons, List.sum_cons] at this ⊢
   omega
theorem Mf (s : Nat) (row : List Ar) : ∀ o : List (List Int), (∀ a ∈ row, a.2.toNat < o.length) -> Ld (DJ s o row) = Ld o + row.length := by
 induction row with
 | nil => intro o _; rfl
 | cons a r ih =>
  intro o h
  show Ld (DJ s (VB s o a) r) = _
  rw [ih _ (by rw [IU]; exact fun b hb => h b (gEf _ hb))]
  unfold VB
  rw [Oh o (h a (by simp))]
  simp only [List.length_cons]; omega
theorem Qw {s t : Nat} {o : List (List Int)} {a : Ar} {x : Int} (h : a.2.toNat < o.length) : x ∈ (VB s o a).getD t [] ↔ x ∈ o.getD t [] \/ (a.2.toNat = t /\ x = (s : Int)) := by
 unfold VB
 rw [gE2]
 by_cases e : a.2.toNat = t
 rotate_left
 ·rw [gE5 e, <- gE2]
  simp [e]
 subst e
 rw [gEc h, Option.getD_some, List.mem_append]
 simp
theorem Mg {s t : Nat} {x : Int} : ∀ (row : List Ar) (o : List (List Int)), (∀ a ∈ row, a.2.toNat < o.length) -> (x ∈ (DJ s o row).getD t [] ↔ x ∈ o.getD t [] \/ (x = (s : Int) /\ t ∈ row.map fun a => a.2.toNat)) := by
 intro row
 induction row with
 | nil => intro o _; simp [DJ]
 | cons a r ih =>
  intro o h
  show x ∈ (DJ s (VB s o a) r).getD t [] ↔ _
  rw [ih _ (by rw [IU]; exact fun b hb => h b (gEf _ hb)), Qw (h a (by simp))]
  simp only [List.map_cons, List.mem_cons]
  constructor
  rotate_left
  ·rintro (h | ⟨h1, h2 | h2⟩)
   ·exact .inl (.inl h)
   ·exact .inl (.inr ⟨h2.symm, h1⟩)
   exact .inr ⟨h1, h2⟩
  rintro ((h | ⟨h1, h2⟩) | ⟨h1, h2⟩)
  ·exact .inl h
  ·exact .inr ⟨h2, .inl h1.symm⟩
  exact .inr ⟨h1, .inr h2⟩
theorem Mh {t : Bool} {r : List Ar} : ∀ a ∈ C5 t r, a ∈ r := fun a ha => by
 unfold C5 at ha
 split at ha
 ·exact (List.takeWhile_sublist _).subset ha
 ·exact ha
theorem FT (t : Bool) (r : List Ar) : (C5 t r).length <= r.length := by
 unfold C5
 split
 ·exact (List.takeWhile_sublist _).length_le
 exact Nat.le_refl _
theorem I8 {R : List (List Ar)} (hlo : Bd R = true) {k : Nat} : ∀ a ∈ C5 true (R.getD k []), 0 <= a.2 /\ a.2.toNat < R.length := fun a ha => by
 have h1 := Mh a ha
 rcases Nat.lt_or_ge k R.length with h | h
 ·rw [gE2, gE1 h] at h1
  have := (gE4 hlo).2.2.2 _ (gE6 h) a h1
  omega
 ·rw [gE2, List.getElem?_eq_none h] at h1; simp at h1
theorem Qx {R : List (List Ar)} (hlo : Bd R = true) {t : Nat} {x : Int} : ∀ k, x ∈ (VC R k).getD t [] ↔ ∃ s, s < k /\ x = (s : Int) /\ t ∈ Vo true R s := by
 intro k
 induction k with
 | zero =>
  simp only [VC, gE2, List.getElem?_replicate]
  split <;> simp
 | succ k ih =>
  rw [VC, Mg _ _ (by rw [FS]; exact fun a ha => (I8 hlo a ha).2), ih]
  constructor
  ·rintro (⟨s, h1, h2, h3⟩ | ⟨h1, h2⟩)
   ·exact ⟨s, by omega, h2, h3⟩
   exact ⟨k, by omega, h1, h2⟩
  rintro ⟨s, h1, h2, h3⟩
  by_cases e : s = k
  ·subst e; exact .inr ⟨h2, h3⟩
  exact .inl ⟨s, by omega, h2, h3⟩
theorem JW {R : List (List Ar)} (hlo : Bd R = true) : ∀ k, k <= R.length -> Ld (VC R k) <= AA (R.take k) := by
 intro k
 induction k with
 | zero => intro _; simp [VC, Ld, AA]
 | succ k ih =>
  intro hk
  have h1 := ih (by omega)
  have h2 := Cb (R := R) (k := k) hk
  have h3 := FT true (R.getD k [])
  have h4 : R.getD k [] = R[k] := by rw [gE2, gE1 hk]; rfl
  rw [VC, Mf _ _ _ (by rw [FS]; exact fun a ha => (I8 hlo a ha).2)]
  rw [h4] at h3 ⊢
  omega
structure Bq (E : Nat -> List Nat) (n : Nat) (G : Nat -> Prop) (O : List Int) (Q : List Nat) : Prop where
 len : O.length = n
 lt : ∀ q ∈ Q, q < n
 nd : Q.Nodup
 iff : ∀ s, s < n -> (0 <= Vn O (-1) s ↔ s ∈ Q)
 hi : ∀ s, Vn O (-1) s <= (Q.length : Int)
 rc : ∀ q ∈ Q, ∃ g, g < n /\ G g /\ Rc E q g
section
variable {E : Nat -> List Nat} {n : Nat} {G : Nat -> Prop} {O : List Int} {Q : List Nat}
theorem Bq.qlen (h : Bq E n G O Q) : Q.length <= n := by
 have := h.nd.length_le_of_subset (l₂ := List.range n) fun q hq => List.mem_range.2 (h.lt q hq)
 simpa using this
theorem Bq.start (E : Nat -> List Nat) (n : Nat) (G : Nat -> Prop) : Bq E n G (List.replicate n (-1)) [] := by
 refine ⟨by simp, by simp, List.nodup_nil, fun s hs => ?_, fun s => ?_, by simp⟩
 ·rw [BM (by simpa using hs)]; simp
 unfold Vn
 rw [List.getElem?_replicate]
 split <;> simp
theorem Bq.push (h : Bq E n G O Q) {s : Nat} (hs : s < n) (hq : s ∉ Q) {v : Int} (h0 : 0 <= v) (h1 : v <= (Q.length : Int) + 1) (hr : ∃ g, g < n /\ G g /\ Rc E s g) : Bq E n G (O.set s v) (Q ++ [s]) := by
 have hl := h.len
 refine ⟨by simp [hl], fun q hq => ?_, ?_, fun t ht => ?_, fun t => ?_, fun q hq => ?_⟩
 rotate_left 4
 ·rcases List.mem_append.1 hq with h2 | h2
  ·exact h.rc q h2
  simp at h2; subst h2; exact hr
 ·rcases List.mem_append.1 hq with h2 | h2
  ·exact h.lt q h2
  simp at h2; subst h2; exact hs
 ·rw [List.nodup_append]
  exact ⟨h.nd, by simp, fun a ha b hb => by simp at hb; subst hb; intro e; subst e; exact hq ha⟩
 ·rw [Dk (by omega)]
  unfold upd
  split
  ·rename_i e; subst e; simp [h0]
  rename_i e; rw [h.iff t ht]; simp [e]
 rw [Dk (by omega)]
 unfold upd
 simp only [List.length_append, List.length_singleton]
 split
 ·omega
 have := h.hi t; omega
theorem Bq.done (h : Bq E n G O Q) (hE : ∀ x, x < n -> ∀ y ∈ E x, y < n) (hg : ∀ g, g < n -> G g -> g ∈ Q) (hc : ∀ q ∈ Q, ∀ p, p < n -> q ∈ E p -> p ∈ Q) {s : Nat} (hs : s < n) : 0 <= Vn O (-1) s ↔ ∃ g, g < n /\ G g /\ Rc E s g := by
 rw [h.iff s hs]
 constructor
 ·exact h.rc s
 rintro ⟨g, h1, h2, h3⟩
 have key : ∀ x, Rc E s x -> x ∈ Q -> s ∈ Q := by
  intro x hx
  induction hx with
  | refl => exact id
  | tail hv hw ih => exact fun hq => ih (hc _ hq _ (hv.lt hs hE) hw)
 exact key g h3 (hg g h1 h2)
end
def VD (D : List Int) (s : Nat) (row : List Ar) : Bool := row.any fun a => decide (D.getD a.2.toNat 0 = D.getD s 0)
def VE (R : List (List Ar)) (D : List Int) (k : Nat) : List Bool := (List.range k).map fun s => VD D s (C5 true (R.getD s []))
theorem EG (R : List (List Ar)) (D : List Int) (k : Nat) : (VE R D k).length = k := by simp [VE]
theorem Oi (D : List Int) (s : Nat) (row : List Ar) (a : Ar) : VD D s (row ++ [a]) = (VD D s row || decide (D.getD a.2.toNat 0 = D.getD s 0)) := by simp [VD]
theorem Mi {R : List (List Ar)} {D : List Int} (hlo : Bd R = true) (hD : D.length = R.length) (hL : ∀ v, v < R.length -> Least (Vo true R) v (Vn D (-1) v)) {g : Nat} (hg : g < R.length) : (VE R D R.length).getD g false = true ↔ ∃ w, w ∈ Vo true R g /\ Rc (Vo true R) w g := by
 have e1 : (VE R D R.length).getD g false = VD D g (C5 true (R.getD g [])) := by simp [VE, gE2, hg]
 have hE := Bv true hlo
 have hd : ∀ v, v < R.length -> D.getD v 0 = Vn D (-1) v := fun v hv => by rw [BM (by omega), gE2, gE1 (by omega)]; rfl
 rw [e1]
 unfold VD
 rw [List.any_eq_true]
 simp only [decide_eq_true_eq]
 constructor
 ·rintro ⟨a, ha, e⟩
  have hw : a.2.toNat ∈ Vo true R g := List.mem_map.2 ⟨a, ha, rfl⟩
  have hwl := hE g hg _ hw
  rw [hd _ hwl, hd _ hg] at e
  obtain ⟨x, ex, p1, p2, _⟩ := hL _ hwl
  obtain ⟨y, ey, q1, q2, _⟩ := hL _ hg
  have : x = y := by omega
  subst this
  exact ⟨_, hw, p1.trans q2⟩
 rintro ⟨w, hw, hr⟩
 obtain ⟨a, ha, rfl⟩ := List.mem_map.1 hw
 refine ⟨a, ha, ?_⟩
 have hwl := hE g hg _ hw
 rw [hd _ hwl, hd _ hg]
 obtain ⟨x, ex, p1, p2, p3⟩ := hL _ hwl
 obtain ⟨y, ey, q1, q2, q3⟩ := hL _ hg
 have hgw : Rc (Vo true R) g a.2.toNat := .one hw
 have l1 := p3 y (hr.trans q1) (q2.trans hgw)
 have l2 := q3 x (hgw.trans p1) (p2.trans hr)
 omega
def DvL (R : List (List Ar)) (B : List Bool) : Prop := B.length = R.length /\ ∀ s, s < R.length -> (B.getD s false = true ↔ Dv R s)
theorem DvL.uniq {R : List (List Ar)} {A B : List Bool} (h1 : DvL R A) (h2 : DvL R B) : A = B := by
 refine List.ext_getElem (by rw [h1.1, h2.1]) fun i hi hj => ?_
 have a := h1.2 i (by have := h1.1; omega)
 have b := h2.2 i (by have := h1.1; omega)
 rw [gE2, gE1 hi, Option.getD_some] at a
 rw [gE2, gE1 hj, Option.getD_some] at b
 rw [Bool.eq_iff_iff, a, b]
def VF (acc : List Int) (r : List Ar) : List Int := r.foldl (fun acc a => LK a.1 acc) acc
def VG (R : List (List Ar)) (k : Nat) : List Int := (R.take k).foldl VF [0]
theorem Oj {R : List (List Ar)} {k : Nat} (h : k < R.length) : VG R (k + 1) = VF (VG R k) R[k] := by
 unfold VG
 rw [gE8 h, List.foldl_append]; rfl
theorem H8 {x : Int} : ∀ (r : List Ar) (acc : List Int), x ∈ VF acc r ↔ x ∈ acc \/ ∃ a ∈ r, a.1 = x
 | [], acc => by simp [VF]
 | a :: r, acc => by
  show x ∈ VF (LK a.1 acc) r ↔ _
  rw [H8 r, Ea]
  simp only [List.mem_cons, exists_eq_or_imp]
  constructor
  ·rintro ((rfl | h) | h)
   ·exact .inr (.inl rfl)
   ·exact .inl h
   ·exact .inr (.inr h)
  ·rintro (h | h | h)
   ·exact .inl (.inr h)
   ·exact .inl (.inl h.symm)
   ·exact .inr h
theorem Mj : ∀ (r : List Ar) (acc : List Int), Vb acc -> Vb (VF acc r)
 | [], _, h => h
 | _ :: r, _, h => Mj r _ (Jz h)
theorem JX {R : List (List Ar)} (hb : ∀ r ∈ R, ∀ a ∈ r, 0 <= a.1 /\ a.1 <= 1025) (k : Nat) : k <= R.length -> Vb (VG R k) /\ (∀ x ∈ VG R k, 0 <= x /\ x < 1026) /\ (0 : Int) ∈ VG R k /\ ∀ r ∈ R.take k, ∀ a ∈ r, a.1 ∈ VG R k := by
 induction k with
 | zero => intro _; exact ⟨by simp [VG, Vb], by simp [VG], by simp [VG], by simp⟩
 | succ k ih =>
  intro hk
  obtain ⟨h1, h2, h3, h4⟩ := ih (by omega)
  have hkl : k < R.length := hk
  rw [Oj hkl]
  refine ⟨Mj _ _ h1, fun x hx => ?_, (H8 _ _).2 (.inl h3), fun r hr a ha => ?_⟩
  ·rcases (H8 _ _).1 hx with h | ⟨a, ha, rfl⟩
   ·exact h2 x h
   have := hb _ (gE6 hkl) a ha; omega
  rw [H8]
  rw [gE8 hkl] at hr
  rcases List.mem_append.1 hr with h | h
  ·exact .inl (h4 r h a ha)
  simp at h; subst h; exact .inr ⟨a, ha, rfl⟩
noncomputable def VH (R : List (List Ar)) (s : Nat) : List Nat := RK R.length (fun u => @decide (Rc (Vo true R) s u) (Classical.propDecidable _))
theorem FU {R : List (List Ar)} {s u : Nat} : u ∈ VH R s ↔ u < R.length /\ Rc (Vo true R) s u := by
 unfold VH
 rw [El]
 simp
noncomputable def VI (R : List (List Ar)) (s : Nat) (e : Int) : List Int := if e = 0 then (VH R s).map Int.ofNat else (RK R.length (fun u => decide (u ∈ tg R (VH R s) e))).map Int.ofNat
theorem IV {R : List (List Ar)} (hlo : Bd R = true) {s : Nat} (hs : s < R.length) {e x : Int} : x ∈ VI R s e ↔ (e = 0 /\ ∃ u : Nat, x = (u : Int) /\ Rc (Vo true R) s u) \/ (e ≠ 0 /\ ∃ t, Rc (Vo true R) s t /\ ∃ a ∈ R.getD t [], a.1 = e /\ a.2 = x) := by
 have hE := Bv true hlo
 unfold VI
 by_cases e0 : e = 0
 ·rw [if_pos e0, List.mem_map]
  constructor
  ·rintro ⟨u, hu, rfl⟩
   exact .inl ⟨e0, u, rfl, (FU.1 hu).2⟩
  rintro (⟨_, u, rfl, hu⟩ | ⟨h, _⟩)
  ·exact ⟨u, FU.2 ⟨hu.lt hs hE, hu⟩, rfl⟩
  exact absurd e0 h
 rw [if_neg e0, List.mem_map]
 constructor
 ·rintro ⟨u, hu, rfl⟩
  rw [El, decide_eq_true_iff, PD] at hu
  obtain ⟨_, t, ht, h2⟩ := hu
  obtain ⟨a, ha, h3, h4⟩ := Me.1 h2
  have htl := (FU.1 ht).1
  have hb : 0 <= a.2 := by
   rw [gE2, gE1 htl, Option.getD_some] at ha
   exact ((gE4 hlo).2.2.2 _ (gE6 htl) a ha).2.2.1
  exact .inr ⟨e0, t, (FU.1 ht).2, a, ha, h3, by simp only [Int.ofNat_eq_natCast]; omega⟩
 rintro (⟨h, _⟩ | ⟨_, t, ht, a, ha, h3, rfl⟩)
 ·exact absurd h e0
 have htl := ht.lt hs hE
 have hb := ha
 rw [gE2, gE1 htl, Option.getD_some] at hb
 have hb2 := (gE4 hlo).2.2.2 _ (gE6 htl) a hb
 refine ⟨a.2.toNat, ?_, by simp only [Int.ofNat_eq_natCast]; omega⟩
 rw [El, decide_eq_true_iff, PD]
 exact ⟨by omega, t, FU.2 ⟨htl, ht⟩, Me.2 ⟨a, ha, h3, rfl⟩⟩
theorem PF {R : List (List Ar)} (hlo : Bd R = true) {s : Nat} {e : Int} (hs : s < R.length) : (VI R s e).length <= R.length /\ ∀ x ∈ VI R s e, 0 <= x /\ x < (R.length : Int) := by
 have hl : ∀ p : Nat -> Bool, (RK R.length p).length <= R.length := fun p => by
  unfold RK
  exact Nat.le_trans (List.length_filter_le _ _) (by simp)
 refine ⟨?_, fun x hx => ?_⟩
 ·unfold VI
  split <;> rw [List.length_map] <;> exact hl _
 unfold VI at hx
 split at hx
 ·obtain ⟨u, hu, rfl⟩ := List.mem_map.1 hx
  have := (El.1 hu).1
  simp only [Int.ofNat_eq_natCast]; omega
 obtain ⟨u, hu, rfl⟩ := List.mem_map.1 hx
 have := (El.1 hu).1
 simp only [Int.ofNat_eq_natCast]; omega
noncomputable def VJ (R : List (List Ar)) (s : Nat) (e : Int) : List Ar := (VI R s e).map fun u => (e, u)
noncomputable def VK (R : List (List Ar)) (Ev : List Int) (s k : Nat) : List Ar := (Ev.take k).flatMap (VJ R s)
noncomputable def VM (R : List (List Ar)) (Ev : List Int) (s : Nat) : List Ar := VK R Ev s Ev.length
noncomputable def VN (R : List (List Ar)) (Ev : List Int) (k : Nat) : List (List Ar) := (List.range k).map (VM R Ev)
theorem Qy (R : List (List Ar)) (Ev : List Int) (k : Nat) : (VN R Ev k).length = k := by simp [VN]
theorem Ol {R : List (List Ar)} {Ev : List Int} {s k : Nat} (h : k < Ev.length) : VK R Ev s (k + 1) = VK R Ev s k ++ VJ R s Ev[k] := by
 unfold VK
 rw [gE8 h, List.flatMap_append]
 simp
theorem Qz {R : List (List Ar)} (hlo : Bd R = true) {Ev : List Int} {s : Nat} (hs : s < R.length) : ∀ k, k <= Ev.length -> (VK R Ev s k).length <= k * R.length := by
 intro k
 induction k with
 | zero => intro _; simp [VK]
 | succ k ih =>
  intro hk
  have h1 := ih (by omega)
  have h2 := (PF hlo (e := Ev[k]) hs).1
  rw [Ol hk, List.length_append, VJ, List.length_map, Nat.succ_mul]
  omega
noncomputable def CU (R : List (List Ar)) : List (List Ar) := VN R (VG R R.length) R.length
theorem Ci {R : List (List Ar)} (hv : AR R = true) {s : Nat} (hs : s < R.length) {a : Ar} : a ∈ (CU R).getD s [] ↔ (a.1 = 0 /\ ∃ u : Nat, a.2 = (u : Int) /\ Rc (Vo true R) s u) \/ (a.1 ≠ 0 /\ ∃ t, Rc (Vo true R) s t /\ a ∈ R.getD t []) := by
 have hlo : Bd R = true := gEg (gE4 hv).1
 have hg : (CU R).getD s [] = VM R (VG R R.length) s := by simp [CU, VN, gE2, hs]
 have hev := JX (R := R) (fun r hr a ha => by have := (gE4 hlo).2.2.2 r hr a ha; omega) R.length (Nat.le_refl _)
 rw [List.take_length] at hev
 rw [hg]
 unfold VM VK
 rw [List.take_length, List.mem_flatMap]
 constructor
 ·rintro ⟨e, he, h⟩
  obtain ⟨x, hx, rfl⟩ := List.mem_map.1 h
  rcases (IV hlo hs).1 hx with ⟨h1, u, rfl, h2⟩ | ⟨h1, t, h2, b, hb, h3, h4⟩
  ·exact .inl ⟨h1, u, rfl, h2⟩
  refine .inr ⟨h1, t, h2, ?_⟩
  have : b = (e, x) := by rcases b with ⟨p, q⟩; simp only at h3 h4; rw [h3, h4]
  rw [<- this]; exact hb
 rintro (⟨h1, u, h2, h3⟩ | ⟨h1, t, h2, h3⟩)
 ·refine ⟨0, hev.2.2.1, List.mem_map.2 ⟨(u : Int), (IV hlo hs).2 (.inl ⟨rfl, u, rfl, h3⟩), ?_⟩⟩
  rcases a with ⟨p, q⟩; simp only at h1 h2 ⊢; rw [h1, h2]
 have htl := h2.lt hs (Bv true hlo)
 have h4 := h3
 rw [gE2, gE1 htl, Option.getD_some] at h4
 exact ⟨a.1, hev.2.2.2 _ (gE6 htl) a h4, List.mem_map.2 ⟨a.2, (IV hlo hs).2 (.inr ⟨h1, t, h2, a, h3, rfl, rfl⟩), rfl⟩⟩
theorem IW {R : List (List Ar)} (hv : AR R = true) (hn : R.length <= 100) : (CU R).length = R.length /\ ∀ r ∈ CU R, r.length <= 1000000 /\ ∀ a ∈ r, 0 <= a.2 /\ a.2 < (R.length : Int) := by
 have hlo : Bd R = true := gEg (gE4 hv).1
 have hl : (CU R).length = R.length := Qy _ _ _
 have hev := JX (R := R) (fun r hr a ha => by have := (gE4 hlo).2.2.2 r hr a ha; omega) R.length (Nat.le_refl _)
 have hevl : (VG R R.length).length <= 1026 := PE hev.1 (by simpa using hev.2.1)
 refine ⟨hl, fun r hr => ?_⟩
 obtain ⟨s, hs, rfl⟩ := List.mem_map.1 hr
 rw [List.mem_range] at hs
 have h1 := Qz hlo (Ev := VG R R.length) hs _ (Nat.le_refl _)
 have h2 : (VG R R.length).length * R.length <= 1026 * 100 := Nat.mul_le_mul hevl hn
 refine ⟨by unfold VM; omega, fun a ha => ?_⟩
 unfold VM VK at ha
 obtain ⟨e, _, h⟩ := List.mem_flatMap.1 ha
 obtain ⟨x, hx, rfl⟩ := List.mem_map.1 h
 exact (PF hlo hs).2 x hx
def VO (B : List Bool) (s : Nat) : Int := if B.getD s false = B.getD 0 false then 0 else 1
def VP (B : List Bool) (n : Nat) : List Int := (List.range n).map (VO B)
theorem Cp {B : List Bool} {n s : Nat} (h : s < n) : (VP B n).getD s 0 = VO B s := by simp [VP, gE2, h]
theorem Sf {B : List Bool} : ∀ n, 1 <= n -> (Vf (fun s => B.getD s false) n).1 = VP B n /\ ((Vf (fun s => B.getD s false) n).2 = 1 /\ (∀ s, s < n -> B.getD s false = B.getD 0 false) \/ (Vf (fun s => B.getD s false) n).2 = 2 /\ ∃ s, s < n /\ B.getD s false ≠ B.getD 0 false) := by
 intro n
 induction n with
 | zero => intro h; omega
 | succ n ih =>
  intro _
  by_cases h0 : n = 0
  ·subst h0
   refine ⟨?_, .inl ⟨rfl, fun s hs => by rw [show s = 0 by omega]⟩⟩
   show ([] ++ [((0 : Nat) : Int)]) = _
   simp [VP, VO]
  obtain ⟨h1, h2⟩ := ih (by omega)
  have hd : VP B (n + 1) = VP B n ++ [VO B n] := by simp [VP, List.range_succ]
  rcases Dx (fun s => B.getD s false) n with ⟨t, a1, a2, a3, a4⟩ | ⟨a3, a4⟩
  ·rw [a4, hd, h1, Cp a1]
   have e1 : VO B t = VO B n := by unfold VO; rw [a2]
   refine ⟨by rw [e1], ?_⟩
   rcases h2 with ⟨b1, b2⟩ | ⟨b1, s, b2, b3⟩
   rotate_left
   ·exact .inr ⟨b1, s, by omega, b3⟩
   refine .inl ⟨b1, fun s hs => ?_⟩
   by_cases e : s = n
   ·subst e; rw [<- a2]; exact b2 t a1
   exact b2 s (by omega)
  have hne := a3 0 (by omega)
  have hone : (Vf (fun s => B.getD s false) n).2 = 1 := by
   rcases h2 with ⟨b1, _⟩ | ⟨_, s, b2, b3⟩
   ·exact b1
   exfalso
   have c1 := a3 s b2
   revert hne c1 b3
   generalize B.getD s false = x
   generalize B.getD 0 false = y
   generalize B.getD n false = z
   cases x <;> cases y <;> cases z <;> simp
  rw [a4, hd, h1, hone]
  refine ⟨by unfold VO; rw [if_neg (Ne.symm hne)]; rfl, .inr ⟨rfl, n, by omega, Ne.symm hne⟩⟩
theorem IX (B : List Bool) {n : Nat} (h : 1 <= n) : Nrm n (VP B n) := by
 rw [<- (Sf n h).1]
 exact Pz _ _
def DlC (R : List (List Ar)) (c : List Int) : Prop := ∃ B, DvL R B /\ FxS (CU R) (VP B R.length) c
end Go.Proofs.YthnkailnoobdoaaDoor
