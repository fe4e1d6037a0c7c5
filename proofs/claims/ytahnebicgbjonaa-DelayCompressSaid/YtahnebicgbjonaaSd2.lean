/- side.arrows, plain: the delay arrows of each component. flow: Ticks, Initials, Acceptance. Maps in walks: look-ups and updates at keys that are not literals. flow.Key. delay.partition. side.classes, plain: the keys of a round. -/
import Derived.Test.YtahnebicgbjonaaOd1
import Derived.Test.YtahnebicgbjonaaG45
import Derived.Test.YtahnebicgbjonaaMG
import Derived.Test.YtahnebicgbjonaaMK
import Derived.Test.YtahnebicgbjonaaZk
import Derived.Test.YtahnebicgbjonaaMF
namespace Go.Proofs.Ytahnebicgbjonaa
set_option linter.unusedVariables false
set_option linter.unusedSimpArgs false

def arA (cl : List Int) (a : Ar) : Option Ar := if a.1 ≠ 0 then some (a.1, cl.getD a.2.toNat 0) else none
def arN (cl : List Int) (row : List Ar) : List Ar := row.filterMap (arA cl)
def arS (cl : List Int) (X : List (List Ar)) (s : Nat) : List Ar := (0, cl.getD s 0) :: arN cl (X.getD s [])
def arC (f : Nat → Nat) (cl : List Int) (X : List (List Ar)) (k c : Nat) : List Ar := ((List.range k).filter fun s => f s == c).flatMap (arS cl X)
def arL (f : Nat → Nat) (cl : List Int) (X : List (List Ar)) (k : Nat) : List (List Ar) := (List.range X.length).map (arC f cl X k)
theorem arN_snoc (cl : List Int) (row : List Ar) (a : Ar) : arN cl (row ++ [a]) = arN cl row ++ (arA cl a).toList := by
 unfold arN
 rw [List.filterMap_append]
 cases h : arA cl a <;> simp [h]
theorem arN_len (cl : List Int) (row : List Ar) : (arN cl row).length ≤ row.length := List.length_filterMap_le _ _
theorem arL_len (f : Nat → Nat) (cl : List Int) (X : List (List Ar)) (k : Nat) : (arL f cl X k).length = X.length := by simp [arL]
theorem arL_get {f : Nat → Nat} {cl : List Int} {X : List (List Ar)} {k c : Nat} (h : c < X.length) : (arL f cl X k)[c]? = some (arC f cl X k c) := by simp [arL, h]
theorem arL_zero (f : Nat → Nat) (cl : List Int) (X : List (List Ar)) : arL f cl X 0 = List.replicate X.length [] := by
 refine List.ext_getElem (by simp [arL]) fun i h1 h2 => ?_
 simp [arL, arC]
theorem arC_succ (f : Nat → Nat) (cl : List Int) (X : List (List Ar)) (k c : Nat) : arC f cl X (k + 1) c = arC f cl X k c ++ if f k = c then arS cl X k else [] := by
 unfold arC
 rw [List.range_succ, List.filter_append, List.flatMap_append]
 congr 1
 by_cases h : f k = c
 ·simp [h]
 ·simp [h]
theorem arL_succ {f : Nat → Nat} {cl : List Int} {X : List (List Ar)} {k : Nat} (h : f k < X.length) : (arL f cl X k).set (f k) (arC f cl X k (f k) ++ arS cl X k) = arL f cl X (k + 1) := by
 refine List.ext_getElem (by simp [arL]) fun i h1 h2 => ?_
 have hi : i < X.length := by simpa [arL] using h2
 rw [List.getElem_set]
 split
 ·rename_i e
  subst e
  simp only [arL, List.getElem_map, List.getElem_range, arC_succ, if_true]
 ·rename_i e
  simp only [arL, List.getElem_map, List.getElem_range, arC_succ, if_neg e, List.append_nil]
theorem arC_len (f : Nat → Nat) (cl : List Int) (X : List (List Ar)) (c : Nat) : ∀ k, k ≤ X.length → (arC f cl X k c).length ≤ k + totA (X.take k) := by
 intro k
 induction k with
 | zero => intro _; simp [arC]
 | succ k ih =>
  intro hk
  have h1 := ih (by omega)
  have h2 := totA_take (R := X) (k := k) hk
  have h3 := arN_len cl X[k]
  have h4 : X.getD k [] = X[k] := by rw [List.getD_eq_getElem?_getD, List.getElem?_eq_getElem hk]; rfl
  rw [arC_succ, List.length_append]
  split
  ·unfold arS; rw [h4, List.length_cons]; omega
  ·simp; omega
def nxC (E : List Ed) (c : Nat) : List Int := (E.filter fun e => e.1 == c).map fun e => (e.2 : Int)
def nxE (n : Nat) (E : List Ed) : List (List Int) := (List.range n).map (nxC E)
theorem nxE_len (n : Nat) (E : List Ed) : (nxE n E).length = n := by simp [nxE]
theorem nxE_get {n : Nat} {E : List Ed} {c : Nat} (h : c < n) : (nxE n E)[c]? = some (nxC E c) := by simp [nxE, h]
theorem nxC_len (E : List Ed) (c : Nat) : (nxC E c).length ≤ E.length := by unfold nxC; rw [List.length_map]; exact List.length_filter_le _ _
theorem nxC_snoc (E : List Ed) (c t d : Nat) : nxC (E ++ [(c, t)]) d = nxC E d ++ if c = d then [(t : Int)] else [] := by
 unfold nxC
 rw [List.filter_append, List.map_append]
 by_cases h : c = d
 ·simp [h]
 ·simp [h]
theorem nxE_snoc {n : Nat} {E : List Ed} {c t : Nat} (h : c < n) : (nxE n E).set c (nxC E c ++ [(t : Int)]) = nxE n (E ++ [(c, t)]) := by
 refine List.ext_getElem (by simp [nxE]) fun i h1 h2 => ?_
 rw [List.getElem_set]
 split
 ·rename_i e
  subst e
  simp only [nxE, List.getElem_map, List.getElem_range, nxC_snoc, if_true]
 ·rename_i e
  simp only [nxE, List.getElem_map, List.getElem_range, nxC_snoc, if_neg e, List.append_nil]
theorem nxE_zero (n : Nat) : nxE n [] = List.replicate n [] := by
 refine List.ext_getElem (by simp [nxE]) fun i h1 h2 => ?_
 simp [nxE, nxC]
theorem mem_nxC {E : List Ed} {c : Nat} {x : Int} : x ∈ nxC E c ↔ ∃ t : Nat, x = (t : Int) ∧ (c, t) ∈ E := by
 unfold nxC
 simp only [List.mem_map, List.mem_filter, beq_iff_eq]
 constructor
 ·rintro ⟨e, ⟨h1, h2⟩, rfl⟩
  exact ⟨e.2, rfl, by rw [← h2]; exact h1⟩
 ·rintro ⟨t, rfl, h⟩
  exact ⟨(c, t), ⟨h, rfl⟩, rfl⟩
def p3A (O : List (List Ar)) (nx : List Int) : List Ar := nx.flatMap fun t => O.getD t.toNat []
def p3S (N : List (List Int)) (O : List (List Ar)) (c : Nat) : List (List Ar) := O.set c (rowOf (O.getD c [] ++ p3A O (N.getD c [])))
theorem p3A_snoc (O : List (List Ar)) (nx : List Int) (t : Int) : p3A O (nx ++ [t]) = p3A O nx ++ O.getD t.toNat [] := by simp [p3A]
theorem p3A_len {O : List (List Ar)} {B : Nat} (h : ∀ c, (O.getD c []).length ≤ B) : ∀ nx : List Int, (p3A O nx).length ≤ nx.length * B := by
 intro nx
 induction nx with
 | nil => simp [p3A]
 | cons t r ih =>
  have h1 := h t.toNat
  have h2 : p3A O (t :: r) = O.getD t.toNat [] ++ p3A O r := rfl
  rw [h2, List.length_append, List.length_cons, Nat.succ_mul]
  omega
theorem p3S_len (N : List (List Int)) (O : List (List Ar)) (c : Nat) : (p3S N O c).length = O.length := by simp [p3S]
theorem nodup_sub {α : Type} [DecidableEq α] : ∀ {l m : List α}, l.Nodup → (∀ x ∈ l, x ∈ m) → l.length ≤ m.length
 | [], _, _, _ => Nat.zero_le _
 | a :: l, m, h, hs => by
  have h2 := List.nodup_cons.1 h
  have ha := hs a List.mem_cons_self
  have ih := nodup_sub (m := m.erase a) h2.2 fun x hx => (List.mem_erase_of_ne (fun e => h2.1 (by rw [← e]; exact hx))).2 (hs x (List.mem_cons_of_mem _ hx))
  have h3 := List.length_erase_of_mem ha
  have h4 := List.length_pos_of_mem ha
  simp only [List.length_cons]
  omega
theorem sortA_nodup {l : List Ar} (h : SortA l) : l.Nodup := h.imp fun {a b} hab => by
 rintro rfl
 rw [ltA_irr] at hab; cases hab
def arU (cl : List Int) (X : List (List Ar)) : List Ar := (List.range X.length).flatMap (arS cl X)
theorem arU_len (cl : List Int) (X : List (List Ar)) : (arU cl X).length ≤ X.length + totA X := by
 have h : arU cl X = arC (fun _ => 0) cl X X.length 0 := by
  unfold arU arC
  rw [List.filter_eq_self.2 (fun _ _ => by simp)]
 rw [h]
 have := arC_len (fun _ => 0) cl X 0 X.length (Nat.le_refl _)
 rwa [List.take_length] at this
structure P3 (f : Nat → Nat) (cl : List Int) (X : List (List Ar)) (Q : List Nat) (i : Nat) (O : List (List Ar)) : Prop where
 len : O.length = X.length
 sz : ∀ c, (O.getD c []).length ≤ X.length + totA X
 sub : ∀ c, ∀ x ∈ O.getD c [], x ∈ arU cl X
 raw : ∀ c, c < X.length → c ∉ Q.take i → O.getD c [] = arC f cl X X.length c
 don : ∀ c, c ∈ Q.take i → SortA (O.getD c []) ∧ ∀ x, x ∈ O.getD c [] ↔ ∃ s, s < X.length ∧ Rc (Adj true X) c s ∧ x ∈ arS cl X s
theorem arL_getD (f : Nat → Nat) (cl : List Int) (X : List (List Ar)) (k : Nat) {c : Nat} (h : c < X.length) : (arL f cl X k).getD c [] = arC f cl X k c := by rw [List.getD_eq_getElem?_getD, arL_get h]; rfl
theorem P3.start (f : Nat → Nat) (cl : List Int) (X : List (List Ar)) (Q : List Nat) : P3 f cl X Q 0 (arL f cl X X.length) := by
 have out : ∀ c, ¬ c < X.length → (arL f cl X X.length).getD c [] = [] := fun c h => by rw [List.getD_eq_getElem?_getD, List.getElem?_eq_none (by rw [arL_len]; omega)]; rfl
 refine ⟨arL_len _ _ _ _, fun c => ?_, fun c x hx => ?_, fun c hc _ => arL_getD _ _ _ _ hc, fun c hc => by simp at hc⟩
 ·by_cases h : c < X.length
  ·rw [arL_getD _ _ _ _ h]
   have := arC_len f cl X c X.length (Nat.le_refl _)
   rwa [List.take_length] at this
  ·rw [out c h]; simp
 ·by_cases h : c < X.length
  ·rw [arL_getD _ _ _ _ h] at hx
   obtain ⟨s, h1, h2⟩ := List.mem_flatMap.1 hx
   exact List.mem_flatMap.2 ⟨s, (List.mem_filter.1 h1).1, h2⟩
  ·rw [out c h] at hx; simp at hx
theorem rc_edge {X : List (List Ar)} {D : List Int} (hv : valB X = true) (h : CpOk X D) {v s : Nat} (hvl : v < X.length) (hr : Rc (Adj true X) v s) : cpF D v = cpF D s ∨ ∃ t, (cpF D v, t) ∈ edL (cpF D) X X.length ∧ Rc (Adj true X) t s := by
 have hlo : looB X = true := decide_eq_true (of_decide_eq_true hv).1
 have hE := adj_lt true hlo
 induction hr with
 | refl => exact .inl rfl
 | @tail u w h1 h2 ih =>
  rcases ih with e | ⟨t, e1, e2⟩
  ·by_cases ew : cpF D u = cpF D w
   ·exact .inl (e.trans ew)
   ·have hu := h1.lt hvl hE
    have hw := hE _ hu _ h2
    refine .inr ⟨cpF D w, ?_, (cpF_ok hv h hw).2.2.2.1⟩
    rw [mem_edL]
    rw [adj_mem hv] at h2
    exact ⟨u, hu, (0, (w : Int)), h2, rfl, by simpa using ew, by rw [e]; simp⟩
  ·exact .inr ⟨t, e1, e2.tail h2⟩
theorem edL_rc {X : List (List Ar)} {D : List Int} (hv : valB X = true) (h : CpOk X D) {c t : Nat} (he : (c, t) ∈ edL (cpF D) X X.length) : Rc (Adj true X) c t := by
 have hlo : looB X = true := decide_eq_true (of_decide_eq_true hv).1
 obtain ⟨s, hs, a, ha, h0, hne, e⟩ := mem_edL.1 he
 cases e
 have hg : X.getD s [] = X[s] := by rw [List.getD_eq_getElem?_getD, List.getElem?_eq_getElem hs]; rfl
 have hb := (of_decide_eq_true hlo).2.2.2 _ (List.getElem_mem hs) a (by rw [← hg]; exact ha)
 have ht : a.2.toNat < X.length := by omega
 have hadj : a.2.toNat ∈ Adj true X s := by
  rw [adj_mem hv]
  have : ((0 : Int), ((a.2.toNat : Nat) : Int)) = a := by
   rcases a with ⟨x, y⟩
   simp only at h0 hb ⊢
   rw [h0]; congr 1; omega
  rw [this]; exact ha
 exact ((cpF_ok hv h hs).2.2.2.1.trans (.one hadj)).trans (cpF_ok hv h ht).2.2.1
theorem P3.step {X : List (List Ar)} {D cl : List Int} {Q : List Nat} {O : List (List Ar)} {i : Nat} (hv : valB X = true) (h : CpOk X D) (hQ : OrdOk (edL (cpF D) X X.length) X.length (cpF D) Q) (hP : P3 (cpF D) cl X Q i O) {c : Nat} (hi : Q[i]? = some c) : P3 (cpF D) cl X Q (i + 1) (p3S (nxE X.length (edL (cpF D) X X.length)) O c) := by
 have hlo : looB X = true := decide_eq_true (of_decide_eq_true hv).1
 have hE := adj_lt true hlo
 obtain ⟨hnd, hmem, htop⟩ := hQ
 have hil : i < Q.length := (List.getElem?_eq_some_iff.1 hi).1
 have hcQ : c ∈ Q := List.mem_of_getElem? hi
 obtain ⟨hc, hfc⟩ := (hmem c).1 hcQ
 have hcn : c ∉ Q.take i := fun hin => by
  obtain ⟨j, hj, e⟩ := List.mem_take_iff_getElem.1 hin
  have h1 := (List.getElem?_eq_some_iff.1 hi).2
  have h2 : Q[j]'(by omega) = Q[i] := e.trans h1.symm
  have := (List.getElem_inj hnd).1 h2
  omega
 have hsucc : Q.take (i + 1) = Q.take i ++ [c] := by
  rw [List.take_succ_eq_append_getElem hil, (List.getElem?_eq_some_iff.1 hi).2]
 have hN : (nxE X.length (edL (cpF D) X X.length)).getD c [] = nxC (edL (cpF D) X X.length) c := by rw [List.getD_eq_getElem?_getD, nxE_get hc]; rfl
 have hself : (p3S (nxE X.length (edL (cpF D) X X.length)) O c).getD c [] = rowOf (O.getD c [] ++ p3A O (nxC (edL (cpF D) X X.length) c)) := by
  unfold p3S
  rw [hN, List.getD_eq_getElem?_getD, List.getElem?_set_self (by rw [hP.len]; exact hc)]; rfl
 have hoth : ∀ d, d ≠ c → (p3S (nxE X.length (edL (cpF D) X X.length)) O c).getD d [] = O.getD d [] := fun d hd => by
  unfold p3S
  rw [List.getD_eq_getElem?_getD, List.getElem?_set_ne (Ne.symm hd), ← List.getD_eq_getElem?_getD]
 have hin : ∀ x, x ∈ O.getD c [] ++ p3A O (nxC (edL (cpF D) X X.length) c) → x ∈ arU cl X := fun x hx => by
  rcases List.mem_append.1 hx with hx | hx
  ·exact hP.sub _ _ hx
  ·obtain ⟨t, _, ht⟩ := List.mem_flatMap.1 hx
   exact hP.sub _ _ ht
 have hmemc : ∀ x, x ∈ O.getD c [] ++ p3A O (nxC (edL (cpF D) X X.length) c) ↔ ∃ s, s < X.length ∧ Rc (Adj true X) c s ∧ x ∈ arS cl X s := by
  intro x
  rw [List.mem_append, hP.raw c hc hcn]
  constructor
  ·rintro (hx | hx)
   ·obtain ⟨s, h1, h2⟩ := List.mem_flatMap.1 hx
    have h3 := List.mem_filter.1 h1
    have hs : s < X.length := by simpa using h3.1
    have hfs : cpF D s = c := by simpa using h3.2
    refine ⟨s, hs, ?_, h2⟩
    rw [← hfs]; exact (cpF_ok hv h hs).2.2.2.1
   ·obtain ⟨t, h1, h2⟩ := List.mem_flatMap.1 hx
    obtain ⟨t, rfl, he⟩ := mem_nxC.1 h1
    (try simp only [Int.toNat_natCast] at h2)
    obtain ⟨j, hj, hjt⟩ := htop i c hi _ he rfl
    have ht : t ∈ Q.take i := by
     rw [List.mem_take_iff_getElem]
     have h5 := List.getElem?_eq_some_iff.1 hjt
     exact ⟨j, by have := h5.1; omega, h5.2⟩
    obtain ⟨s, hs, h3, h4⟩ := ((hP.don t ht).2 x).1 h2
    exact ⟨s, hs, (edL_rc hv h he).trans h3, h4⟩
  ·rintro ⟨s, hs, h1, h2⟩
   rcases rc_edge hv h hc h1 with e | ⟨t, he, h3⟩
   ·refine .inl (List.mem_flatMap.2 ⟨s, List.mem_filter.2 ⟨by simpa using hs, ?_⟩, h2⟩)
    rw [hfc] at e; simp [e]
   ·rw [hfc] at he
    refine .inr (List.mem_flatMap.2 ⟨(t : Int), mem_nxC.2 ⟨t, rfl, he⟩, ?_⟩)
    simp only [Int.toNat_natCast]
    obtain ⟨j, hj, hjt⟩ := htop i c hi _ he rfl
    have ht : t ∈ Q.take i := by
     rw [List.mem_take_iff_getElem]
     have h5 := List.getElem?_eq_some_iff.1 hjt
     exact ⟨j, by have := h5.1; omega, h5.2⟩
    exact ((hP.don t ht).2 x).2 ⟨s, hs, h3, h2⟩
 refine ⟨by rw [p3S_len, hP.len], fun d => ?_, fun d x hx => ?_, fun d hd hdn => ?_, fun d hd => ?_⟩
 ·by_cases e : d = c
  ·subst e
   rw [hself]
   refine Nat.le_trans (nodup_sub (m := arU cl X) (sortA_nodup (rowOf_sorted _)) fun x hx => hin x ((mem_rowOf _ _).1 hx)) (arU_len cl X)
  ·rw [hoth d e]; exact hP.sz d
 ·by_cases e : d = c
  ·subst e
   rw [hself, mem_rowOf] at hx
   exact hin x hx
  ·rw [hoth d e] at hx; exact hP.sub d x hx
 ·rw [hsucc] at hdn
  have e : d ≠ c := fun e => hdn (by rw [e]; simp)
  rw [hoth d e]
  exact hP.raw d hd fun h => hdn (List.mem_append_left _ h)
 ·rw [hsucc] at hd
  rcases List.mem_append.1 hd with h1 | h1
  ·have e : d ≠ c := fun e => hcn (by rw [← e]; exact h1)
   rw [hoth d e]
   exact hP.don d h1
  ·have e : d = c := by simpa using h1
   subst e
   rw [hself]
   exact ⟨rowOf_sorted _, fun x => by rw [mem_rowOf]; exact hmemc x⟩
theorem P3.done {X : List (List Ar)} {D cl : List Int} {Q : List Nat} {O : List (List Ar)} (hv : valB X = true) (h : CpOk X D) (hQ : OrdOk (edL (cpF D) X X.length) X.length (cpF D) Q) (hP : P3 (cpF D) cl X Q Q.length O) {s : Nat} (hs : s < X.length) : O.getD (cpF D s) [] = imR (satR X) cl s := by
 obtain ⟨_, p2, p3, p4, p5⟩ := cpF_ok hv h hs
 have hin : cpF D s ∈ Q.take Q.length := by rw [List.take_length]; exact (hQ.2.1 _).2 ⟨p2, p5⟩
 obtain ⟨h1, h2⟩ := hP.don _ hin
 refine sorted_ext h1 (rowOf_sorted _) fun x => ?_
 have hE := adj_lt true (decide_eq_true (of_decide_eq_true hv).1 : looB X = true)
 rw [h2]
 refine Iff.trans ?_ (mem_imR (S := satR X) (c := cl) (s := s) (x := x)).symm
 constructor
 ·rintro ⟨u, hu, h3, h4⟩
  have hsu := p3.trans h3
  rcases List.mem_cons.1 h4 with rfl | h4
  ·exact ⟨(0, (u : Int)), (mem_satR hv hs).2 (.inl ⟨rfl, u, rfl, hsu⟩), by simp⟩
  ·obtain ⟨a, ha, e⟩ := List.mem_filterMap.1 h4
   unfold arA at e
   split at e
   ·rename_i h0
    cases e
    exact ⟨a, (mem_satR hv hs).2 (.inr ⟨h0, u, hsu, ha⟩), rfl⟩
   ·cases e
 ·rintro ⟨a, ha, rfl⟩
  rcases (mem_satR hv hs).1 ha with ⟨h0, u, e, h3⟩ | ⟨h0, t, h3, h4⟩
  ·have hu := h3.lt hs hE
   refine ⟨u, hu, p4.trans h3, List.mem_cons.2 (.inl ?_)⟩
   rw [h0, e]; simp
  ·refine ⟨t, h3.lt hs hE, p4.trans h3, List.mem_cons_of_mem _ (List.mem_filterMap.2 ⟨a, h4, ?_⟩)⟩
   unfold arA
   rw [if_pos h0]
open Go.RowKit
set_option maxRecDepth 100000
attribute [local go_sem] List.set_cons_zero List.set_cons_succ List.map_cons List.map_nil List.take_succ_cons List.take_zero List.drop_zero List.drop_succ_cons C.pl C.one List.all_cons List.all_nil Bool.and_true Nat.mul_one Int.toNat_natCast
section
variable {P : Program} {o : Oper} {st : ST} {K : ST → Prop} {t kt e : TypeId} {s : Ks} {zv : Value} {id : Nat} {kv : List (Value × C)} {key : Value}
def lkV (zv : Value) (ok : Bool) : Option (Nat × C) → AV
 | some (_, c) => match ok with
  | true => .tup [.c c, .c (.v (.bool true))]
  | false => .a (.c c)
 | none => match ok with
  | true => .tup [.c (.v zv), .c (.v (.bool false))]
  | false => .a (.c (.v zv))
theorem stp_lookup {x ix : Operand} {ok : Bool} {r : Option (Nat × C)} (hu : P.underlying t = some (.map kt e)) (hK : KeyOk P kt s) (hze : (P.info? e).bind (·.zero) = some zv)
  (hd : dok o st.n = true) (ho : o.op = .lookup t x ix ok) (hx : st.ev x = .a (.c (.m id))) (hm : st.hp[id]? = some (.m kv)) (hpl : kv.all (fun p => p.2.pl) = true) (hkey : keyOf (st.ev ix) = some key) (hfit : keyFit s key = true) (hf : kvFind s key kv 0 = some r)
  (h : K (st.put o.dst (lkV zv ok r))) : Stp P o st K := by
 refine stp_val hd (fun g w ρ hr hR => ?_) h
 obtain ⟨dst, op, ty, pos, af, gd⟩ := o
 simp only at ho
 subst ho
 have hz1 : ∀ w, (zeroValue e).run P w = .ok zv w := by
  intro w
  cases hi : P.info? e with
  | none => rw [hi] at hze; cases hze
  | some i =>
   rw [hi] at hze
   simp only [Option.bind_some] at hze
   simp [zeroValue, run_typeInfo hi, hze]
 obtain ⟨es, clock, m1, m2, m3⟩ := hr.mp id kv hm
 have e1 := hR x
 rw [hx] at e1
 obtain ⟨_, e1⟩ := e1
 have e2 := hR ix
 have e2 := keyOf_ok hkey e2
 have hKv : KvOk kv es.toList := ⟨by simpa using m2, fun i p hp => by
  obtain ⟨⟨e, f1, f2, _⟩, _⟩ := m3 i p hp
  exact ⟨e, by simpa using f1, f2⟩⟩
 obtain ⟨q, hq⟩ : ∃ q, keyEq s key key = some q := by
  unfold keyFit at hfit
  split at hfit
  ·exact ⟨_, ‹_›⟩
  ·cases hfit
 have hck := hK.ck key q hq es.isEmpty w
 cases r with
 | some p =>
  obtain ⟨j, c⟩ := p
  obtain ⟨h1, h2⟩ := find_ok hK key w hKv hf
  obtain ⟨k', h3, h4⟩ := h2 j c rfl
  obtain ⟨⟨e, f1, f2, f3⟩, f4⟩ := m3 j _ h3
  have hc : CR g st.hp w c e.val := by
   have := List.all_eq_true.1 hpl _ (List.mem_of_getElem? h3)
   exact CellR.cr this f3
  have hfnd : fnd es.toList 0 (some (j, c)) = some (j, e.val) := by simp [fnd, f1]
  rw [hfnd] at h1
  cases ok with
  | true =>
   refine ⟨.tuple #[e.val, .bool true], ?_, [e.val, .bool true], rfl, rfl, fun i a ha => ?_⟩
   ·simp [execOp, Instr.lookup, run_underlying hu, e1, MapKept.run_getObj_map m1, e2, hck, h1]
   ·match i, ha with
    | 0, ha => cases ha; exact ⟨_, rfl, hc⟩
    | 1, ha => cases ha; exact ⟨_, rfl, rfl⟩
  | false =>
   refine ⟨e.val, ?_, hc⟩
   simp [execOp, Instr.lookup, run_underlying hu, e1, MapKept.run_getObj_map m1, e2, hck, h1]
 | none =>
  obtain ⟨h1, _⟩ := find_ok hK key w hKv hf
  have hfnd : fnd es.toList 0 none = none := rfl
  rw [hfnd] at h1
  cases ok with
  | true =>
   refine ⟨.tuple #[zv, .bool false], ?_, [zv, .bool false], rfl, rfl, fun i a ha => ?_⟩
   ·simp [execOp, Instr.lookup, run_underlying hu, e1, MapKept.run_getObj_map m1, e2, hck, h1, hz1 w]
   ·match i, ha with
    | 0, ha => cases ha; exact ⟨_, rfl, rfl⟩
    | 1, ha => cases ha; exact ⟨_, rfl, rfl⟩
  | false =>
   refine ⟨zv, ?_, rfl⟩
   simp [execOp, Instr.lookup, run_underlying hu, e1, MapKept.run_getObj_map m1, e2, hck, h1, hz1 w]
theorem stp_mapnew {m kx v : Operand} {c : C} (hu : P.underlying t = some (.map kt e)) (hK : KeyOk P kt s) (hd : dok o st.n = true) (ho : o.op = .mapUpdate t m kx v) (hm : st.ev m = .a (.c (.m id))) (hmm : st.hp[id]? = some (.m kv)) (hpl : kv.all (fun p => p.2.pl) = true)
  (hkey : keyOf (st.ev kx) = some key) (hfit : keyFit s key = true) (hv : st.ev v = .a (.c c)) (hone : c.one = true) (hf : kvFind s key kv 0 = some none)
  (h : K ({ st with hp := st.hp.set id (.m (kv ++ [(key, c)])) }.put o.dst .u)) : Stp P o st K := by
 obtain ⟨q, hq⟩ : ∃ q, keyEq s key key = some q := by
  unfold keyFit at hfit
  split at hfit
  ·exact ⟨_, ‹_›⟩
  ·cases hfit
 have hcell : ∀ {g : Gh} {w : World} {u : Value}, CR g st.hp w c u → CellR g st.hp w id 0 c u := fun h => cellR_of_one hone h
 have hcpl : c.pl = true := by cases c <;> first | rfl | cases hone
 intro M0 w0 a w N Q hR hN
 obtain ⟨g, ⟨hp1, hp2⟩, hR⟩ := hR
 have e1 := hR.ev m
 rw [hm] at e1
 obtain ⟨_, e1⟩ := e1
 have e2 := hR.ev kx
 have e2 := keyOf_ok hkey e2
 have e3 := hR.ev v
 rw [hv] at e3
 obtain ⟨es, clock, m1, m2, m3⟩ := hR.hr.mp id kv hmm
 have hKv : KvOk kv es.toList := ⟨by simpa using m2, fun i p hp => by
  obtain ⟨⟨e, f1, f2, _⟩, _⟩ := m3 i p hp
  exact ⟨e, by simpa using f1, f2⟩⟩
 obtain ⟨h1, _⟩ := find_ok hK key w hKv hf
 have hfnd : fnd es.toList 0 none = none := rfl
 rw [hfnd] at h1
 have hl : es.size = kv.length := by simpa using hKv.1
 have r1 : (Instr.mapUpdate t (.map (some (g.γ (.ob id)))) key (a.eval v)).run P w = .ok () { w with heap := w.heap.setIfInBounds (g.γ (.ob id)) (.map (es.push { key := key, val := a.eval v, born := clock }) (clock + 1)) } := by
  simp [Instr.mapUpdate, run_underlying hu, MapKept.run_getObj_map m1, hK.ck key q hq, h1, MapKept.run_setObj_map _ m1]
 have hset := hR.mapset (es' := es.push { key := key, val := a.eval v, born := clock }) (clock := clock + 1) (kv' := kv ++ [(key, c)]) hmm (by simp [hl]) (fun i p hp => by
  rcases Nat.lt_or_ge i kv.length with hi | hi
  ·rw [List.getElem?_append_left hi] at hp
   obtain ⟨⟨e', g1, g2, g3⟩, g4⟩ := m3 i p hp
   exact ⟨⟨e', by rw [Array.getElem?_push_lt (by omega)]; rw [← g1]; simp [show i < es.size by omega], g2, g3⟩, g4⟩
  ·rw [List.getElem?_append_right hi] at hp
   have hi' : i = kv.length := by
    have := (List.getElem?_eq_some_iff.1 hp).1
    simp at this
    omega
   subst hi'
   simp at hp
   subst hp
   exact ⟨⟨{ key := key, val := a.eval v, born := clock }, by rw [← hl]; simp, rfl, hcell e3⟩, fun k' cs e => by
    simp only at e
    rw [e] at hcpl; cases hcpl⟩)
 have hrun : (execOp a.eval o).run P w = .ok .skip { w with heap := w.heap.setIfInBounds (g.γ (.ob id)) (.map (es.push { key := key, val := a.eval v, born := clock }) (clock + 1)) } := by
  unfold execOp
  simp [ho, e1, e2, r1]
 unfold Oper.wp
 rw [hrun]
 exact hN _ _ _ h ⟨g, ⟨by cases o.dst <;> (simp [ST.put]; omega), by cases o.dst <;> exact hp2⟩, hset.put (dok_lt hd) trivial⟩
theorem stp_str {src d el : TypeId} {x : Operand} {n q : Nat} {sl : Bool} {cells : List C} {ns : List Int} (hu1 : P.underlying src = some (.slice el)) (hu2 : P.underlying d = some .string) (hu3 : P.underlying el = some (.int .u8))
  (hd : dok o st.n = true) (ho : o.op = .convert src d x) (hx : st.ev x = .a (.c (.s id n))) (hrow' : st.hp[id]? = some (.r ⟨q, 1, sl, cells⟩)) (hns : ns.length = n) (e1 : cells.take n = ns.map (fun m => C.v (.int .u8 m)))
  (h : K (st.put o.dst (.a (.c (.v (.string ⟨⟨ns.map fun (m : Int) => UInt8.ofNat m.toNat⟩⟩)))))) : Stp P o st K := by
 refine stp_val hd (fun g w ρ hr hR => ?_) h
 obtain ⟨dst, op, ty, pos, af, gd⟩ := o
 simp only at ho
 subst ho
 have e2 := hR x
 rw [hx] at e2
 obtain ⟨_, hn, A, e2, e3, _⟩ := e2
 refine ⟨.string ⟨⟨ns.map fun (m : Int) => UInt8.ofNat m.toNat⟩⟩, ?_, rfl⟩
 have hconv : (Conv.bytesToString (.slice A n (g.κ id))).run P w = .ok (.string ⟨⟨ns.map fun (m : Int) => UInt8.ofNat m.toNat⟩⟩) w := by
  rcases hr.row id _ hrow' with ⟨h0, h2⟩ | ⟨h0, _, arr, ha, hla, hs, _, hcells⟩
  ·have hn0 : n = 0 := by omega
   subst hn0
   have : ns = [] := List.eq_nil_of_length_eq_zero hns
   subst this
   cases A with
   | none => simp [Conv.bytesToString, ByteArray.empty, ByteArray.emptyWithCapacity]; rfl
   | some a => simp [Conv.bytesToString, loadCells, loadCellsFrom, ByteArray.empty, ByteArray.emptyWithCapacity]; rfl
  ·rw [e3 h0]
   have hload : (loadCells ⟨g.γ (.ob id), 0, none⟩ n).run P w = .ok (ns.map (Value.int .u8)).toArray w := by
    unfold loadCells
    rw [run_loadCellsFrom _ _ _ 0 (ns.map (Value.int .u8)) #[] (by simpa using hns) (fun q u hq => ?_)]
    ·simp
    ·rw [cell_of_row _ _ _ _ _ _ ha]
     rw [List.getElem?_map, Option.map_eq_some_iff] at hq
     obtain ⟨m, hm, rfl⟩ := hq
     have hlt : q < n := by rw [← hns]; exact (List.getElem?_eq_some_iff.1 hm).1
     have hcq : cells[q]? = some (.v (.int .u8 m)) := by
      have : (cells.take n)[q]? = some (.v (.int .u8 m)) := by rw [e1]; simp [hm]
      rw [List.getElem?_take, if_pos hlt] at this
      exact this
     obtain ⟨u, f1, f2⟩ := hcells q _ hcq
     have f2 : u = .int .u8 m := f2
     subst f2
     simpa using f1
   simp only [Conv.bytesToString, Sem.run_bind, hload, Result.andThen_ok]
   rw [bytes_run (fun n s w => by simp)]
   simp [ByteArray.empty, ByteArray.emptyWithCapacity]
   rfl
 simp [execOp, convert, run_underlying hu1, run_underlying hu2, e2, run_underlying hu3, hconv]
end
def kb (n : Int) : List Int := [IntKind.u8.wrap (n.fdiv (2 ^ (24 : Int).toNat)), IntKind.u8.wrap (n.fdiv (2 ^ (16 : Int).toNat)), IntKind.u8.wrap (n.fdiv (2 ^ (8 : Int).toNat)), IntKind.u8.wrap n]
def keyB (xs : List Int) : List Int := xs.flatMap kb
def keyS (xs : List Int) : Value := .string ⟨⟨(keyB xs).map fun (m : Int) => UInt8.ofNat m.toNat⟩⟩
def cB8 (l : List Int) : List C := l.map fun m => C.v (.int .u8 m)
theorem cB8_len (l : List Int) : (cB8 l).length = l.length := by simp [cB8]
theorem cB8_ren (f : List Nat) (l : List Int) : (cB8 l).map (C.ren f) = cB8 l := by simp [cB8, C.ren, Function.comp_def]
theorem keyB_len (xs : List Int) : (keyB xs).length = xs.length * 4 := by
 unfold keyB
 induction xs with
 | nil => rfl
 | cons x r ih => rw [List.flatMap_cons, List.length_append, ih, List.length_cons]; simp [kb]; omega
theorem keyB_push (xs : List Int) (x : Int) : (cB8 (keyB xs)).take (xs.length * 4) ++ [C.v (.int .u8 (IntKind.u8.wrap (x.fdiv (2 ^ (24 : Int).toNat)))), C.v (.int .u8 (IntKind.u8.wrap (x.fdiv (2 ^ (16 : Int).toNat)))), C.v (.int .u8 (IntKind.u8.wrap (x.fdiv (2 ^ (8 : Int).toNat)))), C.v (.int .u8 (IntKind.u8.wrap x))] = cB8 (keyB (xs ++ [x])) := by
 rw [List.take_of_length_le (by rw [cB8_len, keyB_len]; exact Nat.le_refl _)]
 unfold keyB cB8
 simp [kb]
theorem wrap8 (n : Int) : IntKind.u8.wrap n = n % 256 := by simp [IntKind.wrap, IntKind.signed, IntKind.bits]
theorem kb_inj {x y : Int} (hx : 0 ≤ x ∧ x < 2147483648) (hy : 0 ≤ y ∧ y < 2147483648) (h : kb x = kb y) : x = y := by
 unfold kb at h
 simp only [List.cons.injEq, and_true, wrap8] at h
 obtain ⟨h1, h2, h3, h4⟩ := h
 have e : ∀ z : Int, z.fdiv (2 ^ (24 : Int).toNat) = z / 16777216 ∧ z.fdiv (2 ^ (16 : Int).toNat) = z / 65536 ∧ z.fdiv (2 ^ (8 : Int).toNat) = z / 256 := fun z => ⟨Int.fdiv_eq_ediv_of_nonneg z (by decide), Int.fdiv_eq_ediv_of_nonneg z (by decide), Int.fdiv_eq_ediv_of_nonneg z (by decide)⟩
 rw [(e x).1, (e y).1] at h1
 rw [(e x).2.1, (e y).2.1] at h2
 rw [(e x).2.2, (e y).2.2] at h3
 omega
theorem kb_rng (x : Int) : ∀ m ∈ kb x, 0 ≤ m ∧ m < 256 := by
 intro m hm
 unfold kb at hm
 simp only [List.mem_cons, List.not_mem_nil, or_false, wrap8] at hm
 rcases hm with rfl | rfl | rfl | rfl <;> omega
theorem keyB_inj : ∀ {xs ys : List Int}, (∀ x ∈ xs, 0 ≤ x ∧ x < 2147483648) → (∀ y ∈ ys, 0 ≤ y ∧ y < 2147483648) → keyB xs = keyB ys → xs = ys
 | [], [], _, _, _ => rfl
 | [], y :: ys, _, _, h => by have := congrArg List.length h; rw [keyB_len, keyB_len] at this; simp at this
 | x :: xs, [], _, _, h => by have := congrArg List.length h; rw [keyB_len, keyB_len] at this; simp at this
 | x :: xs, y :: ys, hx, hy, h => by
  have h1 : kb x ++ keyB xs = kb y ++ keyB ys := h
  obtain ⟨h2, h3⟩ := List.append_inj h1 rfl
  rw [kb_inj (hx x (by simp)) (hy y (by simp)) h2, keyB_inj (fun a ha => hx a (List.mem_cons_of_mem _ ha)) (fun a ha => hy a (List.mem_cons_of_mem _ ha)) h3]
theorem keyB_rng (xs : List Int) : ∀ m ∈ keyB xs, 0 ≤ m ∧ m < 256 := by
 intro m hm
 obtain ⟨x, _, hx⟩ := List.mem_flatMap.1 hm
 exact kb_rng x m hx
theorem u8_map_inj : ∀ {l m : List Int}, (∀ x ∈ l, 0 ≤ x ∧ x < 256) → (∀ x ∈ m, 0 ≤ x ∧ x < 256) → (l.map fun (m : Int) => UInt8.ofNat m.toNat) = (m.map fun (m : Int) => UInt8.ofNat m.toNat) → l = m
 | [], [], _, _, _ => rfl
 | [], y :: ys, _, _, h => by simp at h
 | x :: xs, [], _, _, h => by simp at h
 | x :: xs, y :: ys, hx, hy, h => by
  simp only [List.map_cons, List.cons.injEq] at h
  have h1 := hx x (by simp)
  have h2 := hy y (by simp)
  have h3 := congrArg UInt8.toNat h.1
  simp only [UInt8.toNat_ofNat'] at h3
  have : x = y := by omega
  rw [this, u8_map_inj (fun a ha => hx a (List.mem_cons_of_mem _ ha)) (fun a ha => hy a (List.mem_cons_of_mem _ ha)) h.2]
theorem keyS_inj {xs ys : List Int} (hx : ∀ x ∈ xs, 0 ≤ x ∧ x < 2147483648) (hy : ∀ y ∈ ys, 0 ≤ y ∧ y < 2147483648) (h : keyS xs = keyS ys) : xs = ys := by
 unfold keyS at h
 injection h with h
 injection h with h
 injection h with h
 exact keyB_inj hx hy (u8_map_inj (keyB_rng _) (keyB_rng _) h)
set_option maxHeartbeats 1000000 in
theorem key_fc (xs : List Int) (hn : xs.length ≤ 100000000) : FC Try.prog 30 [aInts xs] [] (fun r o => o = [] ∧ r = .a (.c (.v (keyS xs)))) := by
 refine fc_intro Try.func30 rfl (by rw [Try.ntmps30]; simp) ?_
 rw [Try.ntmps30]
 simp only [enum, aInts]
 (refine wk1 @tInts_len ?_;(repeat clear hK K);repeat refine kq fun K hK=>?_)
 refine aw_loop (fun k : Nat => { tm := [(3, .a (.c (.s 0 (k * 4)))), (10, .a (.c (.t 1 (tInts xs)))), (11, .i xs.length), (12, .i k)], hp := [.r ⟨5, 1, false, cB8 (keyB (xs.take k))⟩], n := 33, pin := 0 }) (fun k => k ≤ xs.length) (fun k => xs.length - k) 0 ?_ ?_ ?_
 ·omega
 ·simp only [show Int.toNat 0 = 0 from rfl, List.replicate_zero, List.take_zero, keyB, List.flatMap_nil, cB8, List.map_nil, Nat.zero_mul]
  exact lmz
 ·rintro k hk K hK
  have htl : (xs.take k).length = k := by simp; omega
  by_cases hlt : k < xs.length
  ·have d1 : decide ((k : Int) < (xs.length : Int)) = true := by simpa using hlt
   have hg := tInts_get (List.getElem?_eq_getElem hlt)
   have hp := keyB_push (xs.take k) xs[k]
   rw [htl, ← List.take_succ_eq_append_getElem hlt] at hp
   (refine wk1 @d1 ?_;(repeat clear hK K);repeat refine kq fun K hK=>?_)
   refine cxz ?_
   (refine wk1 (an @hg (an @tInts_len (an @cB8_len (an @keyB_len (an @htl @hp))))) ?_;(repeat clear hK K);repeat refine kq fun K hK=>?_)
   refine rnz ?_
   refine hK _ (k + 1) (by omega) (by omega) ?_
   refine Le.trans (le_pick [2] rfl rfl) ?_
   (try simp only [List.set_nil, List.take_nil, List.take_zero, List.map_append, go_sem])
   (try simp only [cB8_ren])
   have e4 : k * 4 + 4 = (k + 1) * 4 := by omega
   (try simp only [e4])
   exact lmz
  ·have d1 : decide ((k : Int) < (xs.length : Int)) = false := by simpa using hlt
   have hke : xs.take k = xs := List.take_of_length_le (by omega)
   have hkl : k = xs.length := by omega
   rw [hke]
   (refine wk1 @d1 ?_;(repeat clear hK K);repeat refine kq fun K hK=>?_)
   refine cyz ?_
   (refine ekz ?_;repeat clear hK K)
   (refine wk0 ?_;(repeat clear hK K);repeat refine kq fun K hK=>?_)
   (refine lst_cons rfl ?_; intro K1 hK1; refine stp_str (id := 0) (n := k * 4) (q := 5) (sl := false) (cells := cB8 (keyB xs)) (ns := keyB xs) Try.underlying90 Try.underlying9 Try.underlying5 rfl rfl (by simp only [go_sem]) rfl (by rw [keyB_len]; omega) (by rw [hkl, List.take_of_length_le (by rw [cB8_len, keyB_len]; exact Nat.le_refl _)]; rfl) ?_; simp only [go_sem]; refine hK1 _ ?_; clear hK1 K1)
   (refine wk0 ?_;(repeat clear hK K);repeat refine kq fun K hK=>?_)
   ((try refine aw_ret ?_); (try simp only [ThenA, InBl]); refine ret_le (le_pick [] rfl rfl) ?_; (try simp only [List.set_nil, List.take_nil, List.take_zero, List.map_append, go_sem]); ((try refine aw_ret ?_); (try refine lst_nil ?_); (try simp only [ThenA, InBl]); refine ret_mk (by first | exact .inl rfl | exact .inr rfl) rfl ?_; simp only [rtn, resA, resL, resV, Try.results30, go_sem, true_and, and_true, keyS]))
theorem stp_lenm {P : Program} {o : Oper} {st : ST} {K : ST → Prop} {t kt e : TypeId} {id : Nat} {kv : List (Value × C)} {x : Operand} {c : Call} (hu : P.underlying t = some (.map kt e)) (hd : dok o st.n = true) (ho : o.op = .call c) (hc1 : c.callee = .builtin .len) (hc2 : c.args = #[x]) (hc3 : c.argTypes = #[t]) (hx : st.ev x = .a (.c (.m id))) (hm : st.hp[id]? = some (.m kv)) (h : K (st.put o.dst (.i kv.length))) : Stp P o st K := by
 refine stp_val hd (fun g w ρ hr hR => ?_) h
 obtain ⟨dst, op, ty, pos, af, gd⟩ := o
 simp only at ho
 subst ho
 obtain ⟨callee, args, ts⟩ := c
 simp only at hc1 hc2 hc3
 subst hc1; subst hc2; subst hc3
 obtain ⟨es, clock, m1, m2, _⟩ := hr.mp id kv hm
 have e1 := hR x
 rw [hx] at e1
 obtain ⟨_, e1⟩ := e1
 refine ⟨.int .i64 kv.length, ?_, rfl⟩
 simp only [execOp, resolve, invoke, builtin, Sem.run_bind, Sem.run_pure, Result.andThen_ok, List.map_toArray, List.map_cons, List.map_nil, e1]
 simp [Builtin.len_, run_underlying hu, MapKept.run_getObj_map m1, goInt, m2]
theorem kvFind_app {s : Ks} {key k : Value} {c : C} : ∀ (l : List (Value × C)) (i : Nat), kvFind s key (l ++ [(k, c)]) i = match kvFind s key l i with | some none => (match keyEq s key k with | some true => some (some (i + l.length, c)) | some false => some none | none => none) | r => r := by
 intro l
 induction l with
 | nil =>
  intro i
  simp only [List.nil_append, kvFind, List.length_nil, Nat.add_zero]
  cases keyEq s key k with
  | none => rfl
  | some b => cases b <;> rfl
 | cons p r ih =>
  intro i
  obtain ⟨k1, c1⟩ := p
  simp only [List.cons_append, kvFind]
  cases keyEq s key k1 with
  | none => rfl
  | some b =>
   cases b with
   | true => rfl
   | false =>
    simp only
    rw [ih (i + 1), List.length_cons, show i + 1 + r.length = i + (r.length + 1) from by omega]
section
variable {α : Type} [DecidableEq α]
def KyOk (ky : List Value) (g : Nat → α) : Prop := ∀ a b, a < ky.length → b < ky.length → keyEq .ks (ky.getD a (.int .i64 0)) (ky.getD b (.int .i64 0)) = some (decide (g a = g b))
def kvP (ky : List Value) (g : Nat → α) : Nat → List (Value × C)
 | 0 => []
 | k + 1 => match (List.range k).find? (fun t => decide (g t = g k)) with
  | some _ => kvP ky g k
  | none => kvP ky g k ++ [(ky.getD k (.int .i64 0), .v (.int .i64 (nmG g k).2))]
theorem kvP_some {ky : List Value} {g : Nat → α} {k t : Nat} (h : (List.range k).find? (fun t => decide (g t = g k)) = some t) : kvP ky g (k + 1) = kvP ky g k := by rw [kvP, h]
theorem kvP_none {ky : List Value} {g : Nat → α} {k : Nat} (h : (List.range k).find? (fun t => decide (g t = g k)) = none) : kvP ky g (k + 1) = kvP ky g k ++ [(ky.getD k (.int .i64 0), .v (.int .i64 (nmG g k).2))] := by rw [kvP, h]
theorem kvP_pl (ky : List Value) (g : Nat → α) (k : Nat) : (kvP ky g k).all (fun p => p.2.pl) = true := by
 induction k with
 | zero => rfl
 | succ k ih =>
  cases h : (List.range k).find? (fun t => decide (g t = g k)) with
  | some t => rw [kvP_some h]; exact ih
  | none => rw [kvP_none h, List.all_append, ih]; rfl
theorem kvP_len (ky : List Value) (g : Nat → α) (k : Nat) : (kvP ky g k).length = (nmG g k).2 := by
 induction k with
 | zero => rfl
 | succ k ih =>
  cases h : (List.range k).find? (fun t => decide (g t = g k)) with
  | some t => rw [kvP_some h, nmG_some h]; exact ih
  | none => rw [kvP_none h, nmG_none h, List.length_append, ih]; rfl
theorem kvP_form (ky : List Value) (g : Nat → α) (k : Nat) : ∃ M : List (Value × Value), kvP ky g k = M.map fun p => (p.1, C.v p.2) := by
 induction k with
 | zero => exact ⟨[], rfl⟩
 | succ k ih =>
  obtain ⟨M, hM⟩ := ih
  cases h : (List.range k).find? (fun t => decide (g t = g k)) with
  | some t => exact ⟨M, by rw [kvP_some h, hM]⟩
  | none => exact ⟨M ++ [(ky.getD k (.int .i64 0), .int .i64 (nmG g k).2)], by rw [kvP_none h, hM]; simp⟩
theorem kvP_find {ky : List Value} {g : Nat → α} (h : KyOk ky g) {s : Nat} (hs : s < ky.length) : ∀ k, k ≤ ky.length → (∃ t, t < k ∧ g t = g s ∧ ∃ j, kvFind .ks (ky.getD s (.int .i64 0)) (kvP ky g k) 0 = some (some (j, .v (.int .i64 ((nmG g k).1.getD t 0))))) ∨ ((∀ t, t < k → g t ≠ g s) ∧ kvFind .ks (ky.getD s (.int .i64 0)) (kvP ky g k) 0 = some none) := by
 intro k
 induction k with
 | zero => intro _; exact .inr ⟨fun t ht => by omega, rfl⟩
 | succ k ih =>
  intro hk
  have hkl : k < ky.length := hk
  have hlen := (nmG_ok g k).len
  cases hf : (List.range k).find? (fun t => decide (g t = g k)) with
  | some t0 =>
   have h2 := List.find?_range_eq_some.1 hf
   have h3 : t0 < k := by simpa using h2.2.1
   have h4 : g t0 = g k := by simpa using h2.1
   rw [kvP_some hf, nmG_some hf]
   rcases ih (by omega) with ⟨t, a1, a2, j, a3⟩ | ⟨a1, a2⟩
   ·refine .inl ⟨t, by omega, a2, j, ?_⟩
    rw [a3, getD_snoc_lt (by omega)]
   ·refine .inr ⟨fun t ht => ?_, a2⟩
    rcases Nat.lt_or_ge t k with b | b
    ·exact a1 t b
    ·have : t = k := by omega
     subst this
     rw [← h4]; exact a1 t0 h3
  | none =>
   rw [kvP_none hf, nmG_none hf, kvFind_app, h s k hs hkl]
   rcases ih (by omega) with ⟨t, a1, a2, j, a3⟩ | ⟨a1, a2⟩
   ·refine .inl ⟨t, by omega, a2, j, ?_⟩
    rw [a3, getD_snoc_lt (by omega)]
   ·rw [a2]
    by_cases e : g s = g k
    ·refine .inl ⟨k, by omega, e.symm, 0 + (kvP ky g k).length, ?_⟩
     rw [decide_eq_true e, getD_snoc_eq hlen.symm]
    ·refine .inr ⟨fun t ht => ?_, by rw [decide_eq_false e]⟩
     rcases Nat.lt_or_ge t k with b | b
     ·exact a1 t b
     ·have : t = k := by omega
      subst this
      exact Ne.symm e
theorem kvP_fit {ky : List Value} {g : Nat → α} (h : KyOk ky g) {s : Nat} (hs : s < ky.length) : keyFit .ks (ky.getD s (.int .i64 0)) = true := by
 unfold keyFit
 rw [h s s hs hs]
theorem cI1 (L : List Int) (x : Int) {n : Nat} (h : L.length = n) : (cInts L).take n ++ [C.v (.int .i64 x)] = cInts (L ++ [x]) := by
 subst h
 rw [List.take_of_length_le (by rw [cInts_len]; exact Nat.le_refl _)]; simp [cInts]
def cKy (ky : List Value) : List C := ky.map C.v
theorem cKy_len (ky : List Value) : (cKy ky).length = ky.length := by simp [cKy]
theorem cKy_get {ky : List Value} {s : Nat} (h : s < ky.length) : (cKy ky)[s]? = some (.v (ky.getD s (.int .i64 0))) := by simp [cKy, List.getD_eq_getElem?_getD, h]
theorem cKy_ren (ky : List Value) (f : List Nat) : (cKy ky).map (C.ren f) = cKy ky := by simp [cKy, C.ren, Function.comp_def]
theorem cKy_set (ky : List Value) (s : Nat) (v : Value) : (cKy ky).set s (.v v) = cKy (ky.set s v) := by simp [cKy, List.map_set]
set_option maxHeartbeats 2000000 in
theorem part_fc (ky : List Value) (g : Nat → α) (h : KyOk ky g) (hn : ky.length ≤ 1000000) : FC Try.prog 28 [.a (.c (.s 0 ky.length))] [.r ⟨9, 1, true, cKy ky⟩] (fun r o => r = .tup [.c (.s 1 ky.length), .c (.v (.int .i64 (nmG g ky.length).2))] ∧ o = [.r ⟨9, 1, true, cKy ky⟩, rInts (nmG g ky.length).1]) := by
 refine fc_intro Try.func28 rfl (by rw [Try.ntmps28]; simp) ?_
 rw [Try.ntmps28]
 simp only [enum]
 (refine wk0 ?_;(repeat clear hK K);repeat refine kq fun K hK=>?_)
 refine aw_le (le_nil 5 3 1 ?_) ?_
 ·simp only [go_sem]
 refine aw_loop (fun k : Nat => { tm := [(4, .a (.c (.m 1))), (5, .a (.c (.s 2 k))), (11, .a (.c (.s 0 ky.length))), (12, .i ky.length), (13, .i k)], hp := [.r ⟨9, 1, true, cKy ky⟩, .m (kvP ky g k), .r ⟨3, 1, true, cInts (nmG g k).1⟩], n := 39, pin := 1 }) (fun k => k ≤ ky.length) (fun k => ky.length - k) 0 ?_ ?_ ?_
 ·omega
 ·exact lmz
 ·rintro k hk K hK
  by_cases hlt : k < ky.length
  ·have d1 : decide ((k : Int) < (ky.length : Int)) = true := by simpa using hlt
   have gk := cKy_get hlt
   have hft := kvP_fit h hlt
   have hcl := (nmG_ok g k).cnt
   have hpl := kvP_pl ky g k
   have hpl2 := kvP_pl ky g (k + 1)
   have hkl := kvP_len ky g k
   have hnl := (nmG_ok g k).len
   have hfd := kvP_find h hlt k hk
   have hfd2 := kvP_find h hlt (k + 1) hlt
   have hnq := (nmG_ok g (k + 1)).eq
   (refine wk1 (an @cKy_len @d1) ?_;(repeat clear hK K);repeat refine kq fun K hK=>?_)
   refine cxz ?_
   cases hf : (List.range k).find? (fun t => decide (g t = g k)) with
   | some t0 =>
    have h2 := List.find?_range_eq_some.1 hf
    have h3 : t0 < k := by simpa using h2.2.1
    have h4 : g t0 = g k := by simpa using h2.1
    have hkv : kvP ky g (k + 1) = kvP ky g k := kvP_some hf
    have hng := nmG_some hf
    obtain ⟨t, a1, a2, j, a3⟩ : ∃ t, t < k ∧ g t = g k ∧ ∃ j, kvFind .ks (ky.getD k (.int .i64 0)) (kvP ky g k) 0 = some (some (j, .v (.int .i64 ((nmG g k).1.getD t 0)))) := by
     rcases hfd with h | ⟨a1, _⟩
     ·exact h
     ·exact absurd h4 (a1 t0 h3)
    have he : (nmG g k).1.getD t 0 = (nmG g k).1.getD t0 0 := ((nmG_ok g k).eq t t0 a1 h3).2 (a2.trans h4.symm)
    rw [he] at a3
    have cs := cI1 (nmG g k).1 ((nmG g k).1.getD t0 0) hnl
    obtain ⟨M, hM⟩ := kvP_form ky g k
    generalize kvP ky g k = kv at *
    subst hM
    generalize nmG g k = p at *
    generalize ky.getD k (.int .i64 0) = kk at *
    (refine wk1 (an @cKy_len @gk) ?_;(repeat clear hK K);repeat refine kq fun K hK=>?_)
    (refine lst_cons rfl ?_; intro K1 hK1; refine stp_lookup (id := 1) (kv := M.map fun p => (p.1, C.v p.2)) (zv := .int .i64 0) Try.underlying85 (keyOk_s Try.underlying9) rfl rfl rfl (by simp only [go_sem]) rfl hpl (by simp only [go_sem, keyOf]) hft a3 ?_; simp only [go_sem, lkV]; refine hK1 _ ?_; clear hK1 K1)
    (refine wk1 @Bool.not_true ?_;(repeat clear hK K);repeat refine kq fun K hK=>?_)
    refine cyz ?_
    (refine wk0 ?_;(repeat clear hK K);repeat refine kq fun K hK=>?_)
    (refine lst_cons rfl ?_; intro K1 hK1; refine stp_lookup (id := 1) (kv := M.map fun p => (p.1, C.v p.2)) (zv := .int .i64 0) Try.underlying85 (keyOk_s Try.underlying9) rfl rfl rfl (by simp only [go_sem]) rfl hpl (by simp only [go_sem, keyOf]) hft a3 ?_; simp only [go_sem, lkV]; refine hK1 _ ?_; clear hK1 K1)
    (refine wk1 (an @cs (an @cInts_len @hnl)) ?_;(repeat clear hK K);repeat refine kq fun K hK=>?_)
    refine rnz ?_
    refine hK _ (k + 1) (by omega) (by omega) ?_
    refine Le.trans (le_pick [0, 1, 4] rfl rfl) ?_
    (try simp only [List.set_nil, List.take_nil, List.take_zero, List.map_append, go_sem])
    (try simp only [cInts_ren, cKy_ren, List.map_map, Function.comp_def, List.map_append, List.map_cons, List.map_nil])
    rw [hkv, hng]
    exact lmz
   | none =>
    have hno := List.find?_range_eq_none.1 hf
    have hkv := kvP_none (ky := ky) hf
    have hng := nmG_none hf
    have a2 : kvFind .ks (ky.getD k (.int .i64 0)) (kvP ky g k) 0 = some none := by
     rcases hfd with ⟨t, a1, a2, _⟩ | ⟨_, a2⟩
     ·exact absurd a2 (by simpa using hno t a1)
     ·exact a2
    obtain ⟨j, a3⟩ : ∃ j, kvFind .ks (ky.getD k (.int .i64 0)) (kvP ky g (k + 1)) 0 = some (some (j, .v (.int .i64 (nmG g k).2))) := by
     rcases hfd2 with ⟨t, a1, a2, j, a3⟩ | ⟨a1, _⟩
     ·refine ⟨j, ?_⟩
      rw [a3, (hnq t k a1 (by omega)).2 a2, hng, getD_snoc_eq hnl.symm]
     ·exact absurd rfl (a1 k (by omega))
    have cs := cI1 (nmG g k).1 (nmG g k).2 hnl
    rw [hkv] at a3 hpl2
    obtain ⟨M, hM⟩ := kvP_form ky g k
    generalize kvP ky g k = kv at *
    subst hM
    generalize nmG g k = p at *
    generalize ky.getD k (.int .i64 0) = kk at *
    (refine wk1 (an @cKy_len @gk) ?_;(repeat clear hK K);repeat refine kq fun K hK=>?_)
    (refine lst_cons rfl ?_; intro K1 hK1; refine stp_lookup (id := 1) (kv := M.map fun p => (p.1, C.v p.2)) (zv := .int .i64 0) Try.underlying85 (keyOk_s Try.underlying9) rfl rfl rfl (by simp only [go_sem]) rfl hpl (by simp only [go_sem, keyOf]) hft a2 ?_; simp only [go_sem, lkV]; refine hK1 _ ?_; clear hK1 K1)
    (refine wk1 @Bool.not_false ?_;(repeat clear hK K);repeat refine kq fun K hK=>?_)
    refine cxz ?_
    (refine wk0 ?_;(repeat clear hK K);repeat refine kq fun K hK=>?_)
    (refine lst_cons rfl ?_; intro K1 hK1; refine stp_lenm (id := 1) (kv := M.map fun p => (p.1, C.v p.2)) Try.underlying85 rfl rfl rfl rfl rfl (by simp only [go_sem]) rfl ?_; simp only [go_sem, hkl]; refine hK1 _ ?_; clear hK1 K1)
    (refine wk0 ?_;(repeat clear hK K);repeat refine kq fun K hK=>?_)
    (refine lst_cons rfl ?_; intro K1 hK1; refine stp_mapnew (id := 1) (kv := M.map fun p => (p.1, C.v p.2)) (c := .v (.int .i64 p.2)) Try.underlying85 (keyOk_s Try.underlying9) rfl rfl (by simp only [go_sem]) rfl hpl (by simp only [go_sem, keyOf]) hft (by simp only [go_sem]) rfl a2 ?_; simp only [go_sem]; refine hK1 _ ?_; clear hK1 K1)
    (refine wk0 ?_;(repeat clear hK K);repeat refine kq fun K hK=>?_)
    (refine lst_cons rfl ?_; intro K1 hK1; refine stp_lookup (id := 1) (kv := (M.map fun p => (p.1, C.v p.2)) ++ [(kk, .v (.int .i64 p.2))]) (zv := .int .i64 0) Try.underlying85 (keyOk_s Try.underlying9) rfl rfl rfl (by simp only [go_sem]) rfl hpl2 (by simp only [go_sem, keyOf]) hft a3 ?_; simp only [go_sem, lkV]; refine hK1 _ ?_; clear hK1 K1)
    (refine wk1 (an @cs (an @cInts_len @hnl)) ?_;(repeat clear hK K);repeat refine kq fun K hK=>?_)
    refine rnz ?_
    refine hK _ (k + 1) (by omega) (by omega) ?_
    refine Le.trans (le_pick [0, 1, 4] rfl rfl) ?_
    (try simp only [List.set_nil, List.take_nil, List.take_zero, List.map_append, go_sem])
    (try simp only [cInts_ren, cKy_ren, List.map_map, Function.comp_def, List.map_append, List.map_cons, List.map_nil])
    rw [hkv, hng]
    exact lmz
  ·have d1 : decide ((k : Int) < (ky.length : Int)) = false := by simpa using hlt
   have hke : k = ky.length := by omega
   have hkl := kvP_len ky g k
   rw [← hke]
   rw [← hke] at d1
   (refine wk1 @d1 ?_;(repeat clear hK K);repeat refine kq fun K hK=>?_)
   refine cyz ?_
   (refine ekz ?_;repeat clear hK K)
   (refine wk0 ?_;(repeat clear hK K);repeat refine kq fun K hK=>?_)
   (refine lst_cons rfl ?_; intro K1 hK1; refine stp_lenm (id := 1) (kv := kvP ky g k) Try.underlying85 rfl rfl rfl rfl rfl (by simp only [go_sem]) rfl ?_; simp only [go_sem, hkl]; refine hK1 _ ?_; clear hK1 K1)
   (refine wk0 ?_;(repeat clear hK K);repeat refine kq fun K hK=>?_)
   ((try refine aw_ret ?_); (try simp only [ThenA, InBl]); refine ret_le (le_pick [0, 2] rfl rfl) ?_; (try simp only [List.set_nil, List.take_nil, List.take_zero, List.map_append, go_sem]); ((try refine aw_ret ?_); (try refine lst_nil ?_); (try simp only [ThenA, InBl]); refine ret_mk (by first | exact .inl rfl | exact .inr rfl) rfl ?_; simp only [rtn, resA, resL, resV, Try.results28, go_sem, true_and, and_true, cInts_ren, cKy_ren, rInts]))
   rw [hke]; exact ⟨rfl, rfl⟩
end
def KeyN (L : List Int) : Prop := ∀ x ∈ L, 0 ≤ x ∧ x < 2147483648
theorem keyEq_N {x y : List Int} (hx : KeyN x) (hy : KeyN y) : keyEq .ks (keyS x) (keyS y) = some (decide (x = y)) := by
 show some _ = some _
 congr 1
 rw [Bool.eq_iff_iff, decide_eq_true_iff, MapKept.bytes_beq]
 exact ⟨fun h => keyS_inj hx hy (by unfold keyS; rw [h]), fun h => by rw [h]⟩
def flP (l : List Ar) : List Int := l.flatMap fun a => [a.1, a.2]
theorem flP_inj : ∀ {x y : List Ar}, flP x = flP y → x = y
 | [], [], _ => rfl
 | [], b :: y, h => by simp [flP] at h
 | a :: x, [], h => by simp [flP] at h
 | a :: x, b :: y, h => by
  have h1 : flP (a :: x) = a.1 :: a.2 :: flP x := rfl
  have h2 : flP (b :: y) = b.1 :: b.2 :: flP y := rfl
  rw [h1, h2] at h
  injection h with h3 h4
  injection h4 with h5 h6
  rw [flP_inj h6]
  congr 1
  rcases a with ⟨p, q⟩; rcases b with ⟨r, s⟩
  simp only at h3 h5
  rw [h3, h5]
theorem flP_len (l : List Ar) : (flP l).length = l.length * 2 := by
 induction l with
 | nil => rfl
 | cons a r ih =>
  have h1 : flP (a :: r) = a.1 :: a.2 :: flP r := rfl
  rw [h1]; simp [ih]; omega
theorem flP_snoc (l : List Ar) (a : Ar) : flP (l ++ [a]) = flP l ++ [a.1, a.2] := by simp [flP]
def kyN (O : List (List Ar)) (D nw : List Int) (s : Nat) : List Int := nw.getD s 0 :: flP (O.getD (cpF D s) [])
def kyV (O : List (List Ar)) (D nw : List Int) (n : Nat) : List Value := (List.range n).map fun s => keyS (kyN O D nw s)
theorem kyV_len (O : List (List Ar)) (D nw : List Int) (n : Nat) : (kyV O D nw n).length = n := by simp [kyV]
theorem kyV_get {O : List (List Ar)} {D nw : List Int} {n s : Nat} (h : s < n) : (kyV O D nw n)[s]? = some (keyS (kyN O D nw s)) := by simp [kyV, h]
theorem arU_bd {X : List (List Ar)} {cl : List Int} (hv : valB X = true) (hc : Nrm X.length cl) (hn : X.length ≤ 100) : ∀ x ∈ arU cl X, (0 ≤ x.1 ∧ x.1 < 2147483648) ∧ 0 ≤ x.2 ∧ x.2 < 2147483648 := by
 intro x hx
 have hlo : looB X = true := decide_eq_true (of_decide_eq_true hv).1
 have hrng := hc.rng
 have hg : ∀ i, i < X.length → 0 ≤ cl.getD i 0 ∧ cl.getD i 0 < 2147483648 := fun i hi => by
  have hl := hc.len
  rw [List.getD_eq_getElem?_getD, List.getElem?_eq_getElem (by omega), Option.getD_some]
  have := hrng _ (List.getElem_mem (show i < cl.length by omega))
  omega
 obtain ⟨s, hs, h⟩ := List.mem_flatMap.1 hx
 have hs : s < X.length := by simpa using hs
 rcases List.mem_cons.1 h with rfl | h
 ·exact ⟨by simp, hg s hs⟩
 ·obtain ⟨a, ha, e⟩ := List.mem_filterMap.1 h
  have hgd : X.getD s [] = X[s] := by rw [List.getD_eq_getElem?_getD, List.getElem?_eq_getElem hs]; rfl
  rw [hgd] at ha
  have hb := (of_decide_eq_true hlo).2.2.2 _ (List.getElem_mem hs) a ha
  unfold arA at e
  split at e
  ·cases e
   exact ⟨by simp only; omega, hg _ (by omega)⟩
  ·cases e
theorem kyN_ok {X : List (List Ar)} {D cl : List Int} {Q : List Nat} {O : List (List Ar)} {i : Nat} {f : Nat → Nat} (hv : valB X = true) (hc : Nrm X.length cl) (hn : X.length ≤ 100) (hP : P3 f cl X Q i O) {s : Nat} (hs : s < X.length) : KeyN (kyN O D cl s) := by
 intro x hx
 rcases List.mem_cons.1 hx with rfl | hx
 ·have hl := hc.len
  rw [List.getD_eq_getElem?_getD, List.getElem?_eq_getElem (by omega), Option.getD_some]
  have := hc.rng _ (List.getElem_mem (show s < cl.length by omega))
  omega
 ·obtain ⟨a, ha, h⟩ := List.mem_flatMap.1 hx
  have hb := arU_bd hv hc hn _ (hP.sub _ _ ha)
  simp only [List.mem_cons, List.not_mem_nil, or_false] at h
  rcases h with rfl | rfl
  ·exact hb.1
  ·exact hb.2
theorem kyV_ok {X : List (List Ar)} {D cl : List Int} {Q : List Nat} {O : List (List Ar)} (hv : valB X = true) (h : CpOk X D) (hQ : OrdOk (edL (cpF D) X X.length) X.length (cpF D) Q) (hc : Nrm X.length cl) (hn : X.length ≤ 100) (hP : P3 (cpF D) cl X Q Q.length O) : KyOk (kyV O D cl X.length) (ftS (satR X) cl) := by
 intro a b ha hb
 rw [kyV_len] at ha hb
 rw [List.getD_eq_getElem?_getD, kyV_get ha, List.getD_eq_getElem?_getD, kyV_get hb, Option.getD_some, Option.getD_some, keyEq_N (kyN_ok hv hc hn hP ha) (kyN_ok hv hc hn hP hb)]
 congr 1
 rw [decide_eq_decide]
 unfold kyN ftS
 rw [P3.done hv h hQ hP ha, P3.done hv h hQ hP hb]
 constructor
 ·intro e
  injection e with e1 e2
  rw [e1, flP_inj e2]
 ·intro e
  injection e with e1 e2
  rw [e1, e2]
def kyD (kd ke : Value) (B : List Bool) (n k : Nat) : List Value := (List.range n).map fun s => if s < k ∧ B.getD s false = true then kd else ke
theorem kyD_len (kd ke : Value) (B : List Bool) (n k : Nat) : (kyD kd ke B n k).length = n := by simp [kyD]
theorem kyD_zero (kd ke : Value) (B : List Bool) (n : Nat) : kyD kd ke B n 0 = List.replicate n ke := by
 refine List.ext_getElem (by simp [kyD]) fun i h1 h2 => ?_
 simp [kyD]
theorem kyD_true {kd ke : Value} {B : List Bool} {n k : Nat} (h : B.getD k false = true) : (kyD kd ke B n k).set k kd = kyD kd ke B n (k + 1) := by
 refine List.ext_getElem (by simp [kyD]) fun i h1 h2 => ?_
 rw [List.getElem_set]
 simp only [kyD, List.getElem_map, List.getElem_range]
 by_cases e : k = i
 ·subst e; rw [if_pos rfl, if_pos ⟨by omega, h⟩]
 ·rw [if_neg e]
  by_cases hb : B.getD i false = true
  ·by_cases hk : i < k
   ·rw [if_pos ⟨hk, hb⟩, if_pos ⟨by omega, hb⟩]
   ·rw [if_neg (fun h => hk h.1), if_neg (fun h => by have := h.1; omega)]
  ·rw [if_neg (fun h => hb h.2), if_neg (fun h => hb h.2)]
theorem kyD_false {kd ke : Value} {B : List Bool} {n k : Nat} (h : B.getD k false = false) : kyD kd ke B n (k + 1) = kyD kd ke B n k := by
 refine List.map_congr_left fun i _ => ?_
 by_cases hb : B.getD i false = true
 ·by_cases e : i = k
  ·subst e; rw [h] at hb; cases hb
  ·by_cases hk : i < k
   ·rw [if_pos ⟨by omega, hb⟩, if_pos ⟨hk, hb⟩]
   ·rw [if_neg (fun h => by have := h.1; omega), if_neg (fun h => hk h.1)]
 ·rw [if_neg (fun h => hb h.2), if_neg (fun h => hb h.2)]
theorem kyD_ok {kd ke : Value} (h1 : keyEq .ks kd kd = some true) (h2 : keyEq .ks ke ke = some true) (h3 : keyEq .ks kd ke = some false) (h4 : keyEq .ks ke kd = some false) (B : List Bool) (n : Nat) : KyOk (kyD kd ke B n n) (fun s => B.getD s false) := by
 intro a b ha hb
 rw [kyD_len] at ha hb
 have g : ∀ s, s < n → (kyD kd ke B n n).getD s (.int .i64 0) = if B.getD s false = true then kd else ke := fun s hs => by
  rw [List.getD_eq_getElem?_getD, List.getElem?_eq_getElem (by rw [kyD_len]; exact hs), Option.getD_some]
  simp only [kyD, List.getElem_map, List.getElem_range, hs, true_and]
 rw [g a ha, g b hb]
 show _ = some (decide (B.getD a false = B.getD b false))
 cases B.getD a false <;> cases B.getD b false <;> simp [h1, h2, h3, h4]
end Go.Proofs.Ytahnebicgbjonaa
