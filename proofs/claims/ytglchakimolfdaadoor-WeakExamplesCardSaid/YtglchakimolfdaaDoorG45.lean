/- ref23: inStates; Reach. Canonical forms, as plain functions. TauLoops as a plain function: numbers of the components, rows joined. The silent arcs of a sorted row come first: both closures see the same graph. ref23: Has at a tree; Components. Divergence, plain: predecessors, the search from the goals, states on silent cycles. Canonical forms depend on the rows as sets; rows joined by insertion. The canonical form of a loose system is valid. Quotients, plain: numbered classes, rows joined by classes. The system of the sanity checks: a silent step before an event. -/
import Derived.Test.YtglchakimolfdaaDoorG42
import Derived.Test.YtglchakimolfdaaDoorG11
import Derived.Test.YtglchakimolfdaaDoorTj1
namespace Go.Proofs.YtglchakimolfdaaDoor
set_option linter.unusedVariables false
set_option linter.unusedSimpArgs false
open Go.RowKit
set_option maxRecDepth 100000
attribute [local go_sem] List.set_cons_zero List.set_cons_succ List.map_cons List.map_nil List.take_succ_cons List.take_zero List.drop_zero List.drop_succ_cons C.pl C.one List.all_cons List.all_nil Bool.and_true Nat.mul_one Int.toNat_natCast

def cBs (B : List Bool) : List C := B.map fun b => C.v (.bool b)
theorem cBs_len (B : List Bool) : (cBs B).length = B.length := by simp [cBs]
theorem cBs_get {B : List Bool} {i : Nat} {b : Bool} (h : B[i]? = some b) : (cBs B)[i]? = some (.v (.bool b)) := by simp [cBs, h]
theorem cBs_set (B : List Bool) (i : Nat) (b : Bool) : (cBs B).set i (.v (.bool b)) = cBs (B.set i b) := by simp [cBs, List.map_set]
theorem cBs_ren (f : List Nat) (B : List Bool) : (cBs B).map (C.ren f) = cBs B := by simp [cBs, C.ren, Function.comp_def]
def seenB (B : List Bool) (u : Nat) : Bool := B.getD u false
structure Rs (E : Nat → List Nat) (n : Nat) (F : List Nat) (B : List Bool) (Q : List Nat) : Prop where
 len : B.length = n
 snd : ∀ u, seenB B u = true → ∃ v ∈ F, Rc E v u
 q : ∀ u ∈ Q, u < n ∧ ∃ v ∈ F, Rc E v u
 cl : ∀ u, seenB B u = true → ∀ w ∈ E u, seenB B w = true ∨ w ∈ Q
 st : ∀ v ∈ F, seenB B v = true ∨ v ∈ Q
variable {E : Nat → List Nat} {n u : Nat} {F : List Nat} {B : List Bool} {Q : List Nat}
theorem Rs.start (hF : ∀ v ∈ F, v < n) : Rs E n F (List.replicate n false) F := by
 have e : ∀ u, seenB (List.replicate n false) u = false := fun u => by
  unfold seenB; rw [List.getD_eq_getElem?_getD, List.getElem?_replicate]; split <;> rfl
 exact ⟨by simp, fun u h => (by rw [e] at h; cases h), fun u h => ⟨hF u h, u, h, .refl _⟩, fun u h => (by rw [e] at h; cases h), fun v h => .inr h⟩
theorem Rs.done (h : Rs E n F B []) (u : Nat) : seenB B u = true ↔ ∃ v ∈ F, Rc E v u := by
 refine ⟨h.snd u, fun ⟨v, hv, hr⟩ => ?_⟩
 induction hr with
 | refl => exact (h.st v hv).resolve_right (by simp)
 | tail _ he ih => exact (h.cl _ (ih ⟨v, hv, ‹_›⟩) _ he).resolve_right (by simp)
end Go.Proofs.YtglchakimolfdaaDoor
namespace Go.Proofs.YtglchakimolfdaaDoor
set_option linter.unusedVariables false
set_option linter.unusedSimpArgs false

def rowOf (r : List Ar) : List Ar := r.foldl (fun acc a => insA a acc) []
def numOne (num old : List Int) (t : Int) : List Int × List Int := if num.getD t.toNat 0 < 0 then (num.set t.toNat old.length, old ++ [t]) else (num, old)
def rowGo : List Ar → List Int → List Int → List Ar → List Int × List Int × List Ar
 | [], num, old, nxt => (num, old, nxt)
 | a :: tl, num, old, nxt => rowGo tl (numOne num old a.2).1 (numOne num old a.2).2 (insA (a.1, (numOne num old a.2).1.getD a.2.toNat 0) nxt)
def canGo (rows : List (List Ar)) : Nat → Nat → List Int → List Int → List (List Ar) → List (List Ar) × List Int
 | 0, _, _, old, out => (out, old)
 | f + 1, i, num, old, out => match old[i]? with
  | none => (out, old)
  | some s => canGo rows f (i + 1) (rowGo (rowOf (rows.getD s.toNat [])) num old []).1 (rowGo (rowOf (rows.getD s.toNat [])) num old []).2.1 (out ++ [(rowGo (rowOf (rows.getD s.toNat [])) num old []).2.2])
def canonR (rows : List (List Ar)) : List (List Ar) × List Int := canGo rows rows.length 0 ((List.replicate rows.length (-1)).set 0 0) [0] []

theorem mem_foldl_ins (r acc : List Ar) (a : Ar) : a ∈ r.foldl (fun acc a => insA a acc) acc ↔ a ∈ acc ∨ a ∈ r := by
 induction r generalizing acc with
 | nil => simp
 | cons x xs ih => rw [List.foldl_cons, ih, mem_insA, List.mem_cons, or_comm (a := a = x), or_assoc]
theorem mem_rowOf (r : List Ar) (a : Ar) : a ∈ rowOf r ↔ a ∈ r := by unfold rowOf; rw [mem_foldl_ins]; simp
theorem len_foldl_ins (r acc : List Ar) : (r.foldl (fun acc a => insA a acc) acc).length ≤ acc.length + r.length := by
 induction r generalizing acc with
 | nil => simp
 | cons x xs ih => rw [List.foldl_cons, List.length_cons]; have := ih (insA x acc); have := insA_len x acc; omega
theorem len_rowOf (r : List Ar) : (rowOf r).length ≤ r.length := by have := len_foldl_ins r []; simpa [rowOf] using this

structure NumOk (n : Nat) (num old : List Int) : Prop where
 len : num.length = n
 rng : ∀ x ∈ num, -1 ≤ x ∧ x < n
 st : ∀ s ∈ old, 0 ≤ s ∧ s < n
 cnt : old.length + num.countP (fun x => decide (x < 0)) = n
theorem countP_set {p : Int → Bool} {l : List Int} {i : Nat} {x y : Int} (h : l[i]? = some x) (hx : p x = true) (hy : p y = false) : (l.set i y).countP p + 1 = l.countP p := by
 induction l generalizing i with
 | nil => simp at h
 | cons z zs ih =>
  cases i with
  | zero => simp at h; subst h; simp [List.countP_cons, hx, hy]
  | succ i =>
   simp only [List.getElem?_cons_succ] at h
   have := ih h
   simp only [List.set_cons_succ, List.countP_cons]
   omega
theorem NumOk.le {n : Nat} {num old : List Int} (h : NumOk n num old) : old.length ≤ n := by have := h.cnt; omega
theorem NumOk.get {n : Nat} {num old : List Int} (h : NumOk n num old) {t : Int} (h0 : 0 ≤ t) (h1 : t < n) : ∃ x, num[t.toNat]? = some x ∧ num.getD t.toNat 0 = x ∧ -1 ≤ x ∧ x < n := by
 have hl : t.toNat < num.length := by rw [h.len]; omega
 exact ⟨num[t.toNat], List.getElem?_eq_getElem hl, by simp [hl], h.rng _ (List.getElem_mem hl)⟩
theorem NumOk.one {n : Nat} {num old : List Int} (h : NumOk n num old) {t : Int} (h0 : 0 ≤ t) (h1 : t < n) : NumOk n (numOne num old t).1 (numOne num old t).2 := by
 obtain ⟨x, hx, hd, hb⟩ := h.get h0 h1
 unfold numOne
 rw [hd]
 split
 ·rename_i hneg
  have hc := countP_set (p := fun x => decide (x < 0)) (y := (old.length : Int)) hx (by simpa using hneg) (by simp)
  have hcnt := h.cnt
  refine ⟨by simp [h.len], fun y hy => ?_, fun s hs => ?_, by simp; omega⟩
  ·rcases List.mem_or_eq_of_mem_set hy with hy | hy
   ·exact h.rng y hy
   ·subst hy; omega
  ·rcases List.mem_append.1 hs with hs | hs
   ·exact h.st s hs
   ·simp at hs; subst hs; exact ⟨h0, h1⟩
 ·exact h
theorem NumOk.go {n : Nat} : ∀ (r : List Ar) {num old : List Int} (nxt : List Ar), NumOk n num old → (∀ a ∈ r, 0 ≤ a.2 ∧ a.2 < n) → NumOk n (rowGo r num old nxt).1 (rowGo r num old nxt).2.1
 | [], _, _, _, h, _ => h
 | a :: tl, _, _, nxt, h, hr => NumOk.go tl _ (h.one (hr a (by simp)).1 (hr a (by simp)).2) (fun b hb => hr b (List.mem_cons_of_mem _ hb))
theorem NumOk.start {n : Nat} (hn : 0 < n) : NumOk n ((List.replicate n (-1)).set 0 0) [0] := by
 obtain ⟨k, rfl⟩ : ∃ k, n = k + 1 := ⟨n - 1, by omega⟩
 refine ⟨by simp, fun x hx => ?_, fun s hs => ?_, ?_⟩
 ·rcases List.mem_or_eq_of_mem_set hx with h | h
  ·rw [(List.mem_replicate.1 h).2]; omega
  ·subst h; omega
 ·simp at hs; subst hs; omega
 ·simp [List.replicate_succ, List.countP_replicate]; omega


theorem canGo_stop {rows : List (List Ar)} {f i : Nat} {num old : List Int} {out : List (List Ar)} (h : old.length ≤ i) : canGo rows f i num old out = (out, old) := by
 cases f with
 | zero => rfl
 | succ f => simp [canGo, List.getElem?_eq_none h]
theorem canGo_step {rows : List (List Ar)} {n i : Nat} {num old : List Int} {out : List (List Ar)} {s : Int} {r : List Ar} (hi : i < n) (hs : old[i]? = some s) (hr : rows[s.toNat]? = some r) {row : List Ar} (hrow : row = rowOf r) :
  canGo rows (n - i) i num old out = canGo rows (n - (i + 1)) (i + 1) (rowGo row num old []).1 (rowGo row num old []).2.1 (out ++ [(rowGo row num old []).2.2]) := by
 obtain ⟨m, hm⟩ : ∃ m, n - i = m + 1 := ⟨n - i - 1, by omega⟩
 have hm' : n - (i + 1) = m := by omega
 rw [hm, hm', canGo, hs, hrow]
 have : rows.getD s.toNat [] = r := by simp [List.getD, hr]
 simp only [this]

def compGo (p : Ar) : List Ar → List Ar
 | [] => []
 | y :: ys => if y = p then compGo p ys else y :: compGo y ys
def compL : List Ar → List Ar
 | [] => []
 | x :: xs => x :: compGo x xs


theorem sorted_ext : ∀ {l m : List Ar}, SortA l → SortA m → (∀ a, a ∈ l ↔ a ∈ m) → l = m
 | [], [], _, _, _ => rfl
 | [], b :: m, _, _, h => by have := (h b).2 (by simp); simp at this
 | a :: l, [], _, _, h => by have := (h a).1 (by simp); simp at this
 | a :: l, b :: m, hl, hm, h => by
  have hl' := List.pairwise_cons.1 hl
  have hm' := List.pairwise_cons.1 hm
  have hab : a = b := by
   rcases List.mem_cons.1 ((h a).1 (by simp)) with e | e
   ·exact e
   ·rcases List.mem_cons.1 ((h b).2 (by simp)) with e' | e'
    ·exact e'.symm
    ·have h1 := hm'.1 a e
     have h2 := hl'.1 b e'
     rw [ltA_iff] at h1 h2; omega
  subst hab
  congr 1
  refine sorted_ext hl'.2 hm'.2 fun c => ⟨fun hc => ?_, fun hc => ?_⟩
  ·rcases List.mem_cons.1 ((h c).1 (List.mem_cons_of_mem _ hc)) with e | e
   ·subst e; have := hl'.1 c hc; rw [ltA_irr] at this; cases this
   ·exact e
  ·rcases List.mem_cons.1 ((h c).2 (List.mem_cons_of_mem _ hc)) with e | e
   ·subst e; have := hm'.1 c hc; rw [ltA_irr] at this; cases this
   ·exact e
def LeA (a b : Ar) : Prop := ltA b a = false
theorem compGo_mem (p : Ar) (l : List Ar) (a : Ar) : a ∈ p :: compGo p l ↔ a ∈ p :: l := by
 induction l generalizing p with
 | nil => simp [compGo]
 | cons y ys ih =>
  unfold compGo
  split
  ·rename_i h; subst h; rw [ih]; simp
  ·have := ih y
   simp only [List.mem_cons] at this ⊢
   rw [this]
theorem compGo_sorted (p : Ar) (l : List Ar) (h : (p :: l).Pairwise LeA) : SortA (p :: compGo p l) := by
 induction l generalizing p with
 | nil => simp [compGo, SortA]
 | cons y ys ih =>
  have h1 := List.pairwise_cons.1 h
  have h2 := List.pairwise_cons.1 h1.2
  unfold compGo
  split
  ·rename_i e; subst e
   exact ih _ (List.pairwise_cons.2 ⟨fun a ha => h2.1 a ha, h2.2⟩)
  ·rename_i e
   have hy := ih y h1.2
   refine List.pairwise_cons.2 ⟨fun a ha => ?_, hy⟩
   have hpy : ltA p y = true := by
    have := h1.1 y (by simp)
    rcases ltA_tri p y with h | h | h
    ·exact h
    ·exact absurd h.symm e
    ·unfold LeA at this; rw [h] at this; cases this
   rcases List.mem_cons.1 ha with rfl | ha
   ·exact hpy
   ·exact ltA_trans hpy ((List.pairwise_cons.1 hy).1 a ha)
theorem rowOf_sorted (r : List Ar) : SortA (rowOf r) := by
 unfold rowOf
 have : ∀ (l acc : List Ar), SortA acc → SortA (l.foldl (fun acc a => insA a acc) acc) := by
  intro l
  induction l with
  | nil => intro acc h; exact h
  | cons x xs ih => intro acc h; exact ih _ (insA_sort h)
 exact this r [] List.Pairwise.nil
theorem comp_sort {r q : List Ar} (hp : q.Perm r) (h : q.Pairwise LeA) : compL q = rowOf r := by
 refine sorted_ext ?_ (rowOf_sorted r) fun a => ?_
 ·cases q with
  | nil => exact List.Pairwise.nil
  | cons x xs => exact compGo_sorted x xs h
 ·rw [mem_rowOf, ← hp.mem_iff]
  cases q with
  | nil => simp [compL]
  | cons x xs => exact compGo_mem x xs a
theorem sort_nodup {r q : List Ar} (h : r.Nodup) (hp : q.Perm r) (h1 : q.Pairwise LeA) : q = rowOf r := by
 refine sorted_ext ?_ (rowOf_sorted r) fun a => by rw [mem_rowOf, hp.mem_iff]
 have h2 := hp.symm.nodup h
 refine (List.pairwise_iff_forall_sublist.2 ?_)
 intro a b hab
 have hle := List.pairwise_iff_forall_sublist.1 h1 hab
 have hne := List.pairwise_iff_forall_sublist.1 h2 hab
 rcases ltA_tri a b with h | h | h
 ·exact h
 ·exact absurd h hne
 ·unfold LeA at hle; rw [h] at hle; cases hle
def numL : List Ar → List Int → List Int → List Int × List Int × List Ar
 | [], num, old => (num, old, [])
 | a :: tl, num, old =>
  ((numL tl (numOne num old a.2).1 (numOne num old a.2).2).1, (numL tl (numOne num old a.2).1 (numOne num old a.2).2).2.1,
   (a.1, (numOne num old a.2).1.getD a.2.toNat 0) :: (numL tl (numOne num old a.2).1 (numOne num old a.2).2).2.2)
theorem rowGo_numL (r : List Ar) (num old : List Int) (nxt : List Ar) :
  rowGo r num old nxt = ((numL r num old).1, (numL r num old).2.1, (numL r num old).2.2.foldl (fun acc a => insA a acc) nxt) := by
 induction r generalizing num old nxt with
 | nil => rfl
 | cons a tl ih => simp only [rowGo, numL, ih, List.foldl_cons]
structure NumInj (num old : List Int) : Prop where
 inj : ∀ (t : Nat) (x : Int), num[t]? = some x → 0 ≤ x → old[x.toNat]? = some (t : Int)
theorem NumInj.one {num old : List Int} (h : NumInj num old) {t : Int} (h0 : 0 ≤ t) (h1 : t < num.length) : NumInj (numOne num old t).1 (numOne num old t).2 := by
 unfold numOne
 split
 ·refine ⟨fun s x hx hp => ?_⟩
  rw [List.getElem?_set] at hx
  split at hx
  ·rename_i hs
   rw [if_pos (by omega)] at hx
   injection hx with hx
   subst hx
   simp
   omega
  ·have := h.inj s x hx hp
   rw [List.getElem?_append_left (List.getElem?_eq_some_iff.1 this).1]
   exact this
 ·exact h
theorem numOne_len (num old : List Int) (t : Int) : (numOne num old t).1.length = num.length := by unfold numOne; split <;> simp
theorem numOne_keep {num old : List Int} {t : Int} {s : Nat} {x : Int} (h0 : 0 ≤ t) (hx : num[s]? = some x) (hp : 0 ≤ x) : (numOne num old t).1[s]? = some x := by
 unfold numOne
 split
 ·rename_i hneg
  simp only [List.getElem?_set]
  split
  ·rename_i hs
   subst hs
   simp [List.getD, hx] at hneg
   omega
  ·exact hx
 ·exact hx
theorem numOne_at {num old : List Int} {t : Int} (h0 : 0 ≤ t) (h1 : t < num.length) : ∃ x, (numOne num old t).1[t.toNat]? = some x ∧ 0 ≤ x := by
 unfold numOne
 split
 ·exact ⟨_, by rw [List.getElem?_set, if_pos rfl, if_pos (by omega)], by omega⟩
 ·rename_i hneg
  have hl : t.toNat < num.length := by omega
  refine ⟨num[t.toNat], List.getElem?_eq_getElem hl, ?_⟩
  simpa [List.getD, List.getElem?_eq_getElem hl] using hneg
theorem numL_keep (r : List Ar) {num old : List Int} (hr : ∀ a ∈ r, 0 ≤ a.2) {s : Nat} {x : Int} (hx : num[s]? = some x) (hp : 0 ≤ x) : (numL r num old).1[s]? = some x := by
 induction r generalizing num old with
 | nil => exact hx
 | cons a tl ih => exact ih (fun b hb => hr b (by simp [hb])) (numOne_keep (hr a (by simp)) hx hp)
theorem numL_inj (r : List Ar) {num old : List Int} (hr : ∀ a ∈ r, 0 ≤ a.2 ∧ a.2 < num.length) (h : NumInj num old) : NumInj (numL r num old).1 (numL r num old).2.1 := by
 induction r generalizing num old with
 | nil => exact h
 | cons a tl ih =>
  have ha := hr a (by simp)
  exact ih (fun b hb => by rw [numOne_len]; exact hr b (by simp [hb])) (h.one ha.1 ha.2)
theorem numL_map (r : List Ar) {num old : List Int} (hr : ∀ a ∈ r, 0 ≤ a.2 ∧ a.2 < num.length) :
  (numL r num old).2.2 = r.map (fun a => (a.1, (numL r num old).1.getD a.2.toNat 0)) ∧ ∀ a ∈ r, ∃ x, (numL r num old).1[a.2.toNat]? = some x ∧ 0 ≤ x := by
 induction r generalizing num old with
 | nil => exact ⟨rfl, by simp⟩
 | cons a tl ih =>
  have ha := hr a (by simp)
  obtain ⟨i1, i2⟩ := ih (num := (numOne num old a.2).1) (old := (numOne num old a.2).2) (fun b hb => by rw [numOne_len]; exact hr b (by simp [hb]))
  obtain ⟨x, hx, hp⟩ := numOne_at (old := old) ha.1 ha.2
  have hk := numL_keep (old := (numOne num old a.2).2) tl (fun b hb => (hr b (by simp [hb])).1) hx hp
  refine ⟨?_, fun b hb => ?_⟩
  ·simp only [numL, List.map_cons]
   congr 1
   simp [List.getD, hx, hk]
  ·rcases List.mem_cons.1 hb with rfl | hb
   ·exact ⟨x, hk, hp⟩
   ·exact i2 b hb
theorem numL_nodup (r : List Ar) {num old : List Int} (hs : SortA r) (hr : ∀ a ∈ r, 0 ≤ a.2 ∧ a.2 < num.length) (h : NumInj num old) : (numL r num old).2.2.Nodup := by
 obtain ⟨h1, h2⟩ := numL_map (old := old) r hr
 have hi := numL_inj r hr h
 rw [h1, List.Nodup, List.pairwise_map]
 have hnd : r.Pairwise (· ≠ ·) := hs.imp (fun {a b} hab e => by subst e; rw [ltA_irr] at hab; cases hab)
 refine hnd.imp_of_mem (fun {a b} ha hb hne e => hne ?_)
 obtain ⟨x, hx, hxp⟩ := h2 a ha
 obtain ⟨y, hy, hyp⟩ := h2 b hb
 have ha' := hr a ha
 have hb' := hr b hb
 simp only [Prod.mk.injEq, List.getD, hx, hy, Option.getD_some] at e
 obtain ⟨e1, e2⟩ := e
 subst e2
 have q1 := hi.inj _ _ hx hxp
 have q2 := hi.inj _ _ hy hxp
 rw [q1] at q2
 injection q2 with q2
 rcases a with ⟨a1, a2⟩
 rcases b with ⟨b1, b2⟩
 simp only at *
 have : a2 = b2 := by omega
 rw [e1, this]
theorem NumInj.start {n : Nat} (hn : 0 < n) : NumInj ((List.replicate n (-1)).set 0 0) [0] := ⟨fun t x hx hp => by
 rw [List.getElem?_set] at hx
 split at hx
 ·rename_i h
  subst h
  simp [hn] at hx
  subst hx; rfl
 ·rw [List.getElem?_replicate] at hx
  split at hx
  ·cases hx; omega
  ·cases hx⟩

theorem numL_neg {tl : List Ar} {num old : List Int} {e x : Int} {tn L : Nat} (hx : num[tn]? = some x) (hneg : x < 0) (hL : old.length = L) :
  numL ((e, (tn : Int)) :: tl) num old = ((numL tl (num.set tn L) (old ++ [(tn : Int)])).1, (numL tl (num.set tn L) (old ++ [(tn : Int)])).2.1, (e, (L : Int)) :: (numL tl (num.set tn L) (old ++ [(tn : Int)])).2.2) := by
 have hl : tn < num.length := (List.getElem?_eq_some_iff.1 hx).1
 have h1 : numOne num old (tn : Int) = (num.set tn L, old ++ [(tn : Int)]) := by
  simp only [numOne, Int.toNat_natCast, List.getD, hx, Option.getD_some, if_pos hneg, hL]
 simp only [numL, h1, Int.toNat_natCast]
 simp [List.getD, hl]
theorem numL_pos {tl : List Ar} {num old : List Int} {e x : Int} {tn : Nat} (hx : num[tn]? = some x) (hpos : ¬ x < 0) :
  numL ((e, (tn : Int)) :: tl) num old = ((numL tl num old).1, (numL tl num old).2.1, (e, x) :: (numL tl num old).2.2) := by
 have h1 : numOne num old (tn : Int) = (num, old) := by
  simp only [numOne, Int.toNat_natCast, List.getD, hx, Option.getD_some, if_neg hpos]
 simp only [numL, h1, Int.toNat_natCast, List.getD, hx, Option.getD_some]
def NL (R : List Int × List Int × List Ar) (ya q : List Ar) (k : Nat) (num old : List Int) : Prop :=
 ya.take k ++ (numL (q.drop k) num old).2.2 = R.2.2 ∧ (numL (q.drop k) num old).1 = R.1 ∧ (numL (q.drop k) num old).2.1 = R.2.1 ∧ ya.drop k = q.drop k
theorem NL.neg {R : List Int × List Int × List Ar} {ya q : List Ar} {k : Nat} {num old : List Int} {e x : Int} {tn L : Nat} (h : NL R ya q k num old) (hk : ya[k]? = some (e, (tn : Int))) (hx : num[tn]? = some x) (hneg : x < 0) (hL : old.length = L) :
  NL R (ya.set k (e, (L : Int))) q (k + 1) (num.set tn L) (old ++ [(tn : Int)]) := by
 obtain ⟨h1, h2, h3, h4⟩ := h
 have hl := (List.getElem?_eq_some_iff.1 hk).1
 have hd : q.drop k = (e, (tn : Int)) :: q.drop (k + 1) := by
  have h5 : ya.drop k = (e, (tn : Int)) :: ya.drop (k + 1) := by
   rw [List.drop_eq_getElem_cons hl]; congr 1
   rw [List.getElem?_eq_getElem hl] at hk; exact Option.some.inj hk
  have h6 := congrArg (List.drop 1) h4
  rw [List.drop_drop, List.drop_drop] at h6
  rw [← h4, h5, h6]
 rw [hd, numL_neg hx hneg hL] at h1 h2 h3
 refine ⟨?_, h2, h3, ?_⟩
 ·rw [← h1, List.take_add_one, List.take_set_of_le (Nat.le_refl k)]
  simp [List.getElem?_set, hl]
 ·rw [List.drop_set, if_pos (by omega)]
  have h6 := congrArg (List.drop 1) h4
  rwa [List.drop_drop, List.drop_drop] at h6
theorem NL.pos {R : List Int × List Int × List Ar} {ya q : List Ar} {k : Nat} {num old : List Int} {e x : Int} {tn : Nat} (h : NL R ya q k num old) (hk : ya[k]? = some (e, (tn : Int))) (hx : num[tn]? = some x) (hpos : ¬ x < 0) :
  NL R (ya.set k (e, x)) q (k + 1) num old := by
 obtain ⟨h1, h2, h3, h4⟩ := h
 have hl := (List.getElem?_eq_some_iff.1 hk).1
 have hd : q.drop k = (e, (tn : Int)) :: q.drop (k + 1) := by
  have h5 : ya.drop k = (e, (tn : Int)) :: ya.drop (k + 1) := by
   rw [List.drop_eq_getElem_cons hl]; congr 1
   rw [List.getElem?_eq_getElem hl] at hk; exact Option.some.inj hk
  have h6 := congrArg (List.drop 1) h4
  rw [List.drop_drop, List.drop_drop] at h6
  rw [← h4, h5, h6]
 rw [hd, numL_pos hx hpos] at h1 h2 h3
 refine ⟨?_, h2, h3, ?_⟩
 ·rw [← h1, List.take_add_one, List.take_set_of_le (Nat.le_refl k)]
  simp [List.getElem?_set, hl]
 ·rw [List.drop_set, if_pos (by omega)]
  have h6 := congrArg (List.drop 1) h4
  rwa [List.drop_drop, List.drop_drop] at h6


def tlA (f : Nat → Nat) (c : Nat) (o : List (List Ar)) (a : Ar) : List (List Ar) := o.set c (o.getD c [] ++ [(a.1, (f a.2.toNat : Int))])
def tlRow (f : Nat → Nat) (c : Nat) (o : List (List Ar)) (row : List Ar) : List (List Ar) := row.foldl (tlA f c) o
theorem tlA_len (f : Nat → Nat) (c : Nat) (o : List (List Ar)) (a : Ar) : (tlA f c o a).length = o.length := by simp [tlA]
theorem Rc.lt {E : Nat → List Nat} {n u v : Nat} (h : Rc E u v) (hu : u < n) (hE : ∀ x, x < n → ∀ y ∈ E x, y < n) : v < n := by
 induction h with
 | refl => exact hu
 | tail _ he ih => exact hE _ ih _ he
theorem adj_lt {R : List (List Ar)} (t : Bool) (hv : looB R = true) : ∀ x, x < R.length → ∀ y ∈ Adj t R x, y < R.length := by
 intro x hx y hy
 unfold Adj at hy
 rw [List.getD_eq_getElem?_getD, List.getElem?_eq_getElem hx, Option.getD_some] at hy
 obtain ⟨a, ha, rfl⟩ := List.mem_map.1 hy
 have h1 : a ∈ R[x] := by
  unfold tauOf at ha
  split at ha
  ·exact (List.takeWhile_sublist _).subset ha
  ·exact ha
 have h2 := (of_decide_eq_true hv).2.2.2 _ (List.getElem_mem hx) a h1
 omega
theorem totA_set (o : List (List Ar)) {c : Nat} (h : c < o.length) (x : Ar) : totA (o.set c (o.getD c [] ++ [x])) = totA o + 1 := by
 induction o generalizing c with
 | nil => simp at h
 | cons a r ih =>
  cases c with
  | zero => simp [totA]; omega
  | succ c =>
   have := ih (c := c) (by simpa using h)
   simp only [List.set_cons_succ, List.getD_cons_succ]
   simp only [totA, List.map_cons, List.sum_cons] at this ⊢
   omega
theorem totA_row (o : List (List Ar)) (c : Nat) : (o.getD c []).length ≤ totA o := by
 induction o generalizing c with
 | nil => simp
 | cons a r ih =>
  cases c with
  | zero => simp [totA]
  | succ c =>
   have := ih c
   simp only [List.getD_cons_succ]
   simp only [totA, List.map_cons, List.sum_cons] at this ⊢
   omega
theorem totA_rep (m : Nat) : totA (List.replicate m []) = 0 := by
 unfold totA
 rw [List.map_replicate, List.sum_replicate_nat]; simp
def TlP (m : Nat) (o : List (List Ar)) : Prop := ∀ r ∈ o, ∀ a ∈ r, 0 ≤ a.1 ∧ a.1 ≤ 1025 ∧ 0 ≤ a.2 ∧ a.2 < (m : Int)
theorem TlP.one {f : Nat → Nat} {m c : Nat} {o : List (List Ar)} {a : Ar} (h : TlP m o) (ha : 0 ≤ a.1 ∧ a.1 ≤ 1025) (hf : f a.2.toNat < m) : TlP m (tlA f c o a) := by
 intro r hr b hb
 rcases List.mem_or_eq_of_mem_set hr with h1 | h1
 ·exact h r h1 b hb
 ·subst h1
  rcases List.mem_append.1 hb with h2 | h2
  ·rw [List.getD_eq_getElem?_getD] at h2
   rcases Nat.lt_or_ge c o.length with h3 | h3
   ·rw [List.getElem?_eq_getElem h3, Option.getD_some] at h2
    exact h _ (List.getElem_mem h3) b h2
   ·rw [List.getElem?_eq_none h3] at h2; simp at h2
  ·simp at h2; subst h2
   exact ⟨ha.1, ha.2, by simp only; omega, by simp only; omega⟩
theorem Least.uniq {E : Nat → List Nat} {v : Nat} {x y : Int} (h1 : Least E v x) (h2 : Least E v y) : x = y := by
 obtain ⟨m, a1, a2, a3, a4⟩ := h1
 obtain ⟨k, b1, b2, b3, b4⟩ := h2
 have := a4 k b2 b3
 have := b4 m a2 a3
 omega
open Go.RowKit
set_option maxRecDepth 100000
attribute [local go_sem] List.set_cons_zero List.set_cons_succ List.map_cons List.map_nil List.take_succ_cons List.take_zero List.drop_zero List.drop_succ_cons C.pl C.one List.all_cons List.all_nil Bool.and_true Nat.mul_one Int.toNat_natCast
def cSetsO (L : List (List Int)) : List C := L.map fun r => C.o (1, 3) (tInts r)
theorem cSetsO_len (L : List (List Int)) : (cSetsO L).length = L.length := by simp [cSetsO]
theorem cSetsO_set (L : List (List Int)) (i : Nat) (x : List Int) : (cSetsO L).set i (.o (1, 3) (tInts x)) = cSetsO (L.set i x) := by simp [cSetsO, List.map_set]
theorem cSetsO_ren (f : List Nat) (L : List (List Int)) : (cSetsO L).map (C.ren f) = cSetsO L := by simp [cSetsO, C.ren, Function.comp_def]
def RowOk (E : Nat → List Nat) (n j : Nat) (L : List Int) : Prop := ∃ B : List Bool, B.length = n ∧ (∀ u, seenB B u = true ↔ Rc E j u) ∧ L = ((List.range n).filter (seenB B)).map Int.ofNat
theorem RowOk.len {E : Nat → List Nat} {n j : Nat} {L : List Int} (h : RowOk E n j L) : L.length ≤ n := by
 obtain ⟨B, _, h2, rfl⟩ := h
 rw [List.length_map]
 have := List.length_filter_le (seenB B) (List.range n)
 simpa using this
def Dv (R : List (List Ar)) (s : Nat) : Prop := ∃ g, Rc (Adj true R) s g ∧ ∃ w, w ∈ Adj true R g ∧ Rc (Adj true R) w g
def bfA (s : Nat) (o : List (List Int)) (a : Ar) : List (List Int) := o.set a.2.toNat (o.getD a.2.toNat [] ++ [(s : Int)])
def bfRow (s : Nat) (o : List (List Int)) (row : List Ar) : List (List Int) := row.foldl (bfA s) o
def bfL (R : List (List Ar)) : Nat → List (List Int)
 | 0 => List.replicate R.length []
 | k + 1 => bfRow k (bfL R k) (tauOf true (R.getD k []))
def totI (o : List (List Int)) : Nat := (o.map List.length).sum
theorem bfA_len (s : Nat) (o : List (List Int)) (a : Ar) : (bfA s o a).length = o.length := by simp [bfA]
theorem bfRow_len (s : Nat) (row : List Ar) : ∀ o, (bfRow s o row).length = o.length := by
 induction row with
 | nil => intro o; rfl
 | cons a r ih => intro o; show (bfRow s (bfA s o a) r).length = _; rw [ih, bfA_len]
theorem bfL_len (R : List (List Ar)) (k : Nat) : (bfL R k).length = R.length := by
 induction k with
 | zero => simp [bfL]
 | succ k ih => rw [bfL, bfRow_len, ih]
theorem bfRow_snoc (s : Nat) (o : List (List Int)) (row : List Ar) (a : Ar) : bfRow s o (row ++ [a]) = bfA s (bfRow s o row) a := by unfold bfRow; rw [List.foldl_append]; rfl
theorem totI_set (o : List (List Int)) {c : Nat} (h : c < o.length) (x : Int) : totI (o.set c (o.getD c [] ++ [x])) = totI o + 1 := by
 induction o generalizing c with
 | nil => simp at h
 | cons y r ih =>
  cases c with
  | zero => simp [totI]; omega
  | succ c =>
   have := ih (c := c) (by simpa using h)
   simp only [List.set_cons_succ, List.getD_cons_succ]
   simp only [totI, List.map_cons, List.sum_cons] at this ⊢
   omega
theorem totI_row (o : List (List Int)) (c : Nat) : (o.getD c []).length ≤ totI o := by
 induction o generalizing c with
 | nil => simp
 | cons y r ih =>
  cases c with
  | zero => simp [totI]
  | succ c =>
   have := ih c
   simp only [List.getD_cons_succ]
   simp only [totI, List.map_cons, List.sum_cons] at this ⊢
   omega
theorem totI_bf (s : Nat) (row : List Ar) : ∀ o : List (List Int), (∀ a ∈ row, a.2.toNat < o.length) → totI (bfRow s o row) = totI o + row.length := by
 induction row with
 | nil => intro o _; rfl
 | cons a r ih =>
  intro o h
  show totI (bfRow s (bfA s o a) r) = _
  rw [ih _ (by rw [bfA_len]; exact fun b hb => h b (List.mem_cons_of_mem _ hb))]
  unfold bfA
  rw [totI_set o (h a (by simp))]
  simp only [List.length_cons]; omega
theorem mem_bfA {s t : Nat} {o : List (List Int)} {a : Ar} {x : Int} (h : a.2.toNat < o.length) : x ∈ (bfA s o a).getD t [] ↔ x ∈ o.getD t [] ∨ (a.2.toNat = t ∧ x = (s : Int)) := by
 unfold bfA
 rw [List.getD_eq_getElem?_getD]
 by_cases e : a.2.toNat = t
 ·subst e
  rw [List.getElem?_set_self h, Option.getD_some, List.mem_append]
  simp
 ·rw [List.getElem?_set_ne e, ← List.getD_eq_getElem?_getD]
  simp [e]
theorem mem_bfRow {s t : Nat} {x : Int} : ∀ (row : List Ar) (o : List (List Int)), (∀ a ∈ row, a.2.toNat < o.length) → (x ∈ (bfRow s o row).getD t [] ↔ x ∈ o.getD t [] ∨ (x = (s : Int) ∧ t ∈ row.map fun a => a.2.toNat)) := by
 intro row
 induction row with
 | nil => intro o _; simp [bfRow]
 | cons a r ih =>
  intro o h
  show x ∈ (bfRow s (bfA s o a) r).getD t [] ↔ _
  rw [ih _ (by rw [bfA_len]; exact fun b hb => h b (List.mem_cons_of_mem _ hb)), mem_bfA (h a (by simp))]
  simp only [List.map_cons, List.mem_cons]
  constructor
  ·rintro ((h | ⟨h1, h2⟩) | ⟨h1, h2⟩)
   ·exact .inl h
   ·exact .inr ⟨h2, .inl h1.symm⟩
   ·exact .inr ⟨h1, .inr h2⟩
  ·rintro (h | ⟨h1, h2 | h2⟩)
   ·exact .inl (.inl h)
   ·exact .inl (.inr ⟨h2.symm, h1⟩)
   ·exact .inr ⟨h1, h2⟩
theorem tauOf_sub {t : Bool} {r : List Ar} : ∀ a ∈ tauOf t r, a ∈ r := fun a ha => by
 unfold tauOf at ha
 split at ha
 ·exact (List.takeWhile_sublist _).subset ha
 ·exact ha
theorem tauOf_len (t : Bool) (r : List Ar) : (tauOf t r).length ≤ r.length := by
 unfold tauOf
 split
 ·exact (List.takeWhile_sublist _).length_le
 ·exact Nat.le_refl _
theorem tau_lt {R : List (List Ar)} (hlo : looB R = true) {k : Nat} : ∀ a ∈ tauOf true (R.getD k []), 0 ≤ a.2 ∧ a.2.toNat < R.length := fun a ha => by
 have h1 := tauOf_sub a ha
 rcases Nat.lt_or_ge k R.length with h | h
 ·rw [List.getD_eq_getElem?_getD, List.getElem?_eq_getElem h] at h1
  have := (of_decide_eq_true hlo).2.2.2 _ (List.getElem_mem h) a h1
  omega
 ·rw [List.getD_eq_getElem?_getD, List.getElem?_eq_none h] at h1; simp at h1
theorem mem_bfL {R : List (List Ar)} (hlo : looB R = true) {t : Nat} {x : Int} : ∀ k, x ∈ (bfL R k).getD t [] ↔ ∃ s, s < k ∧ x = (s : Int) ∧ t ∈ Adj true R s := by
 intro k
 induction k with
 | zero =>
  simp only [bfL, List.getD_eq_getElem?_getD, List.getElem?_replicate]
  split <;> simp
 | succ k ih =>
  rw [bfL, mem_bfRow _ _ (by rw [bfL_len]; exact fun a ha => (tau_lt hlo a ha).2), ih]
  constructor
  ·rintro (⟨s, h1, h2, h3⟩ | ⟨h1, h2⟩)
   ·exact ⟨s, by omega, h2, h3⟩
   ·exact ⟨k, by omega, h1, h2⟩
  ·rintro ⟨s, h1, h2, h3⟩
   by_cases e : s = k
   ·subst e; exact .inr ⟨h2, h3⟩
   ·exact .inl ⟨s, by omega, h2, h3⟩
theorem totI_bfL {R : List (List Ar)} (hlo : looB R = true) : ∀ k, k ≤ R.length → totI (bfL R k) ≤ totA (R.take k) := by
 intro k
 induction k with
 | zero => intro _; simp [bfL, totI, totA]
 | succ k ih =>
  intro hk
  have h1 := ih (by omega)
  have h2 := totA_take (R := R) (k := k) hk
  have h3 := tauOf_len true (R.getD k [])
  have h4 : R.getD k [] = R[k] := by rw [List.getD_eq_getElem?_getD, List.getElem?_eq_getElem hk]; rfl
  rw [bfL, totI_bf _ _ _ (by rw [bfL_len]; exact fun a ha => (tau_lt hlo a ha).2)]
  rw [h4] at h3 ⊢
  omega
structure Bq (E : Nat → List Nat) (n : Nat) (G : Nat → Prop) (O : List Int) (Q : List Nat) : Prop where
 len : O.length = n
 lt : ∀ q ∈ Q, q < n
 nd : Q.Nodup
 iff : ∀ s, s < n → (0 ≤ fnL O (-1) s ↔ s ∈ Q)
 hi : ∀ s, fnL O (-1) s ≤ (Q.length : Int)
 rc : ∀ q ∈ Q, ∃ g, g < n ∧ G g ∧ Rc E q g
section
variable {E : Nat → List Nat} {n : Nat} {G : Nat → Prop} {O : List Int} {Q : List Nat}
theorem Bq.qlen (h : Bq E n G O Q) : Q.length ≤ n := by
 have := h.nd.length_le_of_subset (l₂ := List.range n) fun q hq => List.mem_range.2 (h.lt q hq)
 simpa using this
theorem Bq.start (E : Nat → List Nat) (n : Nat) (G : Nat → Prop) : Bq E n G (List.replicate n (-1)) [] := by
 refine ⟨by simp, by simp, List.nodup_nil, fun s hs => ?_, fun s => ?_, by simp⟩
 ·rw [fnL_get (by simpa using hs)]; simp
 ·unfold fnL
  rw [List.getElem?_replicate]
  split <;> simp
theorem Bq.push (h : Bq E n G O Q) {s : Nat} (hs : s < n) (hq : s ∉ Q) {v : Int} (h0 : 0 ≤ v) (h1 : v ≤ (Q.length : Int) + 1) (hr : ∃ g, g < n ∧ G g ∧ Rc E s g) : Bq E n G (O.set s v) (Q ++ [s]) := by
 have hl := h.len
 refine ⟨by simp [hl], fun q hq => ?_, ?_, fun t ht => ?_, fun t => ?_, fun q hq => ?_⟩
 ·rcases List.mem_append.1 hq with h2 | h2
  ·exact h.lt q h2
  ·simp at h2; subst h2; exact hs
 ·rw [List.nodup_append]
  exact ⟨h.nd, by simp, fun a ha b hb => by simp at hb; subst hb; intro e; subst e; exact hq ha⟩
 ·rw [fnL_set (by omega)]
  unfold upd
  split
  ·rename_i e; subst e; simp [h0]
  ·rename_i e; rw [h.iff t ht]; simp [e]
 ·rw [fnL_set (by omega)]
  unfold upd
  simp only [List.length_append, List.length_singleton]
  split
  ·omega
  ·have := h.hi t; omega
 ·rcases List.mem_append.1 hq with h2 | h2
  ·exact h.rc q h2
  ·simp at h2; subst h2; exact hr
theorem Bq.done (h : Bq E n G O Q) (hE : ∀ x, x < n → ∀ y ∈ E x, y < n) (hg : ∀ g, g < n → G g → g ∈ Q) (hc : ∀ q ∈ Q, ∀ p, p < n → q ∈ E p → p ∈ Q) {s : Nat} (hs : s < n) : 0 ≤ fnL O (-1) s ↔ ∃ g, g < n ∧ G g ∧ Rc E s g := by
 rw [h.iff s hs]
 constructor
 ·exact h.rc s
 ·rintro ⟨g, h1, h2, h3⟩
  have key : ∀ x, Rc E s x → x ∈ Q → s ∈ Q := by
   intro x hx
   induction hx with
   | refl => exact id
   | tail hv hw ih => exact fun hq => ih (hc _ hq _ (hv.lt hs hE) hw)
  exact key g h3 (hg g h1 h2)
end
def lp1 (D : List Int) (s : Nat) (row : List Ar) : Bool := row.any fun a => decide (D.getD a.2.toNat 0 = D.getD s 0)
def lpL (R : List (List Ar)) (D : List Int) (k : Nat) : List Bool := (List.range k).map fun s => lp1 D s (tauOf true (R.getD s []))
theorem lpL_len (R : List (List Ar)) (D : List Int) (k : Nat) : (lpL R D k).length = k := by simp [lpL]
theorem lp1_snoc (D : List Int) (s : Nat) (row : List Ar) (a : Ar) : lp1 D s (row ++ [a]) = (lp1 D s row || decide (D.getD a.2.toNat 0 = D.getD s 0)) := by simp [lp1]
theorem lpL_iff {R : List (List Ar)} {D : List Int} (hlo : looB R = true) (hD : D.length = R.length) (hL : ∀ v, v < R.length → Least (Adj true R) v (fnL D (-1) v)) {g : Nat} (hg : g < R.length) : (lpL R D R.length).getD g false = true ↔ ∃ w, w ∈ Adj true R g ∧ Rc (Adj true R) w g := by
 have e1 : (lpL R D R.length).getD g false = lp1 D g (tauOf true (R.getD g [])) := by simp [lpL, List.getD_eq_getElem?_getD, hg]
 have hE := adj_lt true hlo
 have hd : ∀ v, v < R.length → D.getD v 0 = fnL D (-1) v := fun v hv => by rw [fnL_get (by omega), List.getD_eq_getElem?_getD, List.getElem?_eq_getElem (by omega)]; rfl
 rw [e1]
 unfold lp1
 rw [List.any_eq_true]
 simp only [decide_eq_true_eq]
 constructor
 ·rintro ⟨a, ha, e⟩
  have hw : a.2.toNat ∈ Adj true R g := List.mem_map.2 ⟨a, ha, rfl⟩
  have hwl := hE g hg _ hw
  rw [hd _ hwl, hd _ hg] at e
  obtain ⟨x, ex, p1, p2, _⟩ := hL _ hwl
  obtain ⟨y, ey, q1, q2, _⟩ := hL _ hg
  have : x = y := by omega
  subst this
  exact ⟨_, hw, p1.trans q2⟩
 ·rintro ⟨w, hw, hr⟩
  obtain ⟨a, ha, rfl⟩ := List.mem_map.1 hw
  refine ⟨a, ha, ?_⟩
  have hwl := hE g hg _ hw
  rw [hd _ hwl, hd _ hg]
  obtain ⟨x, ex, p1, p2, p3⟩ := hL _ hwl
  obtain ⟨y, ey, q1, q2, q3⟩ := hL _ hg
  have hgw : Rc (Adj true R) g a.2.toNat := .one hw
  have l1 := p3 y (hr.trans q1) (q2.trans hgw)
  have l2 := q3 x (hgw.trans p1) (p2.trans hr)
  omega
def DvL (R : List (List Ar)) (B : List Bool) : Prop := B.length = R.length ∧ ∀ s, s < R.length → (B.getD s false = true ↔ Dv R s)
theorem DvL.uniq {R : List (List Ar)} {A B : List Bool} (h1 : DvL R A) (h2 : DvL R B) : A = B := by
 refine List.ext_getElem (by rw [h1.1, h2.1]) fun i hi hj => ?_
 have a := h1.2 i (by have := h1.1; omega)
 have b := h2.2 i (by have := h1.1; omega)
 rw [List.getD_eq_getElem?_getD, List.getElem?_eq_getElem hi, Option.getD_some] at a
 rw [List.getD_eq_getElem?_getD, List.getElem?_eq_getElem hj, Option.getD_some] at b
 rw [Bool.eq_iff_iff, a, b]
def tiA (f : Nat → Nat) (c : Nat) (o : List (List Ar)) (a : Ar) : List (List Ar) := o.set c (insA (a.1, (f a.2.toNat : Int)) (o.getD c []))
def tiRow (f : Nat → Nat) (c : Nat) (o : List (List Ar)) (row : List Ar) : List (List Ar) := row.foldl (tiA f c) o
theorem tiA_len (f : Nat → Nat) (c : Nat) (o : List (List Ar)) (a : Ar) : (tiA f c o a).length = o.length := by simp [tiA]
def SameS (o p : List (List Ar)) : Prop := o.length = p.length ∧ ∀ i a, a ∈ o.getD i [] ↔ a ∈ p.getD i []
theorem SameS.one {f : Nat → Nat} {c : Nat} {o p : List (List Ar)} (h : SameS o p) (a : Ar) : SameS (tiA f c o a) (tlA f c p a) := by
 refine ⟨by rw [tiA_len, tlA_len]; exact h.1, fun i b => ?_⟩
 have h1 := h.1
 unfold tiA tlA
 simp only [List.getD_eq_getElem?_getD, List.getElem?_set]
 by_cases hi : c = i
 ·subst hi
  by_cases hc : c < o.length
  ·have h2 := h.2 c b
   simp only [List.getD_eq_getElem?_getD] at h2
   rw [if_pos rfl, if_pos hc, if_pos rfl, if_pos (by omega)]
   simp only [Option.getD_some, mem_insA, List.mem_append, List.mem_singleton, h2, or_comm]
  ·rw [if_pos rfl, if_neg hc, if_pos rfl, if_neg (by omega)]
 ·rw [if_neg hi, if_neg hi]
  have h2 := h.2 i b
  simpa only [List.getD_eq_getElem?_getD] using h2
theorem SameS.row {f : Nat → Nat} {c : Nat} : ∀ (row : List Ar) {o p : List (List Ar)}, SameS o p → SameS (tiRow f c o row) (tlRow f c p row)
 | [], _, _, h => h
 | a :: r, _, _, h => SameS.row r (h.one a)
def NumSur (num old : List Int) : Prop := ∀ (j : Nat) (s : Int), old[j]? = some s → 0 ≤ s ∧ num[s.toNat]? = some (j : Int)
theorem NumSur.one {num old : List Int} (h : NumSur num old) {t : Int} (h0 : 0 ≤ t) (h1 : t < num.length) : NumSur (numOne num old t).1 (numOne num old t).2 := by
 have htl : t.toNat < num.length := by omega
 unfold numOne
 split
 ·rename_i hneg
  intro j s hs
  simp only at hs ⊢
  rcases Nat.lt_or_ge j old.length with hj | hj
  ·rw [List.getElem?_append_left hj] at hs
   obtain ⟨q1, q2⟩ := h j s hs
   refine ⟨q1, ?_⟩
   rw [List.getElem?_set, if_neg, q2]
   intro e
   rw [e, List.getD_eq_getElem?_getD, q2, Option.getD_some] at hneg
   omega
  ·rw [List.getElem?_append_right hj] at hs
   have hj' : j = old.length := by
    have := (List.getElem?_eq_some_iff.1 hs).1
    simp at this
    omega
   subst hj'
   simp at hs
   subst hs
   exact ⟨h0, by rw [List.getElem?_set, if_pos rfl, if_pos htl]⟩
 ·exact h
structure RowsG (n : Nat) (out : List (List Ar)) : Prop where
 so : ∀ r ∈ out, SortA r
 bd : ∀ r ∈ out, ∀ a ∈ r, 0 ≤ a.1 ∧ a.1 ≤ 1025 ∧ 0 ≤ a.2 ∧ a.2 < (n : Int)
def mx1 (m c : Int) : Int := if m < c + 1 then c + 1 else m
def mxI (m : Int) (l : List Int) : Int := l.foldl mx1 m
def nmGo : List Int → Int → Bool
 | [], _ => true
 | c :: r, m => (!decide (c < 0) && !decide (c > m)) && nmGo r (mx1 m c)
def numB (C : List Int) (n : Nat) : Bool := nmGo C 0 && decide (C.length = n)
theorem mxI_snoc (m : Int) (l : List Int) (c : Int) : mxI m (l ++ [c]) = mx1 (mxI m l) c := by unfold mxI; rw [List.foldl_append]; rfl
theorem mxI_ge (l : List Int) : ∀ m : Int, m ≤ mxI m l ∧ ∀ c ∈ l, c + 1 ≤ mxI m l := by
 induction l with
 | nil => intro m; exact ⟨Int.le_refl _, by simp⟩
 | cons a r ih =>
  intro m
  obtain ⟨h1, h2⟩ := ih (mx1 m a)
  have e : mxI m (a :: r) = mxI (mx1 m a) r := rfl
  have h3 : m ≤ mx1 m a ∧ a + 1 ≤ mx1 m a := by unfold mx1; split <;> omega
  rw [e]
  refine ⟨by omega, fun c hc => ?_⟩
  rcases List.mem_cons.1 hc with rfl | hc
  ·omega
  ·exact h2 c hc
theorem mxI_le {n : Nat} (l : List Int) : ∀ m : Int, nmGo l m = true → 0 ≤ m → mxI m l ≤ m + l.length ∧ (∀ c ∈ l, 0 ≤ c) := by
 induction l with
 | nil => intro m _ _; exact ⟨by simp [mxI], by simp⟩
 | cons a r ih =>
  intro m h hm
  simp only [nmGo, Bool.and_eq_true, Bool.not_eq_true', decide_eq_false_iff_not] at h
  obtain ⟨⟨h1, h2⟩, h3⟩ := h
  have h4 : 0 ≤ mx1 m a ∧ mx1 m a ≤ m + 1 := by unfold mx1; split <;> omega
  obtain ⟨q1, q2⟩ := ih (mx1 m a) h3 h4.1
  have e : mxI m (a :: r) = mxI (mx1 m a) r := rfl
  rw [e]
  refine ⟨by simp only [List.length_cons]; omega, fun c hc => ?_⟩
  rcases List.mem_cons.1 hc with rfl | hc
  ·omega
  ·exact q2 c hc
def maxL (x : Int) (l : List Int) : Int := l.foldl (fun a b => if a < b then b else a) x
theorem maxL_snoc (x : Int) (l : List Int) (y : Int) : maxL x (l ++ [y]) = if maxL x l < y then y else maxL x l := by unfold maxL; rw [List.foldl_append]; rfl
theorem mxI_max (l : List Int) : ∀ x : Int, mxI (x + 1) l = maxL x l + 1 := by
 induction l with
 | nil => intro x; rfl
 | cons a r ih =>
  intro x
  have e : mx1 (x + 1) a = (if x < a then a else x) + 1 := by unfold mx1; split <;> split <;> omega
  show mxI (mx1 (x + 1) a) r = maxL (if x < a then a else x) r + 1
  rw [e, ih]
theorem mxI_cons {x : Int} (l : List Int) (h : 0 ≤ x) : mxI 0 (x :: l) = maxL x (x :: l) + 1 := by
 have e1 : mx1 0 x = x + 1 := by unfold mx1; rw [if_pos (by omega)]
 have e2 : maxL x (x :: l) = maxL x l := by show maxL (if x < x then x else x) l = _; simp
 rw [e2, ← mxI_max, ← e1]; rfl
def clf (C : List Int) (v : Nat) : Nat := (C.getD v 0).toNat
def mxN (C : List Int) : Nat := (mxI 0 C).toNat
theorem num_ok {C : List Int} {n : Nat} (h : numB C n = true) : C.length = n ∧ mxN C ≤ n ∧ (∀ v, v < n → clf C v < mxN C ∧ C[v]? = some ((clf C v : Nat) : Int)) ∧ mxI 0 C = (mxN C : Int) := by
 simp only [numB, Bool.and_eq_true, decide_eq_true_eq] at h
 obtain ⟨h1, h2⟩ := h
 obtain ⟨q1, q2⟩ := mxI_le (n := n) C 0 h1 (Int.le_refl _)
 obtain ⟨p1, p2⟩ := mxI_ge C 0
 refine ⟨h2, by unfold mxN; omega, fun v hv => ?_, by unfold mxN; omega⟩
 have hl : v < C.length := by omega
 have a1 := q2 _ (List.getElem_mem hl)
 have a2 := p2 _ (List.getElem_mem hl)
 unfold clf mxN
 rw [List.getD_eq_getElem?_getD, List.getElem?_eq_getElem hl, Option.getD_some]
 refine ⟨by omega, by congr 1; omega⟩
def qp1 (f : Nat → Nat) (c : Nat) (a : Ar) : Option Ar := if a.1 ≠ 0 ∨ f a.2.toNat ≠ c then some (a.1, (f a.2.toNat : Int)) else none
def pushO (x : Option Ar) (c : Nat) (o : List (List Ar)) : List (List Ar) := match x with | some b => o.set c (o.getD c [] ++ [b]) | none => o
def qpRow (f : Nat → Nat) (c : Nat) (o : List (List Ar)) (row : List Ar) : List (List Ar) := row.foldl (fun o a => pushO (qp1 f c a) c o) o
def qpOut (f : Nat → Nat) (m : Nat) (R : List (List Ar)) : Nat → List (List Ar)
 | 0 => List.replicate m []
 | k + 1 => qpRow f (f k) (qpOut f m R k) (R.getD k [])
def lpO (b : Bool) (c : Nat) : Option Ar := if b then some (0, (c : Int)) else none
def lcL (f : Nat → Nat) (m : Nat) (B : List Bool) (k : Nat) : List Bool := (List.range m).map fun c => (List.range k).any fun s => decide (f s = c) && B.getD s false
def qlOut (L : List Bool) (o : List (List Ar)) : Nat → List (List Ar)
 | 0 => o
 | c + 1 => pushO (lpO (L.getD c false) c) c (qlOut L o c)
def qR (R : List (List Ar)) (C : List Int) (B : List Bool) : List (List Ar) := qlOut (lcL (clf C) (mxN C) B R.length) (qpOut (clf C) (mxN C) R R.length) (mxN C)
theorem pushO_len (x : Option Ar) (c : Nat) (o : List (List Ar)) : (pushO x c o).length = o.length := by cases x <;> simp [pushO]
theorem qpRow_len (f : Nat → Nat) (c : Nat) (row : List Ar) : ∀ o, (qpRow f c o row).length = o.length := by
 induction row with
 | nil => intro o; rfl
 | cons a r ih => intro o; show (qpRow f c (pushO (qp1 f c a) c o) r).length = _; rw [ih, pushO_len]
theorem qpOut_len (f : Nat → Nat) (m : Nat) (R : List (List Ar)) (k : Nat) : (qpOut f m R k).length = m := by
 induction k with
 | zero => simp [qpOut]
 | succ k ih => rw [qpOut, qpRow_len, ih]
theorem qlOut_len (L : List Bool) (o : List (List Ar)) (k : Nat) : (qlOut L o k).length = o.length := by
 induction k with
 | zero => rfl
 | succ k ih => rw [qlOut, pushO_len, ih]
theorem qpRow_snoc (f : Nat → Nat) (c : Nat) (o : List (List Ar)) (row : List Ar) (a : Ar) : qpRow f c o (row ++ [a]) = pushO (qp1 f c a) c (qpRow f c o row) := by unfold qpRow; rw [List.foldl_append]; rfl
theorem mem_pushO {x : Option Ar} {c d : Nat} {o : List (List Ar)} {a : Ar} (h : c < o.length) : a ∈ (pushO x c o).getD d [] ↔ a ∈ o.getD d [] ∨ (d = c ∧ x = some a) := by
 cases x with
 | none => simp [pushO]
 | some b =>
  unfold pushO
  simp only
  rw [List.getD_eq_getElem?_getD]
  by_cases e : c = d
  ·subst e
   rw [List.getElem?_set_self h, Option.getD_some, List.mem_append]
   simp [eq_comm]
  ·rw [List.getElem?_set_ne e, ← List.getD_eq_getElem?_getD]
   simp [Ne.symm e]
theorem mem_qpRow {f : Nat → Nat} {c d : Nat} {a : Ar} : ∀ (row : List Ar) (o : List (List Ar)), c < o.length → (a ∈ (qpRow f c o row).getD d [] ↔ a ∈ o.getD d [] ∨ (d = c ∧ ∃ b ∈ row, qp1 f c b = some a)) := by
 intro row
 induction row with
 | nil => intro o _; simp [qpRow]
 | cons b r ih =>
  intro o h
  show a ∈ (qpRow f c (pushO (qp1 f c b) c o) r).getD d [] ↔ _
  rw [ih _ (by rw [pushO_len]; exact h), mem_pushO h]
  simp only [List.mem_cons, exists_eq_or_imp]
  rw [or_assoc, ← and_or_left]
def QA (R : List (List Ar)) (f : Nat → Nat) (k d : Nat) (a : Ar) : Prop := ∃ s, s < k ∧ f s = d ∧ ∃ b ∈ R.getD s [], qp1 f d b = some a
def QL (f : Nat → Nat) (B : List Bool) (k d : Nat) (a : Ar) : Prop := a = (0, (d : Int)) ∧ ∃ s, s < k ∧ f s = d ∧ B.getD s false = true
theorem QA.succ {R : List (List Ar)} {f : Nat → Nat} {k d : Nat} {a : Ar} : QA R f (k + 1) d a ↔ QA R f k d a ∨ (d = f k ∧ ∃ b ∈ R.getD k [], qp1 f (f k) b = some a) := by
 constructor
 ·rintro ⟨s, h1, h2, h3⟩
  by_cases e : s = k
  ·subst e; subst h2; exact .inr ⟨rfl, h3⟩
  ·exact .inl ⟨s, by omega, h2, h3⟩
 ·rintro (⟨s, h1, h2, h3⟩ | ⟨rfl, h3⟩)
  ·exact ⟨s, by omega, h2, h3⟩
  ·exact ⟨k, by omega, rfl, h3⟩
theorem QL.succ {f : Nat → Nat} {B : List Bool} {k d : Nat} {a : Ar} : QL f B (k + 1) d a ↔ QL f B k d a ∨ (d = f k ∧ lpO (B.getD k false) (f k) = some a) := by
 unfold QL lpO
 constructor
 ·rintro ⟨h0, s, h1, h2, h3⟩
  by_cases e : s = k
  ·subst e; subst h2; exact .inr ⟨rfl, by rw [if_pos h3, h0]⟩
  ·exact .inl ⟨h0, s, by omega, h2, h3⟩
 ·rintro (⟨h0, s, h1, h2, h3⟩ | ⟨rfl, h3⟩)
  ·exact ⟨h0, s, by omega, h2, h3⟩
  ·split at h3
   ·rename_i hb
    injection h3 with h3
    exact ⟨h3.symm, k, by omega, rfl, hb⟩
   ·cases h3
theorem getD_rep {m d : Nat} : (List.replicate m ([] : List Ar)).getD d [] = [] := by
 rw [List.getD_eq_getElem?_getD, List.getElem?_replicate]; split <;> rfl
theorem mem_qpOut {f : Nat → Nat} {m d : Nat} {R : List (List Ar)} {a : Ar} {n : Nat} (hf : ∀ v, v < n → f v < m) : ∀ k, k ≤ n → (a ∈ (qpOut f m R k).getD d [] ↔ QA R f k d a) := by
 intro k
 induction k with
 | zero => intro _; rw [qpOut, getD_rep]; simp [QA]
 | succ k ih =>
  intro hk
  rw [qpOut, mem_qpRow _ _ (by rw [qpOut_len]; exact hf k hk), ih (by omega), QA.succ]
theorem mem_qlOut {L : List Bool} {d : Nat} {o : List (List Ar)} {a : Ar} : ∀ k, k ≤ o.length → (a ∈ (qlOut L o k).getD d [] ↔ a ∈ o.getD d [] ∨ (d < k ∧ L.getD d false = true ∧ a = (0, (d : Int)))) := by
 intro k
 induction k with
 | zero => intro _; simp [qlOut]
 | succ k ih =>
  intro hk
  rw [qlOut, mem_pushO (by rw [qlOut_len]; exact hk), ih (by omega)]
  unfold lpO
  constructor
  ·rintro ((h | ⟨h1, h2, h3⟩) | ⟨rfl, h2⟩)
   ·exact .inl h
   ·exact .inr ⟨by omega, h2, h3⟩
   ·split at h2
    ·rename_i hb; injection h2 with h2; exact .inr ⟨by omega, hb, h2.symm⟩
    ·cases h2
  ·rintro (h | ⟨h1, h2, h3⟩)
   ·exact .inl (.inl h)
   ·by_cases e : d = k
    ·subst e; exact .inr ⟨rfl, by rw [if_pos h2, h3]⟩
    ·exact .inl (.inr ⟨by omega, h2, h3⟩)
theorem lcL_len (f : Nat → Nat) (m : Nat) (B : List Bool) (k : Nat) : (lcL f m B k).length = m := by simp [lcL]
theorem lcL_get {f : Nat → Nat} {m : Nat} {B : List Bool} {k d : Nat} (hd : d < m) : (lcL f m B k).getD d false = (List.range k).any fun s => decide (f s = d) && B.getD s false := by
 simp [lcL, List.getD_eq_getElem?_getD, hd]
theorem lcL_set {f : Nat → Nat} {m : Nat} {B : List Bool} {k : Nat} (hf : f k < m) : (lcL f m B k).set (f k) ((lcL f m B k).getD (f k) false || B.getD k false) = lcL f m B (k + 1) := by
 have hl := lcL_len f m B k
 refine List.ext_getElem (by simp [lcL]) fun i h1 h2 => ?_
 rw [lcL_len] at h2
 have e2 : (lcL f m B (k + 1))[i]'(by rw [lcL_len]; exact h2) = ((List.range (k + 1)).any fun s => decide (f s = i) && B.getD s false) := by simp [lcL]
 rw [e2, List.range_succ, List.any_append]
 by_cases e : f k = i
 ·subst e
  rw [List.getElem_set_self, lcL_get hf]
  simp
 ·rw [List.getElem_set_ne e]
  have e3 : (lcL f m B k)[i]'(by rw [lcL_len]; exact h2) = ((List.range k).any fun s => decide (f s = i) && B.getD s false) := by simp [lcL]
  rw [e3]
  simp [e]
theorem mem_qR {R : List (List Ar)} {C : List Int} {B : List Bool} (h : numB C R.length = true) {d : Nat} {a : Ar} : a ∈ (qR R C B).getD d [] ↔ QA R (clf C) R.length d a ∨ QL (clf C) B R.length d a := by
 obtain ⟨h1, h2, h3, _⟩ := num_ok h
 have hf : ∀ v, v < R.length → clf C v < mxN C := fun v hv => (h3 v hv).1
 unfold qR
 rw [mem_qlOut _ (by rw [qpOut_len]; exact Nat.le_refl _), mem_qpOut hf _ (Nat.le_refl _)]
 refine or_congr Iff.rfl ?_
 unfold QL
 constructor
 ·rintro ⟨g1, g2, g3⟩
  rw [lcL_get g1, List.any_eq_true] at g2
  obtain ⟨s, hs, hb⟩ := g2
  simp only [Bool.and_eq_true, decide_eq_true_eq] at hb
  exact ⟨g3, s, List.mem_range.1 hs, hb.1, hb.2⟩
 ·rintro ⟨g3, s, hs, rfl, hb⟩
  refine ⟨hf s hs, ?_, g3⟩
  rw [lcL_get (hf s hs), List.any_eq_true]
  exact ⟨s, List.mem_range.2 hs, by simp only [Bool.and_eq_true, decide_eq_true_eq]; exact ⟨trivial, hb⟩⟩
theorem pushO_tot (x : Option Ar) (c : Nat) (o : List (List Ar)) : totA (pushO x c o) ≤ totA o + 1 := by
 cases x with
 | none => simp [pushO]
 | some b =>
  unfold pushO
  by_cases h : c < o.length
  ·simp only; rw [totA_set o h]; exact Nat.le_refl _
  ·simp only; rw [List.set_eq_of_length_le (by omega)]; omega
theorem qpRow_tot (f : Nat → Nat) (c : Nat) (row : List Ar) : ∀ o, totA (qpRow f c o row) ≤ totA o + row.length := by
 induction row with
 | nil => intro o; exact Nat.le_refl _
 | cons a r ih =>
  intro o
  have h1 := ih (pushO (qp1 f c a) c o)
  have h2 := pushO_tot (qp1 f c a) c o
  show totA (qpRow f c (pushO (qp1 f c a) c o) r) ≤ _
  simp only [List.length_cons]; omega
theorem qpOut_tot (f : Nat → Nat) (m : Nat) (R : List (List Ar)) : ∀ k, k ≤ R.length → totA (qpOut f m R k) ≤ totA (R.take k) := by
 intro k
 induction k with
 | zero => intro _; rw [qpOut, totA_rep]; omega
 | succ k ih =>
  intro hk
  have h1 := ih (by omega)
  have h2 := totA_take (R := R) (k := k) hk
  have h3 := qpRow_tot f (f k) (R.getD k []) (qpOut f m R k)
  have h4 : R.getD k [] = R[k] := by rw [List.getD_eq_getElem?_getD, List.getElem?_eq_getElem hk]; rfl
  rw [qpOut]
  rw [h4] at h3 ⊢
  omega
theorem qlOut_tot (L : List Bool) (o : List (List Ar)) : ∀ k, totA (qlOut L o k) ≤ totA o + k := by
 intro k
 induction k with
 | zero => exact Nat.le_refl _
 | succ k ih =>
  have := pushO_tot (lpO (L.getD k false) k) k (qlOut L o k)
  rw [qlOut]; omega
theorem QA.bd {R : List (List Ar)} {f : Nat → Nat} {m k d : Nat} {a : Ar} (hlo : looB R = true) (hk : k ≤ R.length) (hf : ∀ v, v < R.length → f v < m) (h : QA R f k d a) : 0 ≤ a.1 ∧ a.1 ≤ 1025 ∧ 0 ≤ a.2 ∧ a.2 < (m : Int) := by
 obtain ⟨s, h1, h2, b, hb, h3⟩ := h
 have hs : s < R.length := by omega
 rw [List.getD_eq_getElem?_getD, List.getElem?_eq_getElem hs] at hb
 have hbd := (of_decide_eq_true hlo).2.2.2 _ (List.getElem_mem hs) b hb
 unfold qp1 at h3
 split at h3
 ·injection h3 with h3
  subst h3
  have := hf b.2.toNat (by omega)
  simp only; omega
 ·cases h3
theorem qR_bd {R : List (List Ar)} {C : List Int} {B : List Bool} (hlo : looB R = true) (h : numB C R.length = true) : (qR R C B).length = mxN C ∧ (∀ r ∈ qR R C B, ∀ a ∈ r, 0 ≤ a.1 ∧ a.1 ≤ 1025 ∧ 0 ≤ a.2 ∧ a.2 < ((qR R C B).length : Int)) ∧ totA (qR R C B) ≤ totA R + R.length := by
 obtain ⟨h1, h2, h3, _⟩ := num_ok h
 have hf : ∀ v, v < R.length → clf C v < mxN C := fun v hv => (h3 v hv).1
 have hl : (qR R C B).length = mxN C := by unfold qR; rw [qlOut_len, qpOut_len]
 refine ⟨hl, fun r hr a ha => ?_, ?_⟩
 ·obtain ⟨d, hd, rfl⟩ := List.getElem_of_mem hr
  have hd2 : d < mxN C := by omega
  have ha2 : a ∈ (qR R C B).getD d [] := by rw [List.getD_eq_getElem?_getD, List.getElem?_eq_getElem hd]; exact ha
  rw [hl]
  rcases (mem_qR h).1 ha2 with q | ⟨q, _⟩
  ·exact q.bd hlo (Nat.le_refl _) hf
  ·subst q; simp only; omega
 ·have a1 := qlOut_tot (lcL (clf C) (mxN C) B R.length) (qpOut (clf C) (mxN C) R R.length) (mxN C)
  have a2 := qpOut_tot (clf C) (mxN C) R R.length (Nat.le_refl _)
  rw [List.take_length] at a2
  unfold qR
  omega
def sK : List (List Ar) := [[(0, 1)], [(2, 2)], []]
def sQ : List (List Ar) := [[(2, 1)], []]
theorem sK_val : valB sK = true := by kernel_rfl
theorem sK_adj : ∀ v w, w ∈ Adj true sK v → v = 0 ∧ w = 1
 | 0, w, h => by have e : Adj true sK 0 = [1] := rfl; rw [e] at h; simp at h; omega
 | 1, w, h => by have e : Adj true sK 1 = [] := rfl; rw [e] at h; simp at h
 | 2, w, h => by have e : Adj true sK 2 = [] := rfl; rw [e] at h; simp at h
 | n + 3, w, h => by have e : Adj true sK (n + 3) = [] := rfl; rw [e] at h; simp at h
theorem sK_rc {v u : Nat} (h : Rc (Adj true sK) v u) : u = v ∨ (v = 0 ∧ u = 1) := by
 induction h with
 | refl => exact .inl rfl
 | tail _ h2 ih => have := sK_adj _ _ h2; omega
theorem sK_dv (s : Nat) : ¬ Dv sK s := by
 rintro ⟨g, _, w, hw, hr⟩
 have := sK_adj _ _ hw
 have := sK_rc hr
 omega
theorem sK_B : DvL sK [false, false, false] := by
 refine ⟨rfl, fun s hs => ⟨fun h => ?_, fun h => absurd h (sK_dv s)⟩⟩
 match s, hs with
 | 0, _ => simp at h
 | 1, _ => simp at h
 | 2, _ => simp at h
theorem sK_q : (canonR (qR sK [0, 0, 1] [false, false, false])).1 = sQ := by kernel_rfl
end Go.Proofs.YtglchakimolfdaaDoor
