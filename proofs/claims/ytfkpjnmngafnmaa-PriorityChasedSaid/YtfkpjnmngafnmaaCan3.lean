/- The program's Canonical: plain laws: what sorting, compacting and numbering give; the collector of rows. -/
import Derived.Test.YtfkpjnmngafnmaaCpt1
namespace Go.Proofs.Ytfkpjnmngafnmaa
set_option linter.unusedVariables false
set_option linter.unusedSimpArgs false
open Go.RowKit Go.Shelf Go.Sort

theorem sorted_ext : ∀ {l m : List Arc}, Sorted l → Sorted m → (∀ a, a ∈ l ↔ a ∈ m) → l = m
  | [], [], _, _, _ => rfl
  | [], b :: m, _, _, h => by have := (h b).2 (by simp); simp at this
  | a :: l, [], _, _, h => by have := (h a).1 (by simp); simp at this
  | a :: l, b :: m, hl, hm, h => by
    have hl' := List.pairwise_cons.1 hl
    have hm' := List.pairwise_cons.1 hm
    have hab : a = b := by
      rcases List.mem_cons.1 ((h a).1 (by simp)) with e | e
      · exact e
      · rcases List.mem_cons.1 ((h b).2 (by simp)) with e' | e'
        · exact e'.symm
        · have h1 := hm'.1 a e
          have h2 := hl'.1 b e'
          simp [lessB] at h1 h2; omega
    subst hab
    congr 1
    refine sorted_ext hl'.2 hm'.2 fun c => ⟨fun hc => ?_, fun hc => ?_⟩
    · rcases List.mem_cons.1 ((h c).1 (List.mem_cons_of_mem _ hc)) with e | e
      · subst e; have := hl'.1 c hc; simp [lessB] at this
      · exact e
    · rcases List.mem_cons.1 ((h c).2 (List.mem_cons_of_mem _ hc)) with e | e
      · subst e; have := hm'.1 c hc; simp [lessB] at this
      · exact e
def LeA (a b : Arc) : Prop := lessB b a = false
theorem sortL_le (l : List Arc) : (sortL l).Pairwise LeA := by
  have h := List.pairwise_mergeSort (le := fun x y => !(ltOf cmpA) y x) (fun a b c h1 h2 => by
    simp only [ltOf_cmpA, Bool.not_eq_true'] at *
    simp [lessB] at *; omega) (fun a b => by
    simp only [ltOf_cmpA]
    cases h1 : lessB b a <;> cases h2 : lessB a b <;> simp
    simp [lessB] at *; omega) l
  refine h.imp ?_
  intro a b hab
  simpa [ltOf_cmpA, LeA] using hab
theorem sortL_perm (l : List Arc) : (sortL l).Perm l := List.mergeSort_perm _ _
theorem compGo_mem (p : Arc) (l : List Arc) (a : Arc) : a ∈ p :: compGo p l ↔ a ∈ p :: l := by
  induction l generalizing p with
  | nil => simp [compGo]
  | cons y ys ih =>
    unfold compGo
    split
    · rename_i h; subst h; rw [ih]; simp
    · have := ih y
      simp only [List.mem_cons] at this ⊢
      rw [this]
theorem compGo_sorted (p : Arc) (l : List Arc) (h : (p :: l).Pairwise LeA) : Sorted (p :: compGo p l) := by
  induction l generalizing p with
  | nil => simp [compGo, Sorted]
  | cons y ys ih =>
    have h1 := List.pairwise_cons.1 h
    have h2 := List.pairwise_cons.1 h1.2
    unfold compGo
    split
    · rename_i e; subst e
      exact ih _ (List.pairwise_cons.2 ⟨fun a ha => h2.1 a ha, h2.2⟩)
    · rename_i e
      have hy := ih y h1.2
      refine List.pairwise_cons.2 ⟨fun a ha => ?_, hy⟩
      have hpy : lessB p y = true := by
        have := h1.1 y (by simp)
        rcases less_tri p y with h | h | h
        · exact h
        · exact absurd h.symm e
        · unfold LeA at this; rw [h] at this; cases this
      rcases List.mem_cons.1 ha with rfl | ha
      · exact hpy
      · exact less_trans hpy ((List.pairwise_cons.1 hy).1 a ha)
theorem rowOf_sorted (r : List Arc) : Sorted (rowOf r) := by
  unfold rowOf
  have : ∀ (l acc : List Arc), Sorted acc → Sorted (l.foldl (fun acc a => ins a acc) acc) := by
    intro l
    induction l with
    | nil => intro acc h; exact h
    | cons x xs ih => intro acc h; exact ih _ (ins_sorted x acc h)
  exact this r [] List.Pairwise.nil
theorem comp_sort (r : List Arc) : compL (sortL r) = rowOf r := by
  refine sorted_ext ?_ (rowOf_sorted r) fun a => ?_
  · have h := sortL_le r
    cases hs : sortL r with
    | nil => exact List.Pairwise.nil
    | cons x xs => rw [hs] at h; exact compGo_sorted x xs h
  · rw [mem_rowOf, ← (sortL_perm r).mem_iff]
    cases sortL r with
    | nil => simp [compL]
    | cons x xs => exact compGo_mem x xs a
theorem sort_nodup {r : List Arc} (h : r.Nodup) : sortL r = rowOf r := by
  refine sorted_ext ?_ (rowOf_sorted r) fun a => by rw [mem_rowOf, (sortL_perm r).mem_iff]
  have h1 := sortL_le r
  have h2 := (sortL_perm r).symm.nodup h
  refine (List.pairwise_iff_forall_sublist.2 ?_)
  intro a b hab
  have hle := List.pairwise_iff_forall_sublist.1 h1 hab
  have hne := List.pairwise_iff_forall_sublist.1 h2 hab
  rcases less_tri a b with h | h | h
  · exact h
  · exact absurd h hne
  · unfold LeA at hle; rw [h] at hle; cases hle

/-- the numbering of a row, in the row's own order -/
def numL : List Arc → List Int → List Int → List Int × List Int × List Arc
  | [], num, old => (num, old, [])
  | a :: tl, num, old =>
    ((numL tl (numOne num old a.2).1 (numOne num old a.2).2).1, (numL tl (numOne num old a.2).1 (numOne num old a.2).2).2.1,
      (a.1, (numOne num old a.2).1.getD a.2.toNat 0) :: (numL tl (numOne num old a.2).1 (numOne num old a.2).2).2.2)
theorem rowGo_numL (r : List Arc) (num old : List Int) (nxt : List Arc) :
    rowGo r num old nxt = ((numL r num old).1, (numL r num old).2.1, (numL r num old).2.2.foldl (fun acc a => ins a acc) nxt) := by
  induction r generalizing num old nxt with
  | nil => rfl
  | cons a tl ih => simp only [rowGo, numL, ih, List.foldl_cons]
structure NumInj (num old : List Int) : Prop where
  inj : ∀ (t : Nat) (x : Int), num[t]? = some x → 0 ≤ x → old[x.toNat]? = some (t : Int)
theorem NumInj.one {num old : List Int} (h : NumInj num old) {t : Int} (h0 : 0 ≤ t) (h1 : t < num.length) : NumInj (numOne num old t).1 (numOne num old t).2 := by
  unfold numOne
  split
  · refine ⟨fun s x hx hp => ?_⟩
    rw [List.getElem?_set] at hx
    split at hx
    · rename_i hs
      rw [if_pos (by omega)] at hx
      injection hx with hx
      subst hx
      simp
      omega
    · have := h.inj s x hx hp
      rw [List.getElem?_append_left (List.getElem?_eq_some_iff.1 this).1]
      exact this
  · exact h
theorem numOne_len (num old : List Int) (t : Int) : (numOne num old t).1.length = num.length := by unfold numOne; split <;> simp
theorem numOne_keep {num old : List Int} {t : Int} {s : Nat} {x : Int} (h0 : 0 ≤ t) (hx : num[s]? = some x) (hp : 0 ≤ x) : (numOne num old t).1[s]? = some x := by
  unfold numOne
  split
  · rename_i hneg
    simp only [List.getElem?_set]
    split
    · rename_i hs
      subst hs
      simp [List.getD, hx] at hneg
      omega
    · exact hx
  · exact hx
theorem numOne_at {num old : List Int} {t : Int} (h0 : 0 ≤ t) (h1 : t < num.length) : ∃ x, (numOne num old t).1[t.toNat]? = some x ∧ 0 ≤ x := by
  unfold numOne
  split
  · exact ⟨_, by rw [List.getElem?_set, if_pos rfl, if_pos (by omega)], by omega⟩
  · rename_i hneg
    have hl : t.toNat < num.length := by omega
    refine ⟨num[t.toNat], List.getElem?_eq_getElem hl, ?_⟩
    simpa [List.getD, List.getElem?_eq_getElem hl] using hneg
theorem numL_keep (r : List Arc) {num old : List Int} (hr : ∀ a ∈ r, 0 ≤ a.2) {s : Nat} {x : Int} (hx : num[s]? = some x) (hp : 0 ≤ x) : (numL r num old).1[s]? = some x := by
  induction r generalizing num old with
  | nil => exact hx
  | cons a tl ih => exact ih (fun b hb => hr b (by simp [hb])) (numOne_keep (hr a (by simp)) hx hp)
theorem numL_inj (r : List Arc) {num old : List Int} (hr : ∀ a ∈ r, 0 ≤ a.2 ∧ a.2 < num.length) (h : NumInj num old) : NumInj (numL r num old).1 (numL r num old).2.1 := by
  induction r generalizing num old with
  | nil => exact h
  | cons a tl ih =>
    have ha := hr a (by simp)
    exact ih (fun b hb => by rw [numOne_len]; exact hr b (by simp [hb])) (h.one ha.1 ha.2)
theorem numL_map (r : List Arc) {num old : List Int} (hr : ∀ a ∈ r, 0 ≤ a.2 ∧ a.2 < num.length) :
    (numL r num old).2.2 = r.map (fun a => (a.1, (numL r num old).1.getD a.2.toNat 0)) ∧ ∀ a ∈ r, ∃ x, (numL r num old).1[a.2.toNat]? = some x ∧ 0 ≤ x := by
  induction r generalizing num old with
  | nil => exact ⟨rfl, by simp⟩
  | cons a tl ih =>
    have ha := hr a (by simp)
    obtain ⟨i1, i2⟩ := ih (num := (numOne num old a.2).1) (old := (numOne num old a.2).2) (fun b hb => by rw [numOne_len]; exact hr b (by simp [hb]))
    obtain ⟨x, hx, hp⟩ := numOne_at (old := old) ha.1 ha.2
    have hk := numL_keep (old := (numOne num old a.2).2) tl (fun b hb => (hr b (by simp [hb])).1) hx hp
    refine ⟨?_, fun b hb => ?_⟩
    · simp only [numL, List.map_cons]
      congr 1
      simp [List.getD, hx, hk]
    · rcases List.mem_cons.1 hb with rfl | hb
      · exact ⟨x, hk, hp⟩
      · exact i2 b hb
theorem numL_nodup (r : List Arc) {num old : List Int} (hs : Sorted r) (hr : ∀ a ∈ r, 0 ≤ a.2 ∧ a.2 < num.length) (h : NumInj num old) : (numL r num old).2.2.Nodup := by
  obtain ⟨h1, h2⟩ := numL_map (old := old) r hr
  have hi := numL_inj r hr h
  rw [h1, List.Nodup, List.pairwise_map]
  have hnd : r.Pairwise (· ≠ ·) := hs.imp (fun {a b} hab e => by subst e; simp [lessB] at hab)
  refine hnd.imp_of_mem (fun {a b} ha hb hne e => hne ?_)
  obtain ⟨x, hx, hxp⟩ := h2 a ha
  obtain ⟨y, hy, hyp⟩ := h2 b hb
  have ha' := hr a ha
  have hb' := hr b hb
  simp only [Prod.mk.injEq, List.getD, hx, hy, Option.getD_some] at e
  obtain ⟨e1, e2⟩ := e
  subst e2
  have q1 := hi.inj _ _ hx hxp
  have q2 := hi.inj _ _ hy hxp
  rw [q1] at q2
  injection q2 with q2
  rcases a with ⟨a1, a2⟩
  rcases b with ⟨b1, b2⟩
  simp only at *
  have : a2 = b2 := by omega
  rw [e1, this]
theorem NumInj.start {n : Nat} (hn : 0 < n) : NumInj ((List.replicate n (-1)).set 0 0) [0] := ⟨fun t x hx hp => by
  rw [List.getElem?_set] at hx
  split at hx
  · rename_i h
    subst h
    simp [hn] at hx
    subst hx; rfl
  · rw [List.getElem?_replicate] at hx
    split at hx
    · cases hx; omega
    · cases hx⟩
end Go.Proofs.Ytfkpjnmngafnmaa
