/- Plain laws: prioritise twice, chase twice. -/
import Derived.Test.YtfkpjnmngafnmaaCanl
import Derived.Test.YtfkpjnmngafnmaaPrio2
namespace Go.Proofs.Ytfkpjnmngafnmaa
set_option linter.unusedVariables false
set_option linter.unusedSimpArgs false
open Go.RowKit

theorem sortedB_iff : ∀ r : List Arc, sortedB r = true ↔ Sorted r
  | [] => by simp [sortedB, Sorted]
  | [a] => by simp [sortedB, Sorted]
  | a :: b :: rest => by
    rw [sortedB, Bool.and_eq_true, sortedB_iff (b :: rest)]
    constructor
    · rintro ⟨h1, h2⟩
      refine List.pairwise_cons.2 ⟨fun c hc => ?_, h2⟩
      rcases List.mem_cons.1 hc with rfl | hc
      · exact h1
      · exact less_trans h1 ((List.pairwise_cons.1 h2).1 c hc)
    · intro h
      have h' := List.pairwise_cons.1 h
      exact ⟨h'.1 b (by simp), h'.2⟩
theorem validB_iff (rows : List (List Arc)) : validB rows = true ↔ 0 < rows.length ∧ ∀ r ∈ rows, Sorted r ∧ ∀ a ∈ r, 0 ≤ a.1 ∧ a.1 ≤ 1025 ∧ 0 ≤ a.2 ∧ a.2 < (rows.length : Int) := by
  simp only [validB, looseB, Bool.and_eq_true, List.all_eq_true, decide_eq_true_eq, sortedB_iff, arcOkB]
  constructor
  · rintro ⟨⟨h1, h2⟩, h3⟩
    exact ⟨by omega, fun r hr => ⟨h3 r hr, fun a ha => h2 r hr a ha⟩⟩
  · rintro ⟨h1, h2⟩
    exact ⟨⟨by omega, fun r hr a ha => (h2 r hr).2 a ha⟩, fun r hr => (h2 r hr).1⟩
theorem valid_ok {L m : Nat} {rows : List (List Arc)} (h : okSys L m rows) (hm : 0 < m) : validB rows = true := by
  rw [validB_iff, h.1]
  exact ⟨hm, fun r hr => ⟨(h.2 r hr).1, (h.2 r hr).2.2⟩⟩
/-- the canonical form of a loose system is valid, and any property of rows that lessens with them is kept -/
theorem canon_valid {rows : List (List Arc)} (hl : looseB rows = true) (pr : List Arc → Prop) (hcl : ∀ r r', (∀ a ∈ r', ∃ b ∈ r, b.1 = a.1) → r'.length ≤ r.length → pr r → pr r') (hpr : ∀ r ∈ rows, pr r) :
    validB (canonR rows).1 = true ∧ (∀ r ∈ (canonR rows).1, pr r) ∧ (canonR (canonR rows).1).1 = (canonR rows).1 := by
  simp only [looseB, Bool.and_eq_true, decide_eq_true_eq, List.all_eq_true, arcOkB] at hl
  obtain ⟨h1, h2⟩ := hl
  have hok : ∀ r ∈ rows, ∀ a ∈ r, 0 ≤ a.2 ∧ a.2 < (rows.length : Int) := fun r hr a ha => (h2 r hr a ha).2.2
  obtain ⟨k1, k2⟩ := canonR_ok (rows := rows) (by omega) hok (fun r => pr r ∧ ∀ a ∈ r, 0 ≤ a.1 ∧ a.1 ≤ 1025) (fun r r' ha hl' h => ⟨hcl r r' ha hl' h.1, fun a ha' => by obtain ⟨b, hb, he⟩ := ha a ha'; rw [← he]; exact h.2 b hb⟩)
    (fun r hr => ⟨hpr r hr, fun a ha => ⟨(h2 r hr a ha).1, (h2 r hr a ha).2.1⟩⟩)
  have k3 := canOK_bound _ 0 1 k1
  refine ⟨?_, fun r hr => (k2 r hr).1, canonR_idem (by omega) hok⟩
  rw [validB_iff]
  refine ⟨by omega, fun r hr => ⟨(k3.2 r hr).1, fun a ha => ?_⟩⟩
  have h3 := (k2 r hr).2 a ha
  have h4 := (k3.2 r hr).2 a ha
  exact ⟨h3.1, h3.2, h4.1, by simpa using h4.2⟩
theorem validB_loose {rows : List (List Arc)} (h : validB rows = true) : looseB rows = true := by simp [validB] at h; exact h.1
theorem prioR_nil (rows : List (List Arc)) : prioR [] rows = rows := by
  unfold prioR
  conv => rhs; rw [← List.map_id rows]
  congr 1
  funext r
  rw [List.filter_eq_self.2]; rfl
  intro a _
  simp [keepB, blkB, abvB]
theorem prio_nil {rows : List (List Arc)} (hv : validB rows = true) : prioA rows [] = (canonR rows).1 ∧ prioE rows [] = 0 := by
  have : validOrdB [] = true := rfl
  simp [prioA, prioE, hv, this, prioR_nil]
theorem prio_twice {rows : List (List Arc)} {o : List Arc} (hv : validB rows = true) (ho : validOrdB o = true) :
    prioE rows o = 0 ∧ prioE (prioA rows o) o = 0 ∧ prioA (prioA rows o) o = prioA rows o := by
  obtain ⟨h1, h2, h3⟩ := canon_valid (prio_loose (o := o) (validB_loose hv)) (fun r => ∀ a ∈ r, keepB o r a = true) (fun r r' ha _ h a ha' => by
      obtain ⟨b, hb, he⟩ := ha a ha'
      have hk := h b hb
      simp only [keepB, List.all_eq_true] at hk ⊢
      intro c hc
      obtain ⟨d, hd, hde⟩ := ha c hc
      have := hk d hd
      rw [he, hde] at this; exact this)
    (fun r hr a ha => by
      simp only [prioR, List.mem_map] at hr
      obtain ⟨s, _, rfl⟩ := hr
      have hk := (List.mem_filter.1 ha).2
      simp only [keepB, List.all_eq_true] at hk ⊢
      intro c hc
      exact hk c (List.mem_filter.1 hc).1)
  have hA : prioA rows o = (canonR (prioR o rows)).1 := by simp [prioA, hv, ho]
  have hE : prioE rows o = 0 := by simp [prioE, hv, ho]
  rw [hA]
  have hR : prioR o (canonR (prioR o rows)).1 = (canonR (prioR o rows)).1 := by
    unfold prioR
    conv => rhs; rw [← List.map_id (canonR _).1]
    refine List.map_congr_left fun r hr => ?_
    rw [List.filter_eq_self.2]; rfl
    exact fun a ha => h2 r hr a ha
  refine ⟨hE, by simp [prioE, h1, ho], ?_⟩
  simp only [prioA, h1, ho, Bool.and_self, if_true]
  rw [hR]; exact h3

/-! chase -/
def chaseRow : List Arc → List Arc
  | a :: tl => if a.1 = 0 then [a] else a :: tl
  | [] => []
def chaseR (rows : List (List Arc)) : List (List Arc) := rows.map chaseRow
def prC (r : List Arc) : Prop := r.length ≤ 1 ∨ ∀ a ∈ r, a.1 ≠ 0
theorem chaseRow_sub (r : List Arc) : (chaseRow r).Sublist r := by
  cases r with
  | nil => exact List.Sublist.refl _
  | cons a tl =>
    show (if a.1 = 0 then [a] else a :: tl).Sublist _
    split
    · simp
    · exact List.Sublist.refl _
theorem chase_loose {rows : List (List Arc)} (h : looseB rows = true) : looseB (chaseR rows) = true := by
  simp only [looseB, Bool.and_eq_true, decide_eq_true_eq, List.all_eq_true, chaseR, List.length_map, List.mem_map] at h ⊢
  refine ⟨h.1, ?_⟩
  rintro r ⟨s, hs, rfl⟩ a ha
  exact h.2 s hs a ((chaseRow_sub s).subset ha)
theorem chase_small {rows : List (List Arc)} (h : Small rows) : Small (chaseR rows) := by
  refine ⟨by simpa [chaseR] using h.n, ?_⟩
  have : ∀ l : List (List Arc), tot (chaseR l) ≤ tot l := by
    intro l
    induction l with
    | nil => simp [chaseR, tot]
    | cons r rs ih =>
      have h1 : tot (chaseR (r :: rs)) = (chaseRow r).length + tot (chaseR rs) := by simp [chaseR, tot]
      rw [h1, tot_cons]
      have := (chaseRow_sub r).length_le
      omega
  exact Nat.le_trans (this rows) h.t
def chaseA (rows : List (List Arc)) : List (List Arc) := if validB rows then (canonR (chaseR rows)).1 else []
def chaseE (rows : List (List Arc)) : Int := if validB rows then 0 else 1
theorem chaseA_bound {rows : List (List Arc)} (hs : Small rows) : (chaseA rows).length ≤ 10000 ∧ ∀ r ∈ chaseA rows, r.length ≤ 200000 := by
  unfold chaseA
  split
  · have h2 := chase_small hs
    have := canGo_bound (chaseR rows) 200000 (fun r hr => h2.row hr) (chaseR rows).length 0 ((List.replicate (chaseR rows).length (-1)).set 0 0) [0] [] (by simp)
    refine ⟨?_, this.2⟩
    have h3 := this.1
    have h4 := h2.n
    rw [List.length_nil] at h3
    unfold canonR
    omega
  · simp
theorem chase_twice {rows : List (List Arc)} (hv : validB rows = true) :
    chaseE rows = 0 ∧ chaseE (chaseA rows) = 0 ∧ chaseA (chaseA rows) = chaseA rows ∧ 0 < (chaseA rows).length ∧ ∀ r ∈ chaseA rows, prC r := by
  have hvi := (validB_iff rows).1 hv
  obtain ⟨h1, h2, h3⟩ := canon_valid (chase_loose (validB_loose hv)) prC (fun r r' ha hl h => by
      rcases h with h | h
      · exact .inl (by omega)
      · exact .inr fun a ha' => by obtain ⟨b, hb, he⟩ := ha a ha'; rw [← he]; exact h b hb)
    (fun r hr => by
      simp only [chaseR, List.mem_map] at hr
      obtain ⟨s, hs, rfl⟩ := hr
      obtain ⟨hs1, hs2⟩ := hvi.2 s hs
      cases s with
      | nil => exact .inl (by simp [chaseRow])
      | cons a tl =>
        show prC (if a.1 = 0 then [a] else a :: tl)
        split
        · exact .inl (by simp)
        · rename_i h0
          right
          have hp := List.pairwise_cons.1 hs1
          have ha0 := (hs2 a (by simp)).1
          intro b hb
          rcases List.mem_cons.1 hb with rfl | hb
          · exact h0
          · have := hp.1 b hb
            simp [lessB] at this; omega)
  have hA : chaseA rows = (canonR (chaseR rows)).1 := by simp [chaseA, hv]
  rw [hA]
  have hR : chaseR (canonR (chaseR rows)).1 = (canonR (chaseR rows)).1 := by
    unfold chaseR
    conv => rhs; rw [← List.map_id (canonR _).1]
    refine List.map_congr_left fun r hr => ?_
    cases r with
    | nil => rfl
    | cons a tl =>
      show (if a.1 = 0 then [a] else a :: tl) = id (a :: tl)
      split
      · rename_i h0
        rcases h2 _ hr with h | h
        · have : tl = [] := by cases tl with
            | nil => rfl
            | cons => simp at h
          rw [this]; rfl
        · exact absurd h0 (h a (by simp))
      · rfl
  refine ⟨by simp [chaseE, hv], by simp [chaseE, h1], ?_, ((validB_iff _).1 h1).1, h2⟩
  simp only [chaseA, h1, if_true]
  rw [hR]; exact h3
end Go.Proofs.Ytfkpjnmngafnmaa
