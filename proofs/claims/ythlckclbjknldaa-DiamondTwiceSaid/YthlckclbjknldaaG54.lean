/- ref23: Initials, Stable, Acceptance, at valid systems. Acceptances of both sides are the same at sorted rows. -/
import Derived.Test.YthlckclbjknldaaG53
import Derived.Test.YthlckclbjknldaaTl1
import Derived.Test.YthlckclbjknldaaMF
namespace Go.Proofs.Ythlckclbjknldaa
set_option linter.unusedVariables false
set_option linter.unusedSimpArgs false
open Go.RowKit
set_option maxRecDepth 100000
attribute [local go_sem] List.set_cons_zero List.set_cons_succ List.map_cons List.map_nil List.take_succ_cons List.take_zero List.drop_zero List.drop_succ_cons C.pl C.one List.all_cons List.all_nil Bool.and_true Nat.mul_one Int.toNat_natCast

/-- the events of a row as a set -/
def inR (r : List Ar) : List Int := r.foldl (fun acc a => addI a.1 acc) []
theorem mem_inR_fold (x : Int) : ∀ (r : List Ar) (acc : List Int), x ∈ r.foldl (fun acc a => addI a.1 acc) acc ↔ x ∈ acc ∨ ∃ a ∈ r, a.1 = x := by
 intro r
 induction r with
 | nil => intro acc; simp
 | cons a r ih =>
  intro acc
  rw [List.foldl_cons, ih, mem_addI]
  simp only [List.mem_cons, exists_eq_or_imp]
  rw [or_assoc]
  constructor
  ·rintro (rfl | h | h)
   ·exact .inr (.inl rfl)
   ·exact .inl h
   ·exact .inr (.inr h)
  ·rintro (h | rfl | h)
   ·exact .inr (.inl h)
   ·exact .inl rfl
   ·exact .inr (.inr h)
theorem mem_inR {x : Int} {r : List Ar} : x ∈ inR r ↔ ∃ a ∈ r, a.1 = x := by rw [inR, mem_inR_fold]; simp
def accR (r : List Ar) : List Int × Bool := if (1 : Int) ∈ inR r then ([1], true) else if (0 : Int) ∈ inR r then ([], false) else (inR r, true)
end Go.Proofs.Ythlckclbjknldaa
namespace Go.Proofs.Ythlckclbjknldaa
set_option linter.unusedVariables false
set_option linter.unusedSimpArgs false

theorem inR_lt (r : List Ar) : (inR r).Pairwise (· < ·) := by
 have : ∀ (r : List Ar) (acc : List Int), acc.Pairwise (· < ·) → (r.foldl (fun acc a => addI a.1 acc) acc).Pairwise (· < ·) := by
  intro r
  induction r with
  | nil => intro acc h; exact h
  | cons a r ih => intro acc h; exact ih _ (addI_asc h)
 exact this r [] List.Pairwise.nil
theorem iniL_ok : ∀ (r : List Ar) (acc : List Int), r.Pairwise (fun a b => a.1 ≤ b.1) → acc.Pairwise (· < ·) → (∀ x ∈ acc, ∀ a ∈ r, x ≤ a.1) →
  (r.foldl iniStep acc).Pairwise (· < ·) ∧ ∀ x, x ∈ r.foldl iniStep acc ↔ x ∈ acc ∨ ∃ a ∈ r, a.1 = x := by
 intro r
 induction r with
 | nil => intro acc _ h _; exact ⟨h, fun x => by simp⟩
 | cons a r ih =>
  intro acc hr ha hx
  have hr2 := List.pairwise_cons.1 hr
  have hst : (iniStep acc a).Pairwise (· < ·) ∧ (∀ x, x ∈ iniStep acc a ↔ x ∈ acc ∨ x = a.1) := by
   unfold iniStep
   split
   ·rename_i h
    refine ⟨ha, fun x => ⟨.inl, fun h2 => h2.elim id fun e => ?_⟩⟩
    rw [e]; exact List.mem_of_getLast? h
   ·rename_i h
    refine ⟨List.pairwise_append.2 ⟨ha, by simp, fun x h1 y h2 => ?_⟩, fun x => by simp⟩
    simp at h2; subst h2
    have h3 := hx x h1 a (by simp)
    rcases Int.lt_or_eq_of_le h3 with h4 | h4
    ·exact h4
    ·exfalso
     apply h
     obtain ⟨i, hi, rfl⟩ := List.getElem_of_mem h1
     rw [List.getLast?_eq_getElem?, List.getElem?_eq_getElem (by omega)]
     congr 1
     have hlt : acc.length - 1 < acc.length := by omega
     rcases Nat.lt_or_ge i (acc.length - 1) with h5 | h5
     ·have h6 := List.pairwise_iff_getElem.1 ha i (acc.length - 1) hi hlt h5
      have h7 := hx _ (List.getElem_mem hlt) a (by simp)
      omega
     ·have : i = acc.length - 1 := by omega
      subst this; exact h4
  rw [List.foldl_cons]
  obtain ⟨q1, q2⟩ := ih (iniStep acc a) hr2.2 hst.1 (fun x h b hb => by
   rcases (hst.2 x).1 h with h | h
   ·exact hx x h b (List.mem_cons_of_mem _ hb)
   ·subst h; exact hr2.1 b hb)
  refine ⟨q1, fun x => ?_⟩
  rw [q2, hst.2]
  simp only [List.mem_cons, exists_eq_or_imp]
  rw [or_assoc]
  constructor
  ·rintro (h | h | h)
   ·exact .inl h
   ·exact .inr (.inl h.symm)
   ·exact .inr (.inr h)
  ·rintro (h | h | h)
   ·exact .inl h
   ·exact .inr (.inl h.symm)
   ·exact .inr (.inr h)
theorem sortA_ev {r : List Ar} (h : SortA r) : r.Pairwise (fun a b => a.1 ≤ b.1) := h.imp fun {a b} hab => by rw [ltA_iff] at hab; omega
theorem iniL_eq {r : List Ar} (h : SortA r) : iniL r = inR r := by
 obtain ⟨h1, h2⟩ := iniL_ok r [] (sortA_ev h) List.Pairwise.nil (by simp)
 refine asc_ext h1 (inR_lt r) fun a => ?_
 unfold iniL
 rw [h2, mem_inR]; simp
theorem stB_eq {r : List Ar} (h : SortA r) (h0 : ∀ a ∈ r, 0 ≤ a.1) : stB r = !decide ((0 : Int) ∈ inR r) := by
 cases r with
 | nil => rfl
 | cons a r =>
  have hp := List.pairwise_cons.1 (sortA_ev h)
  by_cases e : a.1 = 0
  ·have : (0 : Int) ∈ inR (a :: r) := mem_inR.2 ⟨a, by simp, e⟩
   simp [stB, e, this]
  ·have : ¬ (0 : Int) ∈ inR (a :: r) := fun hm => by
    obtain ⟨b, hb, e2⟩ := mem_inR.1 hm
    have ha := h0 a (by simp)
    rcases List.mem_cons.1 hb with rfl | hb
    ·exact e e2
    ·have := hp.1 b hb; omega
   simp [stB, e, this]
theorem acc_eq {r : List Ar} (h : SortA r) (h0 : ∀ a ∈ r, 0 ≤ a.1) : accP r = accR r := by
 have ht : r.any isTick = decide ((1 : Int) ∈ inR r) := by
  rw [Bool.eq_iff_iff, List.any_eq_true, decide_eq_true_iff, mem_inR]
  simp [isTick]
 unfold accP accR
 rw [ht, stB_eq h h0, iniL_eq h]
 by_cases h1 : (1 : Int) ∈ inR r
 ·simp [h1]
 ·by_cases h2 : (0 : Int) ∈ inR r <;> simp [h1, h2]
end Go.Proofs.Ythlckclbjknldaa
