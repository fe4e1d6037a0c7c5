/- ref28.first. Canonical forms depend on the rows as sets; rows joined by insertion. The reference's system without diamonds, plain; both are the same. The canonical form, row by row: the old rows' arcs by the final numbers. The flat law, plain: a silent arc of the result goes to its own state or to a state without silent arcs. -/
import Derived.Test.YthlckclbjknldaaG54
import Derived.Test.YthlckclbjknldaaG60
import Derived.Test.YthlckclbjknldaaMG
import Derived.Test.YthlckclbjknldaaTl2
import Derived.Test.YthlckclbjknldaaG44
import Derived.Test.YthlckclbjknldaaMnil
namespace Go.Proofs.Ythlckclbjknldaa
set_option linter.unusedVariables false
set_option linter.unusedSimpArgs false
open Go.RowKit
set_option maxRecDepth 100000
attribute [local go_sem] List.set_cons_zero List.set_cons_succ List.map_cons List.map_nil List.take_succ_cons List.take_zero List.drop_zero List.drop_succ_cons C.pl C.one List.all_cons List.all_nil Bool.and_true Nat.mul_one Int.toNat_natCast

def stS (F : List (List Ar)) (s : Nat) : Bool := stB (F.getD s [])
def acS (F : List (List Ar)) (s : Nat) : List Int := (accP (F.getD s [])).1
theorem getD_at {F : List (List Ar)} {s : Nat} (h : s < F.length) : F.getD s [] = F[s] := by rw [List.getD_eq_getElem?_getD, List.getElem?_eq_getElem h]; rfl
theorem val_row {F : List (List Ar)} (hv : valB F = true) {s : Nat} (h : s < F.length) : SortA F[s] ∧ ∀ a ∈ F[s], 0 ≤ a.1 ∧ a.1 ≤ 1025 := by
 have h1 := of_decide_eq_true hv
 exact ⟨h1.2 _ (List.getElem_mem h), fun a ha => by have := h1.1.2.2.2 _ (List.getElem_mem h) a ha; omega⟩
end Go.Proofs.Ythlckclbjknldaa
namespace Go.Proofs.Ythlckclbjknldaa
set_option linter.unusedVariables false
set_option linter.unusedSimpArgs false

theorem canGo_ext {A B : List (List Ar)} (h : ∀ i, rowOf (A.getD i []) = rowOf (B.getD i [])) : ∀ (f i : Nat) (num old : List Int) (out : List (List Ar)), canGo A f i num old out = canGo B f i num old out := by
 intro f
 induction f with
 | zero => intro i num old out; rfl
 | succ f ih =>
  intro i num old out
  unfold canGo
  split
  ·rfl
  ·rw [h, ih]
theorem canonR_ext {A B : List (List Ar)} (hl : A.length = B.length) (h : ∀ i, rowOf (A.getD i []) = rowOf (B.getD i [])) : canonR A = canonR B := by
 unfold canonR
 rw [hl]
 exact canGo_ext h _ _ _ _ _
def tiA (f : Nat → Nat) (c : Nat) (o : List (List Ar)) (a : Ar) : List (List Ar) := o.set c (insA (a.1, (f a.2.toNat : Int)) (o.getD c []))
def tiRow (f : Nat → Nat) (c : Nat) (o : List (List Ar)) (row : List Ar) : List (List Ar) := row.foldl (tiA f c) o
theorem tiA_len (f : Nat → Nat) (c : Nat) (o : List (List Ar)) (a : Ar) : (tiA f c o a).length = o.length := by simp [tiA]
/-- two lists of rows with the same arcs -/
def SameS (o p : List (List Ar)) : Prop := o.length = p.length ∧ ∀ i a, a ∈ o.getD i [] ↔ a ∈ p.getD i []
theorem SameS.one {f : Nat → Nat} {c : Nat} {o p : List (List Ar)} (h : SameS o p) (a : Ar) : SameS (tiA f c o a) (tlA f c p a) := by
 refine ⟨by rw [tiA_len, tlA_len]; exact h.1, fun i b => ?_⟩
 have h1 := h.1
 unfold tiA tlA
 simp only [List.getD_eq_getElem?_getD, List.getElem?_set]
 by_cases hi : c = i
 ·subst hi
  by_cases hc : c < o.length
  ·have h2 := h.2 c b
   simp only [List.getD_eq_getElem?_getD] at h2
   rw [if_pos rfl, if_pos hc, if_pos rfl, if_pos (by omega)]
   simp only [Option.getD_some, mem_insA, List.mem_append, List.mem_singleton, h2, or_comm]
  ·rw [if_pos rfl, if_neg hc, if_pos rfl, if_neg (by omega)]
 ·rw [if_neg hi, if_neg hi]
  have h2 := h.2 i b
  simpa only [List.getD_eq_getElem?_getD] using h2
theorem SameS.row {f : Nat → Nat} {c : Nat} : ∀ (row : List Ar) {o p : List (List Ar)}, SameS o p → SameS (tiRow f c o row) (tlRow f c p row)
 | [], _, _, h => h
 | a :: r, _, _, h => SameS.row r (h.one a)
end Go.Proofs.Ythlckclbjknldaa
namespace Go.Proofs.Ythlckclbjknldaa
set_option linter.unusedVariables false
set_option linter.unusedSimpArgs false
open Go.RowKit

def rdSets (F : List (List Ar)) (all : List Nat) : List (List Int) := (all.filter (stS F)).map (acS F)
/-! the same -/
theorem acS_asc {F : List (List Ar)} (hv : valB F = true) {s : Nat} (hs : s < F.length) : Asc (acS F s) := by
 unfold acS
 rw [getD_at hs]
 unfold accP
 split
 ·simp [Asc]
 ·split
  ·simp only
   rw [iniL_eq (val_row hv hs).1]
   exact inR_lt _
  ·exact List.Pairwise.nil
theorem findL_snoc (x : List Int) (M : Lm) (y : List Int) (s : Nat) : findL x (M ++ [(y, s)]) = (match findL x M with | some t => some t | none => if y = x then some s else none) := by
 unfold findL
 rw [List.find?_append]
 cases M.find? (fun p => decide (p.1 = x)) with
 | some p => rfl
 | none =>
  by_cases e : y = x <;> simp [e]
theorem findL_un {F : List (List Ar)} {x : List Int} : ∀ (cl : List Nat) (M : Lm), findL x (cl.foldl (unM1 F) M) = (match findL x M with | some t => some t | none => cl.find? fun s => stS F s && decide (acS F s = x)) := by
 intro cl
 induction cl with
 | nil => intro M; simp only [List.foldl_nil, List.find?_nil]; cases findL x M <;> rfl
 | cons s r ih =>
  intro M
  rw [List.foldl_cons, ih, List.find?_cons]
  unfold unM1
  show (match findL x (if stS F s = true then (match findL (acS F s) M with | some _ => M | none => M ++ [(acS F s, s)]) else M) with | some t => some t | none => _) = _
  by_cases hs : stS F s = true
  ·rw [if_pos hs]
   cases hf : findL (acS F s) M with
   | some t =>
    simp only
    by_cases e : acS F s = x
    ·rw [← e, hf]
    ·simp [hs, e]
   | none =>
    simp only
    rw [findL_snoc]
    by_cases e : acS F s = x
    ·rw [← e, hf]
     simp [hs]
    ·simp only [if_neg e, hs, Bool.true_and, decide_eq_false e]
     cases findL x M <;> rfl
  ·rw [if_neg hs]
   have : stS F s = false := by simpa using hs
   rw [this]
   rfl
theorem findL_none {x : List Int} {M : Lm} : findL x M = none ↔ x ∉ M.map (·.1) := by
 constructor
 ·intro h hx
  obtain ⟨s, hs⟩ := findL_mem hx
  rw [h] at hs; cases hs
 ·intro h
  cases hf : findL x M with
  | none => rfl
  | some s =>
   unfold findL at hf
   cases hg : M.find? (fun p => decide (p.1 = x)) with
   | none => rw [hg] at hf; cases hf
   | some p =>
    have h1 := List.mem_of_find?_eq_some hg
    have h2 := List.find?_some hg
    simp only [decide_eq_true_eq] at h2
    exact absurd (List.mem_map.2 ⟨p, h1, h2⟩) h
theorem un_keys {F : List (List Ar)} {cl : List Nat} (x : List Int) : x ∈ (unM F cl).map (·.1) ↔ x ∈ rdSets F cl := by
 have h := findL_un (F := F) (x := x) cl []
 simp only [show findL x ([] : Lm) = none from rfl] at h
 rw [← Decidable.not_iff_not, ← findL_none]
 show findL x (cl.foldl (unM1 F) []) = none ↔ _
 rw [h, List.find?_eq_none]
 simp only [rdSets, List.mem_map, List.mem_filter, Bool.and_eq_true, decide_eq_true_eq]
 constructor
 ·rintro q ⟨s, ⟨h1, h2⟩, h3⟩
  exact q s h1 ⟨h2, h3⟩
 ·rintro q s h1 ⟨h2, h3⟩
  exact q ⟨s, ⟨h1, h2⟩, h3⟩
end Go.Proofs.Ythlckclbjknldaa
namespace Go.Proofs.Ythlckclbjknldaa
set_option linter.unusedVariables false
set_option linter.unusedSimpArgs false
open Go.RowKit

def RowN (R : List (List Ar)) (num : List Int) (s : Int) (r : List Ar) : Prop :=
 r = rowOf ((rowOf (R.getD s.toNat [])).map fun a => (a.1, num.getD a.2.toNat 0)) ∧ ∀ a ∈ R.getD s.toNat [], ∃ x, num[a.2.toNat]? = some x ∧ 0 ≤ x
theorem RowN.keep {R : List (List Ar)} {num num2 : List Int} {s : Int} {r : List Ar} (h : RowN R num s r) (hk : ∀ (t : Nat) (x : Int), num[t]? = some x → 0 ≤ x → num2[t]? = some x) : RowN R num2 s r := by
 obtain ⟨h1, h2⟩ := h
 refine ⟨?_, fun a ha => ?_⟩
 ·rw [h1]
  congr 1
  refine List.map_congr_left fun a ha => ?_
  obtain ⟨x, hx, hp⟩ := h2 a ((mem_rowOf _ a).1 ha)
  rw [List.getD_eq_getElem?_getD, List.getD_eq_getElem?_getD, hx, hk _ x hx hp]
 ·obtain ⟨x, hx, hp⟩ := h2 a ha
  exact ⟨x, hk _ x hx hp, hp⟩
theorem canGo_str {R : List (List Ar)} (hb : ∀ r ∈ R, ∀ a ∈ r, 0 ≤ a.2 ∧ a.2 < (R.length : Int)) : ∀ (f i : Nat) (num old : List Int) (out : List (List Ar)), NumOk R.length num old → NumInj num old → NumSur num old → i = out.length → i ≤ old.length → R.length ≤ f + i →
  (∀ (j : Nat) (s : Int) (r : List Ar), old[j]? = some s → out[j]? = some r → RowN R num s r) →
  ∃ num', NumOk R.length num' (canGo R f i num old out).2 ∧ NumInj num' (canGo R f i num old out).2 ∧ NumSur num' (canGo R f i num old out).2 ∧ (canGo R f i num old out).1.length = (canGo R f i num old out).2.length ∧ (∀ (j : Nat) (s : Int), old[j]? = some s → (canGo R f i num old out).2[j]? = some s) ∧
   ∀ (j : Nat) (s : Int) (r : List Ar), (canGo R f i num old out).2[j]? = some s → (canGo R f i num old out).1[j]? = some r → RowN R num' s r := by
 intro f
 induction f with
 | zero =>
  intro i num old out hN hI hS hi ho hf hR
  have hle := hN.le
  exact ⟨num, hN, hI, hS, by simp only [canGo]; omega, fun _ _ h => h, hR⟩
 | succ f ih =>
  intro i num old out hN hI hS hi ho hf hR
  have hle := hN.le
  unfold canGo
  split
  ·rename_i hs
   have := List.getElem?_eq_none_iff.1 hs
   exact ⟨num, hN, hI, hS, by simp only; omega, fun _ _ h => h, hR⟩
  ·rename_i s hs
   have hs0 := hN.st s (List.mem_of_getElem? hs)
   have hsl : s.toNat < R.length := by omega
   have hil := (List.getElem?_eq_some_iff.1 hs).1
   have hg : R.getD s.toNat [] = R[s.toNat] := by rw [List.getD_eq_getElem?_getD, List.getElem?_eq_getElem hsl]; rfl
   have hrm := List.getElem_mem hsl
   have hq : ∀ a ∈ rowOf (R.getD s.toNat []), 0 ≤ a.2 ∧ a.2 < (num.length : Int) := fun a ha => by
    rw [hg] at ha
    have := hb _ hrm a ((mem_rowOf _ a).1 ha); rw [hN.len]; omega
   have hN2 := NumOk.go (rowOf (R.getD s.toNat [])) [] hN (by rw [← hN.len]; exact hq)
   have hn2 := rowGo_numL (rowOf (R.getD s.toNat [])) num old []
   rw [hn2] at hN2 ⊢
   simp only at hN2 ⊢
   have hI2 := numL_inj _ hq hI
   have hS2 := numL_sur _ hq hS
   obtain ⟨hm1, hm2⟩ := numL_map (old := old) _ hq
   have hgr := numL_grow (rowOf (R.getD s.toNat [])) num old
   have hkp : ∀ (t : Nat) (x : Int), num[t]? = some x → 0 ≤ x → (numL (rowOf (R.getD s.toNat [])) num old).1[t]? = some x := fun t x h1 h2 => numL_keep _ (fun a ha => (hq a ha).1) h1 h2
   have hold : ∀ (j : Nat) (x : Int), old[j]? = some x → (numL (rowOf (R.getD s.toNat [])) num old).2.1[j]? = some x := fun j x h => numL_old _ h
   have hnew : RowN R (numL (rowOf (R.getD s.toNat [])) num old).1 s ((numL (rowOf (R.getD s.toNat [])) num old).2.2.foldl (fun acc a => insA a acc) []) := by
    refine ⟨?_, fun a ha => hm2 a ((mem_rowOf _ a).2 ha)⟩
    rw [hm1]; rfl
   obtain ⟨num', k1, k2, k3, k4, k5, k6⟩ := ih (i + 1) _ _ (out ++ [(numL (rowOf (R.getD s.toNat [])) num old).2.2.foldl (fun acc a => insA a acc) []]) hN2 hI2 hS2 (by simp; omega) (by omega) (by omega) (fun j t r hj hr => by
    rcases Nat.lt_or_ge j out.length with hlt | hge
    ·rw [List.getElem?_append_left hlt] at hr
     have hj2 : old[j]? = some t := by
      have h3 := hold j old[j] (List.getElem?_eq_getElem (by omega))
      rw [hj] at h3
      rw [List.getElem?_eq_getElem (by omega), ← h3]
     exact (hR j t r hj2 hr).keep hkp
    ·have hje : j = i := by
      have := (List.getElem?_eq_some_iff.1 hr).1
      simp at this; omega
     subst hje
     rw [List.getElem?_append_right hge, hi, Nat.sub_self] at hr
     simp at hr
     rw [hold j s hs] at hj
     injection hj with hj
     subst hj; subst hr
     exact hnew)
   exact ⟨num', k1, k2, k3, k4, fun j x h => k5 j x (hold j x h), k6⟩
/-- the canonical form's structure -/
theorem canonR_str {R : List (List Ar)} (h1 : 1 ≤ R.length) (hb : ∀ r ∈ R, ∀ a ∈ r, 0 ≤ a.2 ∧ a.2 < (R.length : Int)) : ∃ num, NumOk R.length num (canonR R).2 ∧ NumInj num (canonR R).2 ∧ NumSur num (canonR R).2 ∧ (canonR R).1.length = (canonR R).2.length ∧ (canonR R).2[0]? = some 0 ∧ ∀ (j : Nat) (s : Int) (r : List Ar), (canonR R).2[j]? = some s → (canonR R).1[j]? = some r → RowN R num s r := by
 obtain ⟨num, k1, k2, k3, k4, k5, k6⟩ := canGo_str hb R.length 0 _ _ [] (NumOk.start h1) (NumInj.start h1) (NumSur.start h1) rfl (by simp) (by omega) (fun j s r _ h => by simp at h)
 exact ⟨num, k1, k2, k3, k4, k5 0 0 rfl, k6⟩
end Go.Proofs.Ythlckclbjknldaa
namespace Go.Proofs.Ythlckclbjknldaa
set_option linter.unusedVariables false
set_option linter.unusedSimpArgs false
open Go.RowKit

theorem st_no {F : List (List Ar)} (hv : valB F = true) {m : Nat} (hm : m < F.length) (hs : stS F m = true) : ∀ a ∈ F.getD m [], a.1 ≠ 0 := by
 intro a ha e
 unfold stS at hs
 rw [getD_at hm] at hs ha
 rw [stB_eq (val_row hv hm).1 (fun a ha => ((val_row hv hm).2 a ha).1)] at hs
 simp only [Bool.not_eq_true', decide_eq_false_iff_not] at hs
 exact hs (mem_inR.2 ⟨a, ha, e⟩)
theorem dm_tau {F : List (List Ar)} (hv : valB F = true) {n : Nat} (hn : n < F.length) : ∀ a ∈ dmRow F n, a.1 = 0 → a.2 = (n : Int) ∨ ∃ m : Nat, m < F.length ∧ a.2 = (m : Int) ∧ ∀ b ∈ dmRow F m, b.1 ≠ 0 := by
 intro a ha e
 unfold dmRow at ha
 split at ha
 ·rename_i hs
  exact absurd e (st_no hv hn hs a ha)
 ·have hcl := sclo_lt (F := F) (n := n)
  generalize sclo F n = cl at *
  rcases List.mem_append.1 ha with h | h
  ·obtain ⟨s, hs, h1⟩ := List.mem_flatMap.1 h
   obtain ⟨b, hb, h2⟩ := List.mem_filterMap.1 h1
   unfold unA1 at h2
   split at h2
   ·rename_i hne
    injection h2 with h2
    subst h2
    exact absurd e hne
   ·split at h2
    ·injection h2 with h2
     subst h2
     exact .inl rfl
    ·cases h2
  ·obtain ⟨x, hx, rfl⟩ := List.mem_map.1 h
   obtain ⟨t, ht⟩ := findL_mem (minR_sub hx)
   have h1 := findL_un (F := F) (x := x) cl []
   simp only [show findL x ([] : Lm) = none from rfl] at h1
   have h2 : (cl.find? fun s => stS F s && decide (acS F s = x)) = some t := by rw [← h1]; exact ht
   have hts := List.find?_some h2
   have htm := hcl t (List.mem_of_find?_eq_some h2)
   simp only [Bool.and_eq_true] at hts
   refine .inr ⟨t, htm, by simp only [unE, ht, Option.getD_some], fun b hb => ?_⟩
   rw [dmRow, if_pos (show stB (F.getD t []) = true from hts.1)] at hb
   exact st_no hv htm hts.1 b hb
theorem canon_flat {F : List (List Ar)} (hv : valB F = true) : ∀ (j : Nat) (r : List Ar), (canonR (dmR F)).1[j]? = some r → ∀ a ∈ r, a.1 = 0 → a.2 = (j : Int) ∨ ∀ q, (canonR (dmR F)).1[a.2.toNat]? = some q → ∀ b ∈ q, b.1 ≠ 0 := by
 have hlo : looB F = true := decide_eq_true (of_decide_eq_true hv).1
 have hp : LooP F := of_decide_eq_true hlo
 have hbd := dm_bd hlo
 have hl : (dmR F).length = F.length := dmL_len F F.length
 have hF1 := hp.1
 obtain ⟨num, k1, k2, k3, k4, k5, k6⟩ := canonR_str (R := dmR F) (by omega) (fun r hr a ha => by have := (hbd r hr).1 a ha; exact ⟨this.2.2.1, this.2.2.2⟩)
 have hg : ∀ s, s < F.length → (dmR F).getD s [] = dmRow F s := fun s hs => by simp [dmR, dmL, List.getD_eq_getElem?_getD, hs]
 intro j r hr a ha e
 have hj : j < (canonR (dmR F)).2.length := by rw [← k4]; exact (List.getElem?_eq_some_iff.1 hr).1
 have hs := List.getElem?_eq_getElem hj
 generalize (canonR (dmR F)).2[j] = s at hs
 have hs0 := k1.st s (List.mem_of_getElem? hs)
 rw [hl] at hs0
 obtain ⟨e1, e2⟩ := k6 j s r hs hr
 have hsn : s.toNat < F.length := by omega
 rw [hg _ hsn] at e1 e2
 rw [e1, mem_rowOf] at ha
 obtain ⟨b, hb, rfl⟩ := List.mem_map.1 ha
 rw [mem_rowOf] at hb
 obtain ⟨x, hx, hxp⟩ := e2 b hb
 have hbx : num.getD b.2.toNat 0 = x := by rw [List.getD_eq_getElem?_getD, hx, Option.getD_some]
 simp only at e ⊢
 rw [hbx]
 have hin := k2.inj _ _ hx hxp
 rcases dm_tau hv hsn b hb e with h | ⟨m, hm, h, hno⟩
 ·left
  have h3 := (k3 j s hs).2
  have e3 : b.2.toNat = s.toNat := by omega
  rw [e3, h3] at hx
  injection hx with hx
  omega
 ·right
  intro q hq c hc
  have e3 : b.2.toNat = m := by omega
  rw [e3] at hin
  obtain ⟨f1, f2⟩ := k6 x.toNat (m : Int) q hin hq
  rw [Int.toNat_natCast, hg m hm] at f1
  rw [f1, mem_rowOf] at hc
  obtain ⟨d, hd, rfl⟩ := List.mem_map.1 hc
  rw [mem_rowOf] at hd
  exact hno d hd
end Go.Proofs.Ythlckclbjknldaa
