/- The canonical form of a canonical form is itself. Systems that TauLoops and Diamond leave as they are, plain. Diamond leaves what it gives as it is, plain. -/
import Derived.Test.YthlckclbjknldaaMnil
import Derived.Test.YthlckclbjknldaaG62
namespace Go.Proofs.Ythlckclbjknldaa
set_option linter.unusedVariables false
set_option linter.unusedSimpArgs false
open Go.RowKit
/-- whatever number is new has its elder behind no later event -/
def Cl (L : Int) (q : List Ar) : Prop := ∀ a ∈ q, L < a.2 → ∃ b ∈ q, b.1 ≤ a.1 ∧ b.2 = a.2 - 1
/-- a system in canonical form, from state i on, L numbers being known -/
def canOK : Nat → Nat → List (List Ar) → Prop
 | i, L, [] => L = i
 | i, L, r :: rs => i < L ∧ SortA r ∧ ∃ L', L ≤ L' ∧ (∀ a ∈ r, 0 ≤ a.2 ∧ a.2 < (L' : Int)) ∧ Cl L r ∧ (∀ t : Nat, L ≤ t → t < L' → ∃ a ∈ r, a.2 = (t : Int)) ∧ canOK (i + 1) L' rs

theorem rowOf_self {r : List Ar} (h : SortA r) : rowOf r = r := sorted_ext (rowOf_sorted r) h (mem_rowOf r)
/-- what the numbering of a row gives: events as they were; numbers below the new count; each new number is there, in the order of the events -/
theorem numL_spec : ∀ (r : List Ar) {n : Nat} {num old : List Int} (L0 : Nat) (P : List Ar), NumOk n num old → NumInj num old → (r.Pairwise fun a b => a.1 ≤ b.1) → (∀ a ∈ r, 0 ≤ a.2 ∧ a.2 < (n : Int)) → L0 ≤ old.length →
  (∀ t : Nat, L0 ≤ t → t < old.length → ∃ b ∈ P, b.2 = (t : Int) ∧ ∀ a ∈ r, b.1 ≤ a.1) →
  (∀ t : Nat, L0 ≤ t → t < (numL r num old).2.1.length → ∃ b ∈ P ++ (numL r num old).2.2, b.2 = (t : Int)) ∧
  (∀ a ∈ (numL r num old).2.2, 0 ≤ a.2 ∧ a.2 < ((numL r num old).2.1.length : Int) ∧ (∃ b ∈ r, b.1 = a.1) ∧ ((L0 : Int) < a.2 → ∃ b ∈ P ++ (numL r num old).2.2, b.1 ≤ a.1 ∧ b.2 = a.2 - 1)) ∧ old.length ≤ (numL r num old).2.1.length
 | [], n, num, old, L0, P, _, _, _, _, _, hP => ⟨fun t h1 h2 => by
   obtain ⟨b, hb, he, _⟩ := hP t h1 (by simpa [numL] using h2)
   exact ⟨b, by simp [numL, hb], he⟩, by simp [numL], by simp [numL]⟩
 | a :: tl, n, num, old, L0, P, hO, hI, hs, hr, hL, hP => by
  have ha := hr a (by simp)
  have hs' := List.pairwise_cons.1 hs
  have hO' := hO.one ha.1 ha.2
  have hI' := hI.one ha.1 (by rw [hO.len]; exact ha.2)
  -- the number that is given
  obtain ⟨v, hv, hv0, hvl, hvn⟩ : ∃ v : Int, (numOne num old a.2).1.getD a.2.toNat 0 = v ∧ 0 ≤ v ∧ v < ((numOne num old a.2).2.length : Int) ∧ (v < old.length ∨ (v = old.length ∧ (numOne num old a.2).2.length = old.length + 1)) ∧ old.length ≤ (numOne num old a.2).2.length ∧ (numOne num old a.2).2.length ≤ old.length + 1 ∧ ((numOne num old a.2).2.length = old.length + 1 → v = old.length) := by
   obtain ⟨x, hx, hxd, hx1, hx2⟩ := hO.get ha.1 ha.2
   have hl : a.2.toNat < num.length := (List.getElem?_eq_some_iff.1 hx).1
   by_cases hneg : x < 0
   ·have h1 : numOne num old a.2 = (num.set a.2.toNat old.length, old ++ [a.2]) := by unfold numOne; rw [if_pos (by rw [hxd]; exact hneg)]
    rw [h1]
    refine ⟨old.length, by simp [List.getD, hl], by omega, by simp; omega, .inr ⟨rfl, by simp⟩, by simp, by simp, fun _ => rfl⟩
   ·have h1 : numOne num old a.2 = (num, old) := by unfold numOne; rw [if_neg (by rw [hxd]; exact hneg)]
    rw [h1]
    have hin := hI.inj _ _ hx (by omega)
    have := (List.getElem?_eq_some_iff.1 hin).1
    refine ⟨x, hxd, by omega, by simp; omega, .inl (by omega), by simp, by simp, fun h => by simp at h⟩
  obtain ⟨hvn, hle1, hle2, hnew⟩ := hvn
  have hP' : ∀ t : Nat, L0 ≤ t → t < (numOne num old a.2).2.length → ∃ b ∈ P ++ [(a.1, v)], b.2 = (t : Int) ∧ ∀ c ∈ tl, b.1 ≤ c.1 := by
   intro t h1 h2
   by_cases h3 : t < old.length
   ·obtain ⟨b, hb, he, hc⟩ := hP t h1 h3
    exact ⟨b, by simp [hb], he, fun c hc' => hc c (by simp [hc'])⟩
   ·have h4 : (numOne num old a.2).2.length = old.length + 1 := by omega
    have := hnew h4
    exact ⟨(a.1, v), by simp, by simp only; omega, fun c hc => hs'.1 c hc⟩
  obtain ⟨i1, i2, i3⟩ := numL_spec tl L0 (P ++ [(a.1, v)]) hO' hI' hs'.2 (fun c hc => hr c (by simp [hc])) (by omega) hP'
  have happ : ∀ b, b ∈ (P ++ [(a.1, v)]) ++ (numL tl (numOne num old a.2).1 (numOne num old a.2).2).2.2 ↔ b ∈ P ++ (numL (a :: tl) num old).2.2 := by
   intro b; simp only [numL, hv, List.append_assoc, List.singleton_append]
  refine ⟨fun t h1 h2 => ?_, fun c hc => ?_, by simp only [numL]; omega⟩
  ·obtain ⟨b, hb, he⟩ := i1 t h1 (by simpa [numL] using h2)
   exact ⟨b, (happ b).1 hb, he⟩
  ·simp only [numL, hv, List.mem_cons] at hc
   rcases hc with rfl | hc
   ·refine ⟨hv0, by simp only [numL]; omega, ⟨a, by simp, rfl⟩, fun hlt => ?_⟩
    simp only at hlt
    obtain ⟨b, hb, he, hba⟩ := hP (v - 1).toNat (by omega) (by omega)
    exact ⟨b, by simp [hb], hba a (by simp), by simp only; omega⟩
   ·obtain ⟨j1, j2, ⟨b0, hb0, hb1⟩, j3⟩ := i2 c hc
    refine ⟨j1, by simpa [numL] using j2, ⟨b0, by simp [hb0], hb1⟩, fun hlt => ?_⟩
    obtain ⟨b, hb, h1, h2⟩ := j3 hlt
    exact ⟨b, (happ b).1 hb, h1, h2⟩

theorem sorted_events {r : List Ar} (h : SortA r) : r.Pairwise fun a b => a.1 ≤ b.1 := h.imp (fun {a b} hab => by simp [ltA] at hab; omega)

theorem numL_len (r : List Ar) (num old : List Int) : (numL r num old).2.2.length = r.length := by
 induction r generalizing num old with
 | nil => rfl
 | cons a tl ih => simp [numL, ih]
/-- the canonical form is in canonical form -/
theorem canGo_ok (rows : List (List Ar)) (hok : ∀ r ∈ rows, ∀ a ∈ r, 0 ≤ a.2 ∧ a.2 < (rows.length : Int)) (pr : List Ar → Prop) (hcl : ∀ r r', (∀ a ∈ r', ∃ b ∈ r, b.1 = a.1) → r'.length ≤ r.length → pr r → pr r') (hpr : ∀ r ∈ rows, pr r) :
  ∀ (f i : Nat) (num old : List Int) (out : List (List Ar)), NumOk rows.length num old → NumInj num old → i ≤ old.length → f + i = rows.length →
   ∃ rest, (canGo rows f i num old out).1 = out ++ rest ∧ canOK i old.length rest ∧ ∀ r ∈ rest, pr r
 | 0, i, num, old, out, hO, _, hi, hf => ⟨[], by simp [canGo], by have := hO.le; show old.length = i; omega, by simp⟩
 | f + 1, i, num, old, out, hO, hI, hi, hf => by
  unfold canGo
  by_cases hil : i < old.length
  ·obtain ⟨s, hs⟩ : ∃ s, old[i]? = some s := ⟨_, List.getElem?_eq_getElem hil⟩
   simp only [hs]
   obtain ⟨s0, s1⟩ := hO.st s (List.mem_of_getElem? hs)
   have hsn : s.toNat < rows.length := by omega
   have hrm : rows.getD s.toNat [] ∈ rows := by simp only [List.getD, List.getElem?_eq_getElem hsn, Option.getD_some]; exact List.getElem_mem hsn
   have hq : ∀ a ∈ rowOf (rows.getD s.toNat []), 0 ≤ a.2 ∧ a.2 < (rows.length : Int) := fun a ha => hok _ hrm a ((mem_rowOf _ _).1 ha)
   have hqe : pr (rowOf (rows.getD s.toNat [])) := hcl _ _ (fun a ha => ⟨a, (mem_rowOf _ _).1 ha, rfl⟩) (len_rowOf _) (hpr _ hrm)
   have hqs := sorted_events (rowOf_sorted (rows.getD s.toNat []))
   generalize rowOf (rows.getD s.toNat []) = q at hq hqe hqs
   have hO' := NumOk.go q [] hO hq
   rw [rowGo_numL] at hO' ⊢
   simp only at hO' ⊢
   have hI' := numL_inj q (by rw [hO.len]; exact hq) hI
   obtain ⟨k1, k2, k3⟩ := numL_spec q old.length [] hO hI hqs hq (Nat.le_refl _) (fun t h1 h2 => by omega)
   obtain ⟨rest, e1, e2, e3⟩ := canGo_ok rows hok pr hcl hpr f (i + 1) _ _ (out ++ [(numL q num old).2.2.foldl (fun acc a => insA a acc) []]) hO' hI' (by omega) (by omega)
   refine ⟨(numL q num old).2.2.foldl (fun acc a => insA a acc) [] :: rest, by rw [e1]; simp, ?_, ?_⟩
   ·have hm : ∀ a, a ∈ (numL q num old).2.2.foldl (fun acc a => insA a acc) [] ↔ a ∈ (numL q num old).2.2 := fun a => mem_rowOf _ a
    refine ⟨hil, rowOf_sorted _, (numL q num old).2.1.length, k3, fun a ha => ?_, fun a ha hlt => ?_, fun t h1 h2 => ?_, e2⟩
    ·obtain ⟨j1, j2, _⟩ := k2 a ((hm a).1 ha); exact ⟨j1, j2⟩
    ·obtain ⟨_, _, _, j3⟩ := k2 a ((hm a).1 ha)
     obtain ⟨b, hb, h1, h2⟩ := j3 hlt
     exact ⟨b, (hm b).2 (by simpa using hb), h1, h2⟩
    ·obtain ⟨b, hb, he⟩ := k1 t h1 h2
     exact ⟨b, (hm b).2 (by simpa using hb), he⟩
   ·intro r hr
    rcases List.mem_cons.1 hr with rfl | hr
    ·refine hcl q _ (fun a ha => ?_) ?_ hqe
     ·obtain ⟨_, _, ⟨b, hb, hbe⟩, _⟩ := k2 a ((mem_rowOf _ a).1 ha)
      exact ⟨b, hb, hbe⟩
     ·have h1 := len_foldl_ins (numL q num old).2.2 []
      rw [numL_len] at h1
      simpa using h1
    ·exact e3 r hr
  ·have hn : old[i]? = none := List.getElem?_eq_none (by omega)
   simp only [hn]
   exact ⟨[], by simp, by show old.length = i; omega, by simp⟩
theorem canonR_ok {rows : List (List Ar)} (hn : 0 < rows.length) (hok : ∀ r ∈ rows, ∀ a ∈ r, 0 ≤ a.2 ∧ a.2 < (rows.length : Int)) (pr : List Ar → Prop) (hcl : ∀ r r', (∀ a ∈ r', ∃ b ∈ r, b.1 = a.1) → r'.length ≤ r.length → pr r → pr r') (hpr : ∀ r ∈ rows, pr r) :
  canOK 0 1 (canonR rows).1 ∧ ∀ r ∈ (canonR rows).1, pr r := by
 obtain ⟨rest, h1, h2, h3⟩ := canGo_ok rows hok pr hcl hpr rows.length 0 _ _ [] (NumOk.start hn) (NumInj.start hn) (by simp) (by omega)
 unfold canonR
 rw [h1]
 exact ⟨h2, h3⟩
theorem canOK_bound : ∀ (p : List (List Ar)) (i L : Nat), canOK i L p → L ≤ i + p.length ∧ ∀ r ∈ p, SortA r ∧ ∀ a ∈ r, 0 ≤ a.2 ∧ a.2 < ((i + p.length : Nat) : Int)
 | [], i, L, h => ⟨by have : L = i := h; simp [this], by simp⟩
 | r :: rs, i, L, h => by
  obtain ⟨h1, h2, L', h3, h4, h5, h6, h7⟩ := h
  obtain ⟨i1, i2⟩ := canOK_bound rs (i + 1) L' h7
  refine ⟨by simp; omega, fun q hq => ?_⟩
  rcases List.mem_cons.1 hq with rfl | hq
  ·exact ⟨h2, fun a ha => by have := h4 a ha; simp; omega⟩
  ·obtain ⟨j1, j2⟩ := i2 q hq
   exact ⟨j1, fun a ha => by have := j2 a ha; simp; omega⟩

/-- numbers that are known stand for themselves -/
def idNum (n L : Nat) : List Int := (List.range n).map fun t => if t < L then (t : Int) else -1
def idOld (L : Nat) : List Int := (List.range L).map fun (t : Nat) => (t : Int)
theorem idNum_get {n L t : Nat} (h : t < n) : (idNum n L)[t]? = some (if t < L then (t : Int) else -1) := by simp [idNum, h]
theorem idNum_set {n L : Nat} (h : L < n) : (idNum n L).set L (L : Int) = idNum n (L + 1) := by
 apply List.ext_getElem?
 intro t
 rw [List.getElem?_set]
 by_cases ht : t < n
 ·rw [idNum_get ht, idNum_get ht]
  by_cases hl : L = t
  ·subst hl; simp [idNum, ht]
  ·rw [if_neg hl]
   by_cases h1 : t < L
   ·simp [h1, show t < L + 1 by omega]
   ·simp [h1, show ¬ t < L + 1 by omega]
 ·have h1 : (idNum n L)[t]? = none := List.getElem?_eq_none (by simp [idNum]; omega)
  have h2 : (idNum n (L + 1))[t]? = none := List.getElem?_eq_none (by simp [idNum]; omega)
  rw [h1, h2]
  simp only [ite_eq_right_iff]
  intro h3; subst h3; omega
/-- in a sorted row each number that is new comes in its turn -/
theorem numL_id (n : Nat) : ∀ (r P : List Ar) (L L' L0 : Nat), SortA (P ++ r) → Cl L0 (P ++ r) → L0 ≤ L → (∀ a ∈ P ++ r, 0 ≤ a.2 ∧ a.2 < (L' : Int)) → L' ≤ n → L ≤ L' → (∀ b ∈ P, b.2 < (L : Int)) →
  (∀ t : Nat, L0 ≤ t → t < L' → ∃ a ∈ P ++ r, a.2 = (t : Int)) → (∀ t : Nat, L0 ≤ t → t < L → ∃ b ∈ P, b.2 = (t : Int)) →
  numL r (idNum n L) (idOld L) = (idNum n L', idOld L', r)
 | [], P, L, L', L0, hs, hc, h0, hr, hn, hl, hp, hall, _ => by
  have : L = L' := by
   rcases Nat.lt_or_ge L L' with h | h
   ·obtain ⟨a, ha, he⟩ := hall L h0 h
    have := hp a (by simpa using ha)
    omega
   ·omega
  subst this; rfl
 | a :: tl, P, L, L', L0, hs, hc, h0, hr, hn, hl, hp, hall, hk => by
  obtain ⟨ha0, ha1⟩ := hr a (by simp)
  obtain ⟨e, t⟩ := a
  simp only at ha0 ha1
  obtain ⟨tn, rfl⟩ : ∃ tn : Nat, t = (tn : Int) := ⟨t.toNat, by omega⟩
  have htn : tn < n := by omega
  have hsp := hs
  have hlt : tn ≤ L := by
   rcases Nat.lt_or_ge L tn with h | h
   ·exfalso
    -- the least number above L that comes in no turn
    have key : ∀ m : Nat, L < m → ∀ e', (e', (m : Int)) ∈ P ++ (e, (tn : Int)) :: tl → e' ≤ e → (ltA (e', (m : Int)) (e, (tn : Int)) = true ∨ m = tn) → False := by
     intro m
     induction m with
     | zero => intro h1; omega
     | succ m ih =>
      intro h1 e' hmem he hm
      obtain ⟨b, hb, hb1, hb2⟩ := hc _ hmem (by simp only; omega)
      obtain ⟨e2, t2⟩ := b
      simp only at hb1 hb2
      have ht2 : t2 = (m : Int) := by omega
      subst ht2
      have hless : ltA (e2, (m : Int)) (e, (tn : Int)) = true := by
       rcases hm with hm | hm
       ·simp [ltA] at hm ⊢; omega
       ·simp [ltA]; omega
      by_cases hmL : L < m
      ·exact ih hmL e2 hb (by omega) (.inl hless)
      ·have hmeq : m = L := by omega
       subst hmeq
       -- it stands ahead of (e, tn): in P
       have hbP : (e2, (m : Int)) ∈ P := by
        rcases List.mem_append.1 hb with h | h
        ·exact h
        ·exfalso
         have h3 := (List.pairwise_append.1 hs).2.1
         have h4 := List.pairwise_cons.1 h3
         rcases List.mem_cons.1 h with h5 | h5
         ·rw [h5] at hless; simp [ltA] at hless
         ·have := h4.1 _ h5
          simp [ltA] at this hless; omega
       have := hp _ hbP
       simp only at this; omega
    exact key tn h e (by simp) (Int.le_refl _) (.inr rfl)
   ·exact h
  have hs2 : SortA ((P ++ [(e, (tn : Int))]) ++ tl) := by simpa using hs
  have hc2 : Cl L0 ((P ++ [(e, (tn : Int))]) ++ tl) := by simpa [Cl] using hc
  have hr2 : ∀ a ∈ (P ++ [(e, (tn : Int))]) ++ tl, 0 ≤ a.2 ∧ a.2 < (L' : Int) := by simpa using hr
  have hall2 : ∀ t : Nat, L0 ≤ t → t < L' → ∃ a ∈ (P ++ [(e, (tn : Int))]) ++ tl, a.2 = (t : Int) := by simpa using hall
  by_cases hlt2 : tn < L
  ·have h1 : numOne (idNum n L) (idOld L) (tn : Int) = (idNum n L, idOld L) := by
    unfold numOne
    rw [if_neg]
    simp only [Int.toNat_natCast, List.getD, idNum_get htn, Option.getD_some, hlt2, if_true]
    omega
   have ih := numL_id n tl (P ++ [(e, (tn : Int))]) L L' L0 hs2 hc2 h0 hr2 hn hl (by
    intro b hb
    rcases List.mem_append.1 hb with hb | hb
    ·exact hp b hb
    ·simp at hb; subst hb; simp only; omega) hall2 (fun t h1 h2 => by obtain ⟨b, hb, he⟩ := hk t h1 h2; exact ⟨b, by simp [hb], he⟩)
   simp only [numL, h1, ih, Int.toNat_natCast, List.getD, idNum_get htn, Option.getD_some, hlt2, if_true]
  ·have hteq : tn = L := by omega
   subst hteq
   have h1 : numOne (idNum n tn) (idOld tn) (tn : Int) = (idNum n (tn + 1), idOld (tn + 1)) := by
    unfold numOne
    rw [if_pos]
    ·simp only [Int.toNat_natCast]
     rw [show ((idOld tn).length : Int) = (tn : Int) by simp [idOld], idNum_set htn]
     simp [idOld, List.range_succ]
    ·simp only [Int.toNat_natCast, List.getD, idNum_get htn, Option.getD_some]
     simp
   have ih := numL_id n tl (P ++ [(e, (tn : Int))]) (tn + 1) L' L0 hs2 hc2 (by omega) hr2 hn (by omega) (by
    intro b hb
    rcases List.mem_append.1 hb with hb | hb
    ·have := hp b hb; omega
    ·simp at hb; subst hb; simp only; omega) hall2 (fun t h1 h2 => by
     by_cases h3 : t < tn
     ·obtain ⟨b, hb, he⟩ := hk t h1 h3; exact ⟨b, by simp [hb], he⟩
     ·exact ⟨(e, (tn : Int)), by simp, by simp only; omega⟩)
   simp only [numL, h1, ih, Int.toNat_natCast, List.getD, idNum_get htn, Option.getD_some]
   simp
/-- a system in canonical form is its own canonical form -/
theorem canGo_id (p : List (List Ar)) : ∀ (f i L : Nat) (out rest : List (List Ar)), p = out ++ rest → out.length = i → canOK i L rest → f = rest.length → L ≤ p.length → canGo p f i (idNum p.length L) (idOld L) out = (p, idOld p.length)
 | 0, i, L, out, rest, hp, hi, hc, hf, hl => by
  have : rest = [] := List.length_eq_zero_iff.1 hf.symm
  subst this
  have : L = i := hc
  subst this
  rw [List.append_nil] at hp
  subst hp
  rw [← hi]; rfl
 | f + 1, i, L, out, rest, hp, hi, hc, hf, hl => by
  match rest, hf with
  | r :: rs, hf =>
   obtain ⟨h1, h2, L', h3, h4, h5, h6, h7⟩ := hc
   have hb := canOK_bound rs (i + 1) L' h7
   have hpl : p.length = i + (rs.length + 1) := by rw [hp, List.length_append, hi, List.length_cons]
   have ho : (idOld L)[i]? = some (i : Int) := by simp [idOld, h1]
   have hrow : p.getD (i : Int).toNat [] = r := by
    simp only [Int.toNat_natCast, List.getD, hp]
    rw [List.getElem?_append_right (by omega), hi]; simp
   unfold canGo
   simp only [ho, hrow]
   rw [rowOf_self h2, rowGo_numL]
   have hid := numL_id p.length r [] L L' L (by simpa using h2) (by simpa using h5) (Nat.le_refl _) (by simpa using h4) (by omega) h3 (by simp) (by simpa using h6) (fun t a b => by omega)
   rw [hid]
   simp only
   have hfo : r.foldl (fun acc a => insA a acc) [] = r := rowOf_self h2
   rw [hfo]
   exact canGo_id p f (i + 1) L' (out ++ [r]) rs (by rw [hp]; simp) (by simp [hi]) h7 (by simpa using hf) (by omega)
theorem canonR_id {p : List (List Ar)} (hn : 0 < p.length) (h : canOK 0 1 p) : (canonR p).1 = p := by
 have hst : ((List.replicate p.length (-1 : Int)).set 0 0) = idNum p.length 1 := by
  apply List.ext_getElem?
  intro t
  rw [List.getElem?_set]
  by_cases ht : t < p.length
  ·rw [idNum_get ht]
   by_cases h0 : 0 = t
   ·subst h0; simp [hn]
   ·rw [if_neg h0]
    simp [ht, show ¬ t < 1 by omega]
  ·rw [List.getElem?_eq_none (by simp; omega), List.getElem?_eq_none (by simp [idNum]; omega)]
   simp only [ite_eq_right_iff]
   intro h3; subst h3; omega
 unfold canonR
 rw [hst, show ([0] : List Int) = idOld 1 from rfl, canGo_id p p.length 0 1 [] p rfl rfl h rfl (by omega)]

/-! what the laws ask -/
theorem canonR_len_pos {rows : List (List Ar)} (hn : 0 < rows.length) (hok : ∀ r ∈ rows, ∀ a ∈ r, 0 ≤ a.2 ∧ a.2 < (rows.length : Int)) : 0 < (canonR rows).1.length := by
 have h := (canonR_ok hn hok (fun _ => True) (fun _ _ _ _ _ => trivial) (fun _ _ => trivial)).1
 have := (canOK_bound _ 0 1 h).1
 omega
theorem canonR_idem {rows : List (List Ar)} (hn : 0 < rows.length) (hok : ∀ r ∈ rows, ∀ a ∈ r, 0 ≤ a.2 ∧ a.2 < (rows.length : Int)) : (canonR (canonR rows).1).1 = (canonR rows).1 :=
 canonR_id (canonR_len_pos hn hok) (canonR_ok hn hok (fun _ => True) (fun _ _ _ _ _ => trivial) (fun _ _ => trivial)).1
end Go.Proofs.Ythlckclbjknldaa
namespace Go.Proofs.Ythlckclbjknldaa
set_option linter.unusedVariables false
set_option linter.unusedSimpArgs false
open Go.RowKit

theorem mem_adj {X : List (List Ar)} (hv : valB X = true) {n m : Nat} : m ∈ Adj true X n ↔ (0, (m : Int)) ∈ X.getD n [] := by
 rw [← adj_eq true hv]
 unfold AdjF tauF
 simp only [List.mem_map, List.mem_filter, Bool.not_true, Bool.false_or, beq_iff_eq]
 constructor
 ·rintro ⟨a, ⟨h1, h2⟩, rfl⟩
  have h3 : 0 ≤ a.2 := by
   rcases Nat.lt_or_ge n X.length with h | h
   ·rw [getD_at h] at h1
    have := (of_decide_eq_true hv).1.2.2.2 _ (List.getElem_mem h) a h1
    omega
   ·rw [List.getD_eq_getElem?_getD, List.getElem?_eq_none h] at h1; simp at h1
  have e : ((0 : Int), ((a.2.toNat : Nat) : Int)) = a := by
   rcases a with ⟨x, y⟩
   simp only at h2 h3 ⊢
   rw [h2]; congr 1; omega
  rw [e]; exact h1
 ·intro h
  exact ⟨_, ⟨h, rfl⟩, by simp⟩
/-- no silent cycles but arcs to the same state -/
def NC (X : List (List Ar)) : Prop := ∀ u w, u < X.length → Rc (Adj true X) u w → Rc (Adj true X) w u → u = w
theorem nc_D {X : List (List Ar)} (h : NC X) {D : List Int} (hD : D.length = X.length) (hL : ∀ v, v < X.length → Least (Adj true X) v (fnL D (-1) v)) : D = idOld X.length := by
 refine least_rows hD (by simp [idOld]) hL fun v hv => ?_
 have e : fnL (idOld X.length) (-1) v = (v : Int) := by rw [fnL_get (by simp [idOld]; exact hv)]; simp [idOld]
 rw [e]
 exact ⟨v, rfl, .refl v, .refl v, fun u h1 h2 => by rw [h v u hv h1 h2]; exact Nat.le_refl _⟩
theorem idOld_get {n t : Nat} (h : t < n) : (idOld n)[t]? = some (t : Int) := by simp [idOld, h]
theorem ixS_id (n : Nat) : ∀ k, k ≤ n → (ixS (idOld n) k).2 = k ∧ ∀ u, u < k → (ixS (idOld n) k).1[u]? = some (u : Int) := by
 intro k
 induction k with
 | zero => intro _; exact ⟨rfl, fun u h => by omega⟩
 | succ k ih =>
  intro hk
  obtain ⟨h1, h2⟩ := ih (by omega)
  unfold ixS
  rw [if_pos (idOld_get (by omega))]
  refine ⟨by simp only; omega, fun u hu => ?_⟩
  simp only
  rw [h1]
  by_cases e : u = k
  ·subst e
   rw [List.getElem?_set_self (by rw [ixS_len]; simp [idOld]; omega)]
  ·rw [List.getElem?_set_ne (by omega)]
   exact h2 u (by omega)
theorem cls_id {n v : Nat} (h : v < n) : clsN (idOld n) v = v := by
 have hl : (idOld n).length = n := by simp [idOld]
 unfold clsN
 rw [hl]
 have e1 : (idOld n).getD v 0 = (v : Int) := by rw [List.getD_eq_getElem?_getD, idOld_get h]; rfl
 rw [e1, Int.toNat_natCast, List.getD_eq_getElem?_getD, (ixS_id n n (Nat.le_refl _)).2 v h]; simp
theorem tlRow_set (f : Nat → Nat) {c : Nat} : ∀ (row : List Ar) (o : List (List Ar)), c < o.length → tlRow f c o row = o.set c (o.getD c [] ++ row.map fun a => (a.1, (f a.2.toNat : Int))) := by
 intro row
 induction row with
 | nil =>
  intro o hc
  rw [List.map_nil, List.append_nil, getD_at hc, List.set_getElem_self]
  rfl
 | cons a r ih =>
  intro o hc
  show tlRow f c (tlA f c o a) r = _
  rw [ih _ (by rw [tlA_len]; exact hc)]
  unfold tlA
  rw [List.set_set]
  congr 1
  rw [List.getD_eq_getElem?_getD, List.getElem?_set_self hc, Option.getD_some, List.map_cons, List.append_assoc]
  rfl
theorem tlOut_id {X : List (List Ar)} {f : Nat → Nat} (hf : ∀ v, v < X.length → f v = v) (hb : ∀ r ∈ X, ∀ a ∈ r, 0 ≤ a.2 ∧ a.2 < (X.length : Int)) : ∀ k, k ≤ X.length → tlOut f X.length X k = X.take k ++ List.replicate (X.length - k) [] := by
 intro k
 induction k with
 | zero => intro _; simp [tlOut]
 | succ k ih =>
  intro hk
  have hkl : k < X.length := hk
  have hl : (X.take k ++ List.replicate (X.length - k) ([] : List Ar)).length = X.length := by simp; omega
  rw [tlOut, ih (by omega), hf k hkl, tlRow_set _ _ _ (by rw [hl]; exact hkl), getD_at hkl]
  have e1 : X[k].map (fun a => (a.1, (f a.2.toNat : Int))) = X[k] := by
   have : ∀ a ∈ X[k], (fun a : Ar => (a.1, (f a.2.toNat : Int))) a = id a := fun a ha => by
    have h := hb _ (List.getElem_mem hkl) a ha
    rcases a with ⟨x, y⟩
    simp only at h ⊢
    rw [hf _ (by omega)]
    show (x, ((y.toNat : Nat) : Int)) = (x, y)
    congr 1; omega
   rw [List.map_congr_left this, List.map_id]
  have e2 : (X.take k ++ List.replicate (X.length - k) ([] : List Ar)).getD k [] = [] := by
   rw [List.getD_eq_getElem?_getD, List.getElem?_append_right (by simp; omega)]
   rw [List.length_take, Nat.min_eq_left (by omega), Nat.sub_self, List.getElem?_replicate]
   split <;> rfl
  rw [e1, e2, List.nil_append]
  obtain ⟨m, hm⟩ : ∃ m, X.length - k = m + 1 := ⟨X.length - k - 1, by omega⟩
  have hm2 : X.length - (k + 1) = m := by omega
  rw [hm, hm2, List.take_succ_eq_append_getElem hkl, List.set_append_right _ _ (by simp; omega)]
  rw [List.length_take, Nat.min_eq_left (by omega), Nat.sub_self, List.replicate_succ, List.set_cons_zero]
  simp only [List.append_assoc, List.singleton_append]
/-- TauLoops leaves such a system -/
theorem tl_id {X : List (List Ar)} (hv : valB X = true) (h : NC X) {D : List Int} (hD : D.length = X.length) (hL : ∀ v, v < X.length → Least (Adj true X) v (fnL D (-1) v)) : tlOut (clsN D) (ixS D X.length).2 X X.length = X := by
 rw [nc_D h hD hL, (ixS_id X.length X.length (Nat.le_refl _)).1]
 have hp := (of_decide_eq_true hv).1
 rw [tlOut_id (fun v hv => cls_id hv) (fun r hr a ha => by have := hp.2.2.2 r hr a ha; omega) _ (Nat.le_refl _)]
 simp
theorem mem_tlRow {f : Nat → Nat} {c d : Nat} {a : Ar} {row : List Ar} {o : List (List Ar)} (h : a ∈ (tlRow f c o row).getD d []) : a ∈ o.getD d [] ∨ (d = c ∧ ∃ b ∈ row, a = (b.1, (f b.2.toNat : Int))) := by
 by_cases hc : c < o.length
 ·rw [tlRow_set f row o hc, List.getD_eq_getElem?_getD] at h
  by_cases e : c = d
  ·subst e
   rw [List.getElem?_set_self hc, Option.getD_some] at h
   rcases List.mem_append.1 h with h | h
   ·exact .inl h
   ·obtain ⟨b, hb, rfl⟩ := List.mem_map.1 h
    exact .inr ⟨rfl, b, hb, rfl⟩
  ·rw [List.getElem?_set_ne e, ← List.getD_eq_getElem?_getD] at h
   exact .inl h
 ·have : ∀ (row : List Ar), tlRow f c o row = o := by
   intro row
   induction row with
   | nil => rfl
   | cons a r ih =>
    show tlRow f c (tlA f c o a) r = o
    have e : tlA f c o a = o := by unfold tlA; exact List.set_eq_of_length_le (by omega)
    rw [e, ih]
  rw [this] at h
  exact .inl h
theorem mem_tlOut {f : Nat → Nat} {m d : Nat} {a : Ar} {R : List (List Ar)} : ∀ k, a ∈ (tlOut f m R k).getD d [] → ∃ s, s < k ∧ f s = d ∧ ∃ b ∈ R.getD s [], a = (b.1, (f b.2.toNat : Int)) := by
 intro k
 induction k with
 | zero =>
  intro h
  rw [tlOut, List.getD_eq_getElem?_getD, List.getElem?_replicate] at h
  split at h <;> simp at h
 | succ k ih =>
  intro h
  rw [tlOut] at h
  rcases mem_tlRow h with h | ⟨e, h⟩
  ·obtain ⟨s, h1, h2⟩ := ih h
   exact ⟨s, by omega, h2⟩
  ·exact ⟨k, by omega, e.symm, h⟩
theorem ixS_inj (C : List Int) (k : Nat) (hk : k ≤ C.length) : ∀ u w, u < k → w < k → C[u]? = some (u : Int) → C[w]? = some (w : Int) → (ixS C k).1[u]? = (ixS C k).1[w]? → u = w := by
 induction k with
 | zero => intro u w h; omega
 | succ k ih =>
  intro u w hu hw hcu hcw
  unfold ixS
  split
  ·rename_i h
   simp only
   have hl : k < (ixS C k).1.length := by rw [ixS_len]; omega
   rcases Nat.lt_or_ge u k with h1 | h1
   ·rcases Nat.lt_or_ge w k with h2 | h2
    ·rw [List.getElem?_set_ne (by omega), List.getElem?_set_ne (by omega)]
     exact ih (by omega) u w h1 h2 hcu hcw
    ·have e : w = k := by omega
     subst e
     obtain ⟨j, q1, q2⟩ := ixS_ok C w (by omega) u h1 hcu
     rw [List.getElem?_set_ne (by omega), List.getElem?_set_self hl, q2]
     intro h; injection h with h; omega
   ·have e : u = k := by omega
    subst e
    rcases Nat.lt_or_ge w u with h2 | h2
    ·obtain ⟨j, q1, q2⟩ := ixS_ok C u (by omega) w h2 hcw
     rw [List.getElem?_set_self hl, List.getElem?_set_ne (by omega), q2]
     intro h; injection h with h; omega
    ·intro _; omega
  ·rename_i h
   rcases Nat.lt_or_ge u k with h1 | h1
   ·rcases Nat.lt_or_ge w k with h2 | h2
    ·exact ih (by omega) u w h1 h2 hcu hcw
    ·have e : w = k := by omega
     subst e
     exact absurd hcw h
   ·have e : u = k := by omega
    subst e
    exact absurd hcu h
theorem ixS_sur (C : List Int) (k : Nat) (hk : k ≤ C.length) : ∀ j, j < (ixS C k).2 → ∃ u, u < k ∧ C[u]? = some (u : Int) ∧ (ixS C k).1[u]? = some (j : Int) := by
 induction k with
 | zero => intro j h; simp [ixS] at h
 | succ k ih =>
  intro j
  unfold ixS
  split
  ·rename_i h
   simp only
   have hl : k < (ixS C k).1.length := by rw [ixS_len]; omega
   intro hj
   rcases Nat.lt_or_ge j (ixS C k).2 with h1 | h1
   ·obtain ⟨u, q1, q2, q3⟩ := ih (by omega) j h1
    exact ⟨u, by omega, q2, by rw [List.getElem?_set_ne (by omega)]; exact q3⟩
   ·have e : j = (ixS C k).2 := by omega
    subst e
    exact ⟨k, by omega, h, by rw [List.getElem?_set_self hl]⟩
  ·intro hj
   obtain ⟨u, q1, q2, q3⟩ := ih (by omega) j hj
   exact ⟨u, by omega, q2, q3⟩
/-- what TauLoops gives has no silent cycles -/
theorem tl_nc {R : List (List Ar)} {D : List Int} (hv : valB R = true) (hD : D.length = R.length) (hL : ∀ v, v < R.length → Least (Adj true R) v (fnL D (-1) v)) : NC (canonR (tlOut (clsN D) (ixS D R.length).2 R R.length)).1 := by
 have hvF := tl_val hv hD hL
 have hlo : looB R = true := decide_eq_true (of_decide_eq_true hv).1
 have hp : LooP R := of_decide_eq_true hlo
 have hrep := least_rep (adj_lt true hlo) hD hL
 have hfm : ∀ v, v < R.length → clsN D v < (ixS D R.length).2 := fun v hv => by obtain ⟨_, _, _, h, _⟩ := cls_ok hD hrep hv; exact h
 have hTl := tlOut_len (clsN D) (ixS D R.length).2 R R.length
 have hTP := tlOut_P (f := clsN D) (m := (ixS D R.length).2) (R := R) (fun r hr0 a ha => by
  have h := hp.2.2.2 r hr0 a ha
  exact ⟨h.1, h.2.1, hfm _ (by omega)⟩) R.length (Nat.le_refl _)
 -- states of one number reach each other
 have hcl : ∀ u w, u < R.length → w < R.length → clsN D u = clsN D w → Rc (Adj true R) u w := by
  intro u w hu hw e
  obtain ⟨m, h1, h2, h5⟩ := hrep u hu
  obtain ⟨m1, _, h2x, h3, h4⟩ := cls_ok hD hrep hu
  obtain ⟨m', h1', h2', h5'⟩ := hrep w hw
  obtain ⟨m2, _, h2y, h3', h4'⟩ := cls_ok hD hrep hw
  have em1 : m1 = m := by rw [h2] at h2x; injection h2x with h2x; omega
  have em2 : m2 = m' := by rw [h2'] at h2y; injection h2y with h2y; omega
  subst em1; subst em2
  have hmm : m1 = m2 := ixS_inj D R.length (by omega) m1 m2 h1 h1' h5 h5' (by rw [h4, h4', e])
  subst hmm
  obtain ⟨x, ex, q1, q2, _⟩ := hL u hu
  obtain ⟨y, ey, p1, p2, _⟩ := hL w hw
  have e1 : fnL D (-1) u = (m1 : Int) := by unfold fnL; rw [h2]; rfl
  have e2 : fnL D (-1) w = (m1 : Int) := by unfold fnL; rw [h2']; rfl
  have : x = y := by omega
  subst this
  exact q1.trans p2
 generalize hT : tlOut (clsN D) (ixS D R.length).2 R R.length = T at *
 have hmem : ∀ d a, a ∈ T.getD d [] → ∃ s, s < R.length ∧ clsN D s = d ∧ ∃ b ∈ R.getD s [], a = (b.1, (clsN D b.2.toNat : Int)) := fun d a h => by rw [← hT] at h; exact mem_tlOut _ h
 have h1 : 1 ≤ T.length := by rw [hTl]; have := hfm 0 hp.1; omega
 obtain ⟨num, k1, k2, k3, k4, k5, k6⟩ := canonR_str (R := T) h1 (fun r hr a ha => by rw [hTl]; have := hTP r hr a ha; exact ⟨this.2.2.1, this.2.2.2⟩)
 generalize hF : (canonR T).1 = F at *
 generalize hO : (canonR T).2 = old at *
 -- a silent path upstairs has one downstairs
 have hpath : ∀ u w, Rc (Adj true F) u w → ∀ s : Nat, old[u]? = some (s : Int) → ∀ v, v < R.length → clsN D v = s → ∃ t v' : Nat, old[w]? = some (t : Int) ∧ v' < R.length ∧ clsN D v' = t ∧ Rc (Adj true R) v v' := by
  intro u w h
  induction h with
  | refl => intro s hs v hv hc; exact ⟨s, v, hs, hv, hc, .refl v⟩
  | tail _ h2 ih =>
   rename_i x y hx
   intro s hs v hv0 hc
   obtain ⟨t, v', g1, g2, g3, g4⟩ := ih s hs v hv0 hc
   have hxl : x < F.length := by rw [k4]; exact (List.getElem?_eq_some_iff.1 g1).1
   rw [mem_adj hvF, getD_at hxl] at h2
   obtain ⟨e1, e2⟩ := k6 x t _ g1 (List.getElem?_eq_getElem hxl)
   rw [e1, mem_rowOf] at h2
   obtain ⟨b, hb, eb⟩ := List.mem_map.1 h2
   rw [mem_rowOf] at hb
   obtain ⟨z, hz, hzp⟩ := e2 b hb
   have hin := k2.inj _ _ hz hzp
   rw [Int.toNat_natCast] at hb
   obtain ⟨p, hp1, hp2, c, hc1, hc2⟩ := hmem t b hb
   have eb1 := congrArg Prod.fst eb
   have eb2 := congrArg Prod.snd eb
   simp only [List.getD_eq_getElem?_getD, hz, Option.getD_some] at eb1 eb2
   rw [hc2] at hin eb1
   simp only at hin eb1
   rw [eb2, Int.toNat_natCast, Int.toNat_natCast] at hin
   have hc3 : (0, ((c.2.toNat : Nat) : Int)) ∈ R.getD p [] := by
    have hb2 := hp.2.2.2 _ (List.getElem_mem hp1) c (by rw [← getD_at hp1]; exact hc1)
    have e : ((0 : Int), ((c.2.toNat : Nat) : Int)) = c := by
     rcases c with ⟨x1, y1⟩
     simp only at eb1 hb2 ⊢
     rw [eb1]; congr 1; omega
    rw [e]; exact hc1
   have hcl2 : c.2.toNat < R.length := by
    have hb2 := hp.2.2.2 _ (List.getElem_mem hp1) c (by rw [← getD_at hp1]; exact hc1)
    omega
   exact ⟨_, c.2.toNat, hin, hcl2, rfl, (g4.trans (hcl v' p g2 hp1 (by rw [g3, hp2]))).tail ((mem_adj hv).2 hc3)⟩
 intro u w hu huw hwu
 have huo : u < old.length := by rw [← k4]; exact hu
 have hs0 := k1.st old[u] (List.getElem_mem huo)
 obtain ⟨s, hs⟩ : ∃ s : Nat, old[u] = (s : Int) := ⟨old[u].toNat, by omega⟩
 have hus : old[u]? = some (s : Int) := by rw [List.getElem?_eq_getElem huo, hs]
 -- each number has a state
 obtain ⟨v, hv1, hv2⟩ : ∃ v, v < R.length ∧ clsN D v = s := by
  obtain ⟨v, q1, q2, q3⟩ := ixS_sur D R.length (by omega) s (by omega)
  refine ⟨v, q1, ?_⟩
  unfold clsN
  have e1 : D.getD v 0 = (v : Int) := by rw [List.getD_eq_getElem?_getD, q2]; rfl
  rw [e1, hD, Int.toNat_natCast, List.getD_eq_getElem?_getD, q3]; simp
 obtain ⟨t, v', g1, g2, g3, g4⟩ := hpath u w huw s hus v hv1 hv2
 obtain ⟨s', v'', f1, f2, f3, f4⟩ := hpath w u hwu t g1 v' g2 g3
 have es : s' = s := by rw [hus] at f1; injection f1 with f1; omega
 have hback : Rc (Adj true R) v' v := f4.trans (hcl v'' v f2 hv1 (by rw [f3, es, hv2]))
 have hDD : D[v]? = D[v']? := by
  obtain ⟨x, ex, q1, q2, q3⟩ := hL v hv1
  obtain ⟨y, ey, p1, p2, p3⟩ := hL v' g2
  have l1 := q3 y (g4.trans p1) (p2.trans hback)
  have l2 := p3 x (hback.trans q1) (q2.trans g4)
  have e : x = y := by omega
  subst e
  rw [fnL_get (by omega)] at ex ey
  rw [List.getElem?_eq_getElem (by omega), List.getElem?_eq_getElem (by omega), ex, ey]
 have hst : s = t := by
  rw [← hv2, ← g3]
  unfold clsN
  rw [List.getD_eq_getElem?_getD, List.getD_eq_getElem?_getD, List.getD_eq_getElem?_getD, List.getD_eq_getElem?_getD, hDD]
 subst hst
 have a1 := (k3 u s hus).2
 have a2 := (k3 w s g1).2
 rw [a1] at a2
 injection a2 with a2
 omega
end Go.Proofs.Ythlckclbjknldaa
namespace Go.Proofs.Ythlckclbjknldaa
set_option linter.unusedVariables false
set_option linter.unusedSimpArgs false
open Go.RowKit

theorem acP_ext {r q : List Ar} (h1 : SortA r) (h2 : SortA q) (h01 : ∀ a ∈ r, 0 ≤ a.1) (h02 : ∀ a ∈ q, 0 ≤ a.1) (h : ∀ x, (∃ a ∈ r, a.1 = x) ↔ ∃ a ∈ q, a.1 = x) : accP r = accP q := by
 rw [acc_eq h1 h01, acc_eq h2 h02]
 have : inR r = inR q := asc_ext (inR_lt r) (inR_lt q) fun x => by rw [mem_inR, mem_inR, h]
 unfold accR
 rw [this]
/-- silent arcs to other states lead to stable ones, whose arcs are there, with acceptances none of which lies in another -/
def QX (X : List (List Ar)) : Prop := ∀ n m : Nat, (0, (m : Int)) ∈ X.getD n [] → m ≠ n → m < X.length ∧ stS X m = true ∧ (∀ a ∈ X.getD m [], a ∈ X.getD n []) ∧ ∀ k : Nat, (0, (k : Int)) ∈ X.getD n [] → k ≠ n → k ≠ m → ¬ ∀ x ∈ acS X m, x ∈ acS X k
theorem getD_no {X : List (List Ar)} {n : Nat} (h : X.length ≤ n) : X.getD n [] = [] := by rw [List.getD_eq_getElem?_getD, List.getElem?_eq_none h]; rfl
theorem val_ge {X : List (List Ar)} (hv : valB X = true) {n : Nat} {a : Ar} (h : a ∈ X.getD n []) : 0 ≤ a.1 ∧ 0 ≤ a.2 ∧ a.2 < (X.length : Int) ∧ n < X.length := by
 rcases Nat.lt_or_ge n X.length with hn | hn
 ·rw [getD_at hn] at h
  have := (of_decide_eq_true hv).1.2.2.2 _ (List.getElem_mem hn) a h
  omega
 ·rw [getD_no hn] at h; simp at h
theorem q_cl {X : List (List Ar)} (hv : valB X = true) (h : QX X) {n : Nat} (hn : n < X.length) {u : Nat} : u ∈ sclo X n ↔ u = n ∨ (u ≠ n ∧ (0, (u : Int)) ∈ X.getD n []) := by
 unfold sclo
 rw [mem_ordN]
 simp only [decide_eq_true_eq]
 constructor
 ·rintro ⟨h0, h1⟩
  clear h0
  induction h1 with
  | refl => exact .inl rfl
  | tail _ h2 ih =>
   rename_i x y _
   rw [mem_adj hv] at h2
   by_cases e : y = n
   ·exact .inl e
   ·rcases ih with rfl | ⟨h3, h4⟩
    ·exact .inr ⟨e, h2⟩
    ·obtain ⟨q1, q2, _, _⟩ := h n x h4 h3
     exact absurd rfl (st_no hv q1 q2 _ h2)
 ·rintro (rfl | ⟨h1, h2⟩)
  ·exact ⟨hn, .refl _⟩
  ·exact ⟨(h n u h2 h1).1, .one ((mem_adj hv).2 h2)⟩
theorem dm_same {X : List (List Ar)} (hv : valB X = true) (h : QX X) {n : Nat} (hn : n < X.length) (a : Ar) : a ∈ dmRow X n ↔ a ∈ X.getD n [] := by
 unfold dmRow
 split
 ·exact Iff.rfl
 ·rename_i hs
  have hs : ¬ stS X n = true := hs
  have hcl : ∀ u, u ∈ sclo X n ↔ u = n ∨ (u ≠ n ∧ (0, (u : Int)) ∈ X.getD n []) := fun u => q_cl hv h hn
  have hcl2 := sclo_lt (F := X) (n := n)
  generalize sclo X n = cl at *
  have hA : ∀ s ∈ (unM X cl).map (·.1), Asc s := fun s h => by
   obtain ⟨t, ht, rfl⟩ := List.mem_map.1 ((un_keys s).1 h)
   exact acS_asc hv (hcl2 t (List.mem_filter.1 ht).1)
  have hf := fun x => findL_un (F := X) (x := x) cl []
  simp only [show ∀ x, findL x ([] : Lm) = none from fun _ => rfl] at hf
  have hst : ∀ t, t ∈ cl → stS X t = true → t ≠ n ∧ (0, (t : Int)) ∈ X.getD n [] := fun t ht hts => by
   rcases (hcl t).1 ht with rfl | h
   ·exact absurd hts hs
   ·exact h
  have hfi : ∀ x t, findL x (unM X cl) = some t → t ≠ n ∧ (0, (t : Int)) ∈ X.getD n [] ∧ acS X t = x := fun x t ht => by
   have h1 : (cl.find? fun s => stS X s && decide (acS X s = x)) = some t := by rw [← hf x]; exact ht
   have h2 := List.find?_some h1
   simp only [Bool.and_eq_true, decide_eq_true_eq] at h2
   obtain ⟨h3, h4⟩ := hst t (List.mem_of_find?_eq_some h1) h2.1
   exact ⟨h3, h4, h2.2⟩
  rw [unS, List.mem_append]
  constructor
  ·rintro (h1 | h1)
   ·obtain ⟨s, h2, h3⟩ := List.mem_flatMap.1 h1
    obtain ⟨b, hb, h4⟩ := List.mem_filterMap.1 h3
    unfold unA1 at h4
    rcases (hcl s).1 h2 with rfl | ⟨g1, g2⟩
    ·split at h4
     ·injection h4 with h4; subst h4; exact hb
     ·split at h4
      ·rename_i e1 e2
       injection h4 with h4
       have : b = (0, (s : Int)) := by
        rcases b with ⟨x, y⟩
        simp only [ne_eq, Decidable.not_not] at e1 e2
        rw [e1, e2]
       rw [← h4, ← this]; exact hb
      ·cases h4
    ·obtain ⟨q1, q2, q3, _⟩ := h n s g2 g1
     split at h4
     ·injection h4 with h4; subst h4; exact q3 b hb
     ·rename_i e1
      exact absurd (by simpa using e1) (st_no hv q1 q2 b hb)
   ·obtain ⟨x, hx, rfl⟩ := List.mem_map.1 h1
    obtain ⟨t, ht⟩ := findL_mem (minR_sub hx)
    simp only [unE, ht, Option.getD_some]
    exact (hfi x t ht).2.1
  ·intro ha
   by_cases h0 : a.1 = 0
   ·have hb := val_ge hv ha
    obtain ⟨m, rfl⟩ : ∃ m : Nat, a = (0, (m : Int)) := ⟨a.2.toNat, by
     rcases a with ⟨x, y⟩
     simp only at h0 hb ⊢
     rw [h0]; congr 1; omega⟩
    by_cases e : m = n
    ·subst e
     refine .inl (List.mem_flatMap.2 ⟨m, (hcl m).2 (.inl rfl), List.mem_filterMap.2 ⟨_, ha, ?_⟩⟩)
     unfold unA1
     simp
    ·obtain ⟨q1, q2, q3, q4⟩ := h n m ha e
     have hmc : m ∈ cl := (hcl m).2 (.inr ⟨e, ha⟩)
     have hk : acS X m ∈ (unM X cl).map (·.1) := (un_keys _).2 (List.mem_map.2 ⟨m, List.mem_filter.2 ⟨hmc, q2⟩, rfl⟩)
     refine .inr (List.mem_map.2 ⟨acS X m, (mem_minR hA _).2 ⟨hk, (leastB_iff hA (hA _ hk)).2 fun o ho hsub => ?_⟩, ?_⟩)
     ·obtain ⟨t, ht, rfl⟩ := List.mem_map.1 ((un_keys o).1 ho)
      obtain ⟨t1, t2⟩ := List.mem_filter.1 ht
      obtain ⟨t3, t4⟩ := hst t t1 t2
      by_cases et : t = m
      ·rw [et]
      ·exact absurd hsub ((h n t t4 t3).2.2.2 m ha e (Ne.symm et))
     ·obtain ⟨t, ht⟩ := findL_mem hk
      obtain ⟨t3, t4, t5⟩ := hfi _ t ht
      simp only [unE, ht, Option.getD_some]
      by_cases et : t = m
      ·rw [et]
      ·exact absurd (fun x hx => by rw [t5] at hx; exact hx) ((h n t t4 t3).2.2.2 m ha e (Ne.symm et))
   ·refine .inl (List.mem_flatMap.2 ⟨n, (hcl n).2 (.inl rfl), List.mem_filterMap.2 ⟨_, ha, ?_⟩⟩)
    unfold unA1
    rw [if_pos h0]
theorem dm_id {X : List (List Ar)} (hv : valB X = true) (h : QX X) : canonR (dmR X) = canonR X := by
 have hl : (dmR X).length = X.length := dmL_len X X.length
 refine canonR_ext hl fun i => ?_
 rcases Nat.lt_or_ge i X.length with hi | hi
 ·have h1 : (dmR X).getD i [] = dmRow X i := by simp [dmR, dmL, List.getD_eq_getElem?_getD, hi]
  rw [h1]
  exact rowOf_ext (dm_same hv h hi)
 ·rw [getD_no hi, getD_no (by omega)]
/-- one round of Diamond, before the numbering -/
theorem dm_q {F : List (List Ar)} (hv : valB F = true) {n m : Nat} (hn : n < F.length) (h : (0, (m : Int)) ∈ dmRow F n) (hne : m ≠ n) : m < F.length ∧ stS F m = true ∧ (∀ a ∈ F.getD m [], a ∈ dmRow F n) ∧ ∀ k : Nat, (0, (k : Int)) ∈ dmRow F n → k ≠ n → k ≠ m → ¬ ∀ x ∈ acS F m, x ∈ acS F k := by
 unfold dmRow at h ⊢
 split at h
 ·rename_i hs
  exact absurd rfl (st_no hv hn hs _ h)
 ·rename_i hs
  rw [if_neg hs]
  have hcl2 := sclo_lt (F := F) (n := n)
  generalize sclo F n = cl at *
  have hA : ∀ s ∈ (unM F cl).map (·.1), Asc s := fun s h => by
   obtain ⟨t, ht, rfl⟩ := List.mem_map.1 ((un_keys s).1 h)
   exact acS_asc hv (hcl2 t (List.mem_filter.1 ht).1)
  have hf := fun x => findL_un (F := F) (x := x) cl []
  simp only [show ∀ x, findL x ([] : Lm) = none from fun _ => rfl] at hf
  have key : ∀ k : Nat, (0, (k : Int)) ∈ unS F n cl → k ≠ n → k ∈ cl ∧ stS F k = true ∧ acS F k ∈ minR ((unM F cl).map (·.1)) ∧ findL (acS F k) (unM F cl) = some k := by
   intro k hk hkn
   rcases List.mem_append.1 hk with h1 | h1
   ·obtain ⟨s, h2, h3⟩ := List.mem_flatMap.1 h1
    obtain ⟨b, hb, h4⟩ := List.mem_filterMap.1 h3
    unfold unA1 at h4
    split at h4
    ·rename_i e; injection h4 with h4; rw [h4] at e; exact absurd rfl e
    ·split at h4
     ·injection h4 with h4
      have := congrArg Prod.snd h4
      simp only at this
      omega
     ·cases h4
   ·obtain ⟨x, hx, e⟩ := List.mem_map.1 h1
    obtain ⟨t, ht⟩ := findL_mem (minR_sub hx)
    simp only [unE, ht, Option.getD_some, Prod.mk.injEq, true_and] at e
    have e2 : t = k := by omega
    subst e2
    have h1 : (cl.find? fun s => stS F s && decide (acS F s = x)) = some t := by rw [← hf x]; exact ht
    have h2 := List.find?_some h1
    simp only [Bool.and_eq_true, decide_eq_true_eq] at h2
    rw [h2.2]
    exact ⟨List.mem_of_find?_eq_some h1, h2.1, hx, ht⟩
  obtain ⟨k1, k2, k3, k4⟩ := key m h hne
  refine ⟨hcl2 m k1, k2, fun a ha => ?_, fun k hk hkn hkm hsub => ?_⟩
  ·refine List.mem_append_left _ (List.mem_flatMap.2 ⟨m, k1, List.mem_filterMap.2 ⟨a, ha, ?_⟩⟩)
   unfold unA1
   rw [if_pos (st_no hv (hcl2 m k1) k2 a ha)]
  ·obtain ⟨j1, j2, j3, j4⟩ := key k hk hkn
   have h1 := (mem_minR hA _).1 j3
   have h2 := (leastB_iff hA (hA _ h1.1)).1 h1.2 _ (minR_sub k3) hsub
   rw [← h2, k4] at j4
   injection j4 with j4
   omega
theorem dm_QX {F : List (List Ar)} (hv : valB F = true) (hvx : valB (canonR (dmR F)).1 = true) : QX (canonR (dmR F)).1 := by
 have hlo : looB F = true := decide_eq_true (of_decide_eq_true hv).1
 have hp : LooP F := of_decide_eq_true hlo
 have hbd := dm_bd hlo
 have hl : (dmR F).length = F.length := dmL_len F F.length
 have hF1 := hp.1
 obtain ⟨num, k1, k2, k3, k4, k5, k6⟩ := canonR_str (R := dmR F) (by omega) (fun r hr a ha => by have := (hbd r hr).1 a ha; exact ⟨this.2.2.1, this.2.2.2⟩)
 have hg : ∀ s, s < F.length → (dmR F).getD s [] = dmRow F s := fun s hs => by simp [dmR, dmL, List.getD_eq_getElem?_getD, hs]
 generalize hX : (canonR (dmR F)).1 = X at *
 generalize hO : (canonR (dmR F)).2 = old at *
 -- the row of a state of the result
 have hrow : ∀ (j s : Nat), old[j]? = some (s : Int) → s < F.length ∧ j < X.length ∧ (∀ a, a ∈ X.getD j [] ↔ ∃ b ∈ dmRow F s, a = (b.1, num.getD b.2.toNat 0)) ∧ ∀ b ∈ dmRow F s, ∃ x : Nat, num[b.2.toNat]? = some (x : Int) ∧ old[x]? = some (b.2.toNat : Int) := by
  intro j s hj
  have hjl := (List.getElem?_eq_some_iff.1 hj).1
  have hs0 := k1.st _ (List.mem_of_getElem? hj)
  rw [hl] at hs0
  have hsl : s < F.length := by omega
  have hjx : j < X.length := by omega
  obtain ⟨e1, e2⟩ := k6 j s _ hj (List.getElem?_eq_getElem hjx)
  rw [Int.toNat_natCast, hg s hsl] at e1 e2
  refine ⟨hsl, hjx, fun a => ?_, fun b hb => ?_⟩
  ·rw [getD_at hjx, e1, mem_rowOf, List.mem_map]
   constructor
   ·rintro ⟨b, hb, rfl⟩
    exact ⟨b, (mem_rowOf _ _).1 hb, rfl⟩
   ·rintro ⟨b, hb, rfl⟩
    exact ⟨b, (mem_rowOf _ _).2 hb, rfl⟩
  ·obtain ⟨x, hx, hxp⟩ := e2 b hb
   have := k2.inj _ _ hx hxp
   exact ⟨x.toNat, by rw [hx]; congr 1; omega, this⟩
 have hstab : ∀ (j s : Nat), old[j]? = some (s : Int) → stS F s = true → dmRow F s = F.getD s [] := fun j s _ h => by
  unfold dmRow; rw [if_pos (show stB (F.getD s []) = true from h)]
 have hacc : ∀ (j s : Nat), old[j]? = some (s : Int) → stS F s = true → stS X j = true ∧ acS X j = acS F s := by
  intro j s hj hs
  obtain ⟨h1, h2, h3, h4⟩ := hrow j s hj
  have hd := hstab j s hj hs
  rw [hd] at h3
  have hev : ∀ x, (∃ a ∈ X.getD j [], a.1 = x) ↔ ∃ a ∈ F.getD s [], a.1 = x := fun x => by
   constructor
   ·rintro ⟨a, ha, rfl⟩
    obtain ⟨b, hb, rfl⟩ := (h3 a).1 ha
    exact ⟨b, hb, rfl⟩
   ·rintro ⟨b, hb, rfl⟩
    exact ⟨_, (h3 _).2 ⟨b, hb, rfl⟩, rfl⟩
  have g1 := val_row hvx h2
  have g2 := val_row hv h1
  rw [← getD_at h2] at g1
  rw [← getD_at h1] at g2
  refine ⟨?_, ?_⟩
  ·unfold stS
   rw [stB_eq g1.1 fun a ha => (g1.2 a ha).1]
   simp only [Bool.not_eq_true', decide_eq_false_iff_not, mem_inR]
   intro hx
   obtain ⟨a, ha, e⟩ := (hev 0).1 hx
   exact st_no hv h1 hs a ha e
  ·unfold acS
   rw [acP_ext g1.1 g2.1 (fun a ha => (g1.2 a ha).1) (fun a ha => (g2.2 a ha).1) hev]
 intro n m hm hne
 have hnl := (val_ge hvx hm).2.2.2
 have hno : n < old.length := by omega
 obtain ⟨s, hs⟩ : ∃ s : Nat, old[n]? = some (s : Int) := ⟨old[n].toNat, by
  have := k1.st _ (List.getElem_mem hno)
  rw [List.getElem?_eq_getElem hno]; congr 1; omega⟩
 obtain ⟨h1, h2, h3, h4⟩ := hrow n s hs
 have hdown : ∀ k : Nat, (0, (k : Int)) ∈ X.getD n [] → k ≠ n → ∃ t : Nat, (0, (t : Int)) ∈ dmRow F s ∧ t ≠ s ∧ old[k]? = some (t : Int) := by
  intro k hk hkn
  obtain ⟨b, hb, e⟩ := (h3 _).1 hk
  obtain ⟨x, hx, hox⟩ := h4 b hb
  have e1 := congrArg Prod.fst e
  have e2 := congrArg Prod.snd e
  simp only [List.getD_eq_getElem?_getD, hx, Option.getD_some] at e1 e2
  have ex : x = k := by omega
  subst ex
  have hb2 : 0 ≤ b.2 := by
   have hs2 : dmRow F s ∈ dmR F := List.mem_map.2 ⟨s, by simpa using h1, rfl⟩
   have := (hbd _ hs2).1 b hb
   omega
  refine ⟨b.2.toNat, ?_, fun es => ?_, hox⟩
  ·have : b = (0, ((b.2.toNat : Nat) : Int)) := by
    rcases b with ⟨p, q⟩
    simp only at e1 hb2 ⊢
    rw [← e1]; congr 1; omega
   rw [← this]; exact hb
  ·rw [es] at hox
   have a1 := (k3 x s hox).2
   have a2 := (k3 n s hs).2
   rw [a1] at a2
   injection a2 with a2
   omega
 obtain ⟨t, t1, t2, t3⟩ := hdown m hm hne
 obtain ⟨d1, d2, d3, d4⟩ := dm_q hv h1 t1 t2
 obtain ⟨r1, r2, r3, r4⟩ := hrow m t t3
 obtain ⟨s1, s2⟩ := hacc m t t3 d2
 refine ⟨r2, s1, fun a ha => ?_, fun k hk hkn hkm hsub => ?_⟩
 ·obtain ⟨b, hb, rfl⟩ := (r3 a).1 ha
  rw [hstab m t t3 d2] at hb
  exact (h3 _).2 ⟨b, d3 b hb, rfl⟩
 ·obtain ⟨t', u1, u2, u3⟩ := hdown k hk hkn
  obtain ⟨v1, v2, _, _⟩ := dm_q hv h1 u1 u2
  obtain ⟨w1, w2⟩ := hacc k t' u3 v2
  rw [s2, w2] at hsub
  refine d4 t' u1 u2 (fun e => hkm ?_) hsub
  subst e
  have a1 := (k3 m t' t3).2
  have a2 := (k3 k t' u3).2
  rw [a1] at a2
  injection a2 with a2
  omega
/-- what Diamond gives has no silent cycles -/
theorem q_nc {X : List (List Ar)} (hv : valB X = true) (h : QX X) : NC X := by
 have key : ∀ u w, Rc (Adj true X) u w → u = w ∨ (u ≠ w ∧ (0, (w : Int)) ∈ X.getD u []) := by
  intro u w h1
  induction h1 with
  | refl => exact .inl rfl
  | tail _ h2 ih =>
   rename_i x y _
   rw [mem_adj hv] at h2
   by_cases e : u = y
   ·exact .inl e
   ·rcases ih with rfl | ⟨h3, h4⟩
    ·exact .inr ⟨e, h2⟩
    ·obtain ⟨q1, q2, _, _⟩ := h u x h4 (Ne.symm h3)
     exact absurd rfl (st_no hv q1 q2 _ h2)
 intro u w _ h1 h2
 rcases key u w h1 with e | ⟨e, h3⟩
 ·exact e
 ·rcases key w u h2 with e2 | ⟨_, h4⟩
  ·exact e2.symm
  ·obtain ⟨q1, q2, _, _⟩ := h u w h3 (Ne.symm e)
   exact absurd rfl (st_no hv q1 q2 _ h4)
end Go.Proofs.Ythlckclbjknldaa
