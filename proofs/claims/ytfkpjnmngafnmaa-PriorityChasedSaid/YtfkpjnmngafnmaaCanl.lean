/- The canonical form of a canonical form is itself. -/
import Derived.Test.YtfkpjnmngafnmaaCan3
namespace Go.Proofs.Ytfkpjnmngafnmaa
set_option linter.unusedVariables false
set_option linter.unusedSimpArgs false
open Go.RowKit
/-- whatever number is new has its elder behind no later event -/
def Cl (L : Int) (q : List Arc) : Prop := ∀ a ∈ q, L < a.2 → ∃ b ∈ q, b.1 ≤ a.1 ∧ b.2 = a.2 - 1
/-- a system in canonical form, from state i on, L numbers being known -/
def canOK : Nat → Nat → List (List Arc) → Prop
  | i, L, [] => L = i
  | i, L, r :: rs => i < L ∧ Sorted r ∧ ∃ L', L ≤ L' ∧ (∀ a ∈ r, 0 ≤ a.2 ∧ a.2 < (L' : Int)) ∧ Cl L r ∧ (∀ t : Nat, L ≤ t → t < L' → ∃ a ∈ r, a.2 = (t : Int)) ∧ canOK (i + 1) L' rs

theorem rowOf_self {r : List Arc} (h : Sorted r) : rowOf r = r := sorted_ext (rowOf_sorted r) h (mem_rowOf r)
/-- what the numbering of a row gives: events as they were; numbers below the new count; each new number is there, in the order of the events -/
theorem numL_spec : ∀ (r : List Arc) {n : Nat} {num old : List Int} (L0 : Nat) (P : List Arc), NumOk n num old → NumInj num old → (r.Pairwise fun a b => a.1 ≤ b.1) → (∀ a ∈ r, 0 ≤ a.2 ∧ a.2 < (n : Int)) → L0 ≤ old.length →
    (∀ t : Nat, L0 ≤ t → t < old.length → ∃ b ∈ P, b.2 = (t : Int) ∧ ∀ a ∈ r, b.1 ≤ a.1) →
    (∀ t : Nat, L0 ≤ t → t < (numL r num old).2.1.length → ∃ b ∈ P ++ (numL r num old).2.2, b.2 = (t : Int)) ∧
    (∀ a ∈ (numL r num old).2.2, 0 ≤ a.2 ∧ a.2 < ((numL r num old).2.1.length : Int) ∧ (∃ b ∈ r, b.1 = a.1) ∧ ((L0 : Int) < a.2 → ∃ b ∈ P ++ (numL r num old).2.2, b.1 ≤ a.1 ∧ b.2 = a.2 - 1)) ∧ old.length ≤ (numL r num old).2.1.length
  | [], n, num, old, L0, P, _, _, _, _, _, hP => ⟨fun t h1 h2 => by
      obtain ⟨b, hb, he, _⟩ := hP t h1 (by simpa [numL] using h2)
      exact ⟨b, by simp [numL, hb], he⟩, by simp [numL], by simp [numL]⟩
  | a :: tl, n, num, old, L0, P, hO, hI, hs, hr, hL, hP => by
    have ha := hr a (by simp)
    have hs' := List.pairwise_cons.1 hs
    have hO' := hO.one ha.1 ha.2
    have hI' := hI.one ha.1 (by rw [hO.len]; exact ha.2)
    -- the number that is given
    obtain ⟨v, hv, hv0, hvl, hvn⟩ : ∃ v : Int, (numOne num old a.2).1.getD a.2.toNat 0 = v ∧ 0 ≤ v ∧ v < ((numOne num old a.2).2.length : Int) ∧ (v < old.length ∨ (v = old.length ∧ (numOne num old a.2).2.length = old.length + 1)) ∧ old.length ≤ (numOne num old a.2).2.length ∧ (numOne num old a.2).2.length ≤ old.length + 1 ∧ ((numOne num old a.2).2.length = old.length + 1 → v = old.length) := by
      obtain ⟨x, hx, hxd, hx1, hx2⟩ := hO.get ha.1 ha.2
      have hl : a.2.toNat < num.length := (List.getElem?_eq_some_iff.1 hx).1
      by_cases hneg : x < 0
      · have h1 : numOne num old a.2 = (num.set a.2.toNat old.length, old ++ [a.2]) := by unfold numOne; rw [if_pos (by rw [hxd]; exact hneg)]
        rw [h1]
        refine ⟨old.length, by simp [List.getD, hl], by omega, by simp; omega, .inr ⟨rfl, by simp⟩, by simp, by simp, fun _ => rfl⟩
      · have h1 : numOne num old a.2 = (num, old) := by unfold numOne; rw [if_neg (by rw [hxd]; exact hneg)]
        rw [h1]
        have hin := hI.inj _ _ hx (by omega)
        have := (List.getElem?_eq_some_iff.1 hin).1
        refine ⟨x, hxd, by omega, by simp; omega, .inl (by omega), by simp, by simp, fun h => by simp at h⟩
    obtain ⟨hvn, hle1, hle2, hnew⟩ := hvn
    have hP' : ∀ t : Nat, L0 ≤ t → t < (numOne num old a.2).2.length → ∃ b ∈ P ++ [(a.1, v)], b.2 = (t : Int) ∧ ∀ c ∈ tl, b.1 ≤ c.1 := by
      intro t h1 h2
      by_cases h3 : t < old.length
      · obtain ⟨b, hb, he, hc⟩ := hP t h1 h3
        exact ⟨b, by simp [hb], he, fun c hc' => hc c (by simp [hc'])⟩
      · have h4 : (numOne num old a.2).2.length = old.length + 1 := by omega
        have := hnew h4
        exact ⟨(a.1, v), by simp, by simp only; omega, fun c hc => hs'.1 c hc⟩
    obtain ⟨i1, i2, i3⟩ := numL_spec tl L0 (P ++ [(a.1, v)]) hO' hI' hs'.2 (fun c hc => hr c (by simp [hc])) (by omega) hP'
    have happ : ∀ b, b ∈ (P ++ [(a.1, v)]) ++ (numL tl (numOne num old a.2).1 (numOne num old a.2).2).2.2 ↔ b ∈ P ++ (numL (a :: tl) num old).2.2 := by
      intro b; simp only [numL, hv, List.append_assoc, List.singleton_append]
    refine ⟨fun t h1 h2 => ?_, fun c hc => ?_, by simp only [numL]; omega⟩
    · obtain ⟨b, hb, he⟩ := i1 t h1 (by simpa [numL] using h2)
      exact ⟨b, (happ b).1 hb, he⟩
    · simp only [numL, hv, List.mem_cons] at hc
      rcases hc with rfl | hc
      · refine ⟨hv0, by simp only [numL]; omega, ⟨a, by simp, rfl⟩, fun hlt => ?_⟩
        simp only at hlt
        obtain ⟨b, hb, he, hba⟩ := hP (v - 1).toNat (by omega) (by omega)
        exact ⟨b, by simp [hb], hba a (by simp), by simp only; omega⟩
      · obtain ⟨j1, j2, ⟨b0, hb0, hb1⟩, j3⟩ := i2 c hc
        refine ⟨j1, by simpa [numL] using j2, ⟨b0, by simp [hb0], hb1⟩, fun hlt => ?_⟩
        obtain ⟨b, hb, h1, h2⟩ := j3 hlt
        exact ⟨b, (happ b).1 hb, h1, h2⟩

theorem sorted_events {r : List Arc} (h : Sorted r) : r.Pairwise fun a b => a.1 ≤ b.1 := h.imp (fun {a b} hab => by simp [lessB] at hab; omega)

theorem numL_len (r : List Arc) (num old : List Int) : (numL r num old).2.2.length = r.length := by
  induction r generalizing num old with
  | nil => rfl
  | cons a tl ih => simp [numL, ih]
/-- the canonical form is in canonical form -/
theorem canGo_ok (rows : List (List Arc)) (hok : ∀ r ∈ rows, ∀ a ∈ r, 0 ≤ a.2 ∧ a.2 < (rows.length : Int)) (pr : List Arc → Prop) (hcl : ∀ r r', (∀ a ∈ r', ∃ b ∈ r, b.1 = a.1) → r'.length ≤ r.length → pr r → pr r') (hpr : ∀ r ∈ rows, pr r) :
    ∀ (f i : Nat) (num old : List Int) (out : List (List Arc)), NumOk rows.length num old → NumInj num old → i ≤ old.length → f + i = rows.length →
      ∃ rest, (canGo rows f i num old out).1 = out ++ rest ∧ canOK i old.length rest ∧ ∀ r ∈ rest, pr r
  | 0, i, num, old, out, hO, _, hi, hf => ⟨[], by simp [canGo], by have := hO.le; show old.length = i; omega, by simp⟩
  | f + 1, i, num, old, out, hO, hI, hi, hf => by
    unfold canGo
    by_cases hil : i < old.length
    · obtain ⟨s, hs⟩ : ∃ s, old[i]? = some s := ⟨_, List.getElem?_eq_getElem hil⟩
      simp only [hs]
      obtain ⟨s0, s1⟩ := hO.st s (List.mem_of_getElem? hs)
      have hsn : s.toNat < rows.length := by omega
      have hrm : rows.getD s.toNat [] ∈ rows := by simp only [List.getD, List.getElem?_eq_getElem hsn, Option.getD_some]; exact List.getElem_mem hsn
      have hq : ∀ a ∈ rowOf (rows.getD s.toNat []), 0 ≤ a.2 ∧ a.2 < (rows.length : Int) := fun a ha => hok _ hrm a ((mem_rowOf _ _).1 ha)
      have hqe : pr (rowOf (rows.getD s.toNat [])) := hcl _ _ (fun a ha => ⟨a, (mem_rowOf _ _).1 ha, rfl⟩) (len_rowOf _) (hpr _ hrm)
      have hqs := sorted_events (rowOf_sorted (rows.getD s.toNat []))
      generalize rowOf (rows.getD s.toNat []) = q at hq hqe hqs
      have hO' := NumOk.go q [] hO hq
      rw [rowGo_numL] at hO' ⊢
      simp only at hO' ⊢
      have hI' := numL_inj q (by rw [hO.len]; exact hq) hI
      obtain ⟨k1, k2, k3⟩ := numL_spec q old.length [] hO hI hqs hq (Nat.le_refl _) (fun t h1 h2 => by omega)
      obtain ⟨rest, e1, e2, e3⟩ := canGo_ok rows hok pr hcl hpr f (i + 1) _ _ (out ++ [(numL q num old).2.2.foldl (fun acc a => ins a acc) []]) hO' hI' (by omega) (by omega)
      refine ⟨(numL q num old).2.2.foldl (fun acc a => ins a acc) [] :: rest, by rw [e1]; simp, ?_, ?_⟩
      · have hm : ∀ a, a ∈ (numL q num old).2.2.foldl (fun acc a => ins a acc) [] ↔ a ∈ (numL q num old).2.2 := fun a => mem_rowOf _ a
        refine ⟨hil, rowOf_sorted _, (numL q num old).2.1.length, k3, fun a ha => ?_, fun a ha hlt => ?_, fun t h1 h2 => ?_, e2⟩
        · obtain ⟨j1, j2, _⟩ := k2 a ((hm a).1 ha); exact ⟨j1, j2⟩
        · obtain ⟨_, _, _, j3⟩ := k2 a ((hm a).1 ha)
          obtain ⟨b, hb, h1, h2⟩ := j3 hlt
          exact ⟨b, (hm b).2 (by simpa using hb), h1, h2⟩
        · obtain ⟨b, hb, he⟩ := k1 t h1 h2
          exact ⟨b, (hm b).2 (by simpa using hb), he⟩
      · intro r hr
        rcases List.mem_cons.1 hr with rfl | hr
        · refine hcl q _ (fun a ha => ?_) ?_ hqe
          · obtain ⟨_, _, ⟨b, hb, hbe⟩, _⟩ := k2 a ((mem_rowOf _ a).1 ha)
            exact ⟨b, hb, hbe⟩
          · have h1 := len_foldl_ins (numL q num old).2.2 []
            rw [numL_len] at h1
            simpa using h1
        · exact e3 r hr
    · have hn : old[i]? = none := List.getElem?_eq_none (by omega)
      simp only [hn]
      exact ⟨[], by simp, by show old.length = i; omega, by simp⟩
theorem canonR_ok {rows : List (List Arc)} (hn : 0 < rows.length) (hok : ∀ r ∈ rows, ∀ a ∈ r, 0 ≤ a.2 ∧ a.2 < (rows.length : Int)) (pr : List Arc → Prop) (hcl : ∀ r r', (∀ a ∈ r', ∃ b ∈ r, b.1 = a.1) → r'.length ≤ r.length → pr r → pr r') (hpr : ∀ r ∈ rows, pr r) :
    canOK 0 1 (canonR rows).1 ∧ ∀ r ∈ (canonR rows).1, pr r := by
  obtain ⟨rest, h1, h2, h3⟩ := canGo_ok rows hok pr hcl hpr rows.length 0 _ _ [] (NumOk.start hn) (NumInj.start hn) (by simp) (by omega)
  unfold canonR
  rw [h1]
  exact ⟨h2, h3⟩
theorem canOK_bound : ∀ (p : List (List Arc)) (i L : Nat), canOK i L p → L ≤ i + p.length ∧ ∀ r ∈ p, Sorted r ∧ ∀ a ∈ r, 0 ≤ a.2 ∧ a.2 < ((i + p.length : Nat) : Int)
  | [], i, L, h => ⟨by have : L = i := h; simp [this], by simp⟩
  | r :: rs, i, L, h => by
    obtain ⟨h1, h2, L', h3, h4, h5, h6, h7⟩ := h
    obtain ⟨i1, i2⟩ := canOK_bound rs (i + 1) L' h7
    refine ⟨by simp; omega, fun q hq => ?_⟩
    rcases List.mem_cons.1 hq with rfl | hq
    · exact ⟨h2, fun a ha => by have := h4 a ha; simp; omega⟩
    · obtain ⟨j1, j2⟩ := i2 q hq
      exact ⟨j1, fun a ha => by have := j2 a ha; simp; omega⟩

/-- numbers that are known stand for themselves -/
def idNum (n L : Nat) : List Int := (List.range n).map fun t => if t < L then (t : Int) else -1
def idOld (L : Nat) : List Int := (List.range L).map fun (t : Nat) => (t : Int)
theorem idNum_get {n L t : Nat} (h : t < n) : (idNum n L)[t]? = some (if t < L then (t : Int) else -1) := by simp [idNum, h]
theorem idNum_set {n L : Nat} (h : L < n) : (idNum n L).set L (L : Int) = idNum n (L + 1) := by
  apply List.ext_getElem?
  intro t
  rw [List.getElem?_set]
  by_cases ht : t < n
  · rw [idNum_get ht, idNum_get ht]
    by_cases hl : L = t
    · subst hl; simp [idNum, ht]
    · rw [if_neg hl]
      by_cases h1 : t < L
      · simp [h1, show t < L + 1 by omega]
      · simp [h1, show ¬ t < L + 1 by omega]
  · have h1 : (idNum n L)[t]? = none := List.getElem?_eq_none (by simp [idNum]; omega)
    have h2 : (idNum n (L + 1))[t]? = none := List.getElem?_eq_none (by simp [idNum]; omega)
    rw [h1, h2]
    simp only [ite_eq_right_iff]
    intro h3; subst h3; omega
/-- in a sorted row each number that is new comes in its turn -/
theorem numL_id (n : Nat) : ∀ (r P : List Arc) (L L' L0 : Nat), Sorted (P ++ r) → Cl L0 (P ++ r) → L0 ≤ L → (∀ a ∈ P ++ r, 0 ≤ a.2 ∧ a.2 < (L' : Int)) → L' ≤ n → L ≤ L' → (∀ b ∈ P, b.2 < (L : Int)) →
    (∀ t : Nat, L0 ≤ t → t < L' → ∃ a ∈ P ++ r, a.2 = (t : Int)) → (∀ t : Nat, L0 ≤ t → t < L → ∃ b ∈ P, b.2 = (t : Int)) →
    numL r (idNum n L) (idOld L) = (idNum n L', idOld L', r)
  | [], P, L, L', L0, hs, hc, h0, hr, hn, hl, hp, hall, _ => by
    have : L = L' := by
      rcases Nat.lt_or_ge L L' with h | h
      · obtain ⟨a, ha, he⟩ := hall L h0 h
        have := hp a (by simpa using ha)
        omega
      · omega
    subst this; rfl
  | a :: tl, P, L, L', L0, hs, hc, h0, hr, hn, hl, hp, hall, hk => by
    obtain ⟨ha0, ha1⟩ := hr a (by simp)
    obtain ⟨e, t⟩ := a
    simp only at ha0 ha1
    obtain ⟨tn, rfl⟩ : ∃ tn : Nat, t = (tn : Int) := ⟨t.toNat, by omega⟩
    have htn : tn < n := by omega
    have hsp := hs
    have hlt : tn ≤ L := by
      rcases Nat.lt_or_ge L tn with h | h
      · exfalso
        -- the least number above L that comes in no turn
        have key : ∀ m : Nat, L < m → ∀ e', (e', (m : Int)) ∈ P ++ (e, (tn : Int)) :: tl → e' ≤ e → (lessB (e', (m : Int)) (e, (tn : Int)) = true ∨ m = tn) → False := by
          intro m
          induction m with
          | zero => intro h1; omega
          | succ m ih =>
            intro h1 e' hmem he hm
            obtain ⟨b, hb, hb1, hb2⟩ := hc _ hmem (by simp only; omega)
            obtain ⟨e2, t2⟩ := b
            simp only at hb1 hb2
            have ht2 : t2 = (m : Int) := by omega
            subst ht2
            have hless : lessB (e2, (m : Int)) (e, (tn : Int)) = true := by
              rcases hm with hm | hm
              · simp [lessB] at hm ⊢; omega
              · simp [lessB]; omega
            by_cases hmL : L < m
            · exact ih hmL e2 hb (by omega) (.inl hless)
            · have hmeq : m = L := by omega
              subst hmeq
              -- it stands ahead of (e, tn): in P
              have hbP : (e2, (m : Int)) ∈ P := by
                rcases List.mem_append.1 hb with h | h
                · exact h
                · exfalso
                  have h3 := (List.pairwise_append.1 hs).2.1
                  have h4 := List.pairwise_cons.1 h3
                  rcases List.mem_cons.1 h with h5 | h5
                  · rw [h5] at hless; simp [lessB] at hless
                  · have := h4.1 _ h5
                    simp [lessB] at this hless; omega
              have := hp _ hbP
              simp only at this; omega
        exact key tn h e (by simp) (Int.le_refl _) (.inr rfl)
      · exact h
    have hs2 : Sorted ((P ++ [(e, (tn : Int))]) ++ tl) := by simpa using hs
    have hc2 : Cl L0 ((P ++ [(e, (tn : Int))]) ++ tl) := by simpa [Cl] using hc
    have hr2 : ∀ a ∈ (P ++ [(e, (tn : Int))]) ++ tl, 0 ≤ a.2 ∧ a.2 < (L' : Int) := by simpa using hr
    have hall2 : ∀ t : Nat, L0 ≤ t → t < L' → ∃ a ∈ (P ++ [(e, (tn : Int))]) ++ tl, a.2 = (t : Int) := by simpa using hall
    by_cases hlt2 : tn < L
    · have h1 : numOne (idNum n L) (idOld L) (tn : Int) = (idNum n L, idOld L) := by
        unfold numOne
        rw [if_neg]
        simp only [Int.toNat_natCast, List.getD, idNum_get htn, Option.getD_some, hlt2, if_true]
        omega
      have ih := numL_id n tl (P ++ [(e, (tn : Int))]) L L' L0 hs2 hc2 h0 hr2 hn hl (by
        intro b hb
        rcases List.mem_append.1 hb with hb | hb
        · exact hp b hb
        · simp at hb; subst hb; simp only; omega) hall2 (fun t h1 h2 => by obtain ⟨b, hb, he⟩ := hk t h1 h2; exact ⟨b, by simp [hb], he⟩)
      simp only [numL, h1, ih, Int.toNat_natCast, List.getD, idNum_get htn, Option.getD_some, hlt2, if_true]
    · have hteq : tn = L := by omega
      subst hteq
      have h1 : numOne (idNum n tn) (idOld tn) (tn : Int) = (idNum n (tn + 1), idOld (tn + 1)) := by
        unfold numOne
        rw [if_pos]
        · simp only [Int.toNat_natCast]
          rw [show ((idOld tn).length : Int) = (tn : Int) by simp [idOld], idNum_set htn]
          simp [idOld, List.range_succ]
        · simp only [Int.toNat_natCast, List.getD, idNum_get htn, Option.getD_some]
          simp
      have ih := numL_id n tl (P ++ [(e, (tn : Int))]) (tn + 1) L' L0 hs2 hc2 (by omega) hr2 hn (by omega) (by
        intro b hb
        rcases List.mem_append.1 hb with hb | hb
        · have := hp b hb; omega
        · simp at hb; subst hb; simp only; omega) hall2 (fun t h1 h2 => by
          by_cases h3 : t < tn
          · obtain ⟨b, hb, he⟩ := hk t h1 h3; exact ⟨b, by simp [hb], he⟩
          · exact ⟨(e, (tn : Int)), by simp, by simp only; omega⟩)
      simp only [numL, h1, ih, Int.toNat_natCast, List.getD, idNum_get htn, Option.getD_some]
      simp
/-- a system in canonical form is its own canonical form -/
theorem canGo_id (p : List (List Arc)) : ∀ (f i L : Nat) (out rest : List (List Arc)), p = out ++ rest → out.length = i → canOK i L rest → f = rest.length → L ≤ p.length → canGo p f i (idNum p.length L) (idOld L) out = (p, idOld p.length)
  | 0, i, L, out, rest, hp, hi, hc, hf, hl => by
    have : rest = [] := List.length_eq_zero_iff.1 hf.symm
    subst this
    have : L = i := hc
    subst this
    rw [List.append_nil] at hp
    subst hp
    rw [← hi]; rfl
  | f + 1, i, L, out, rest, hp, hi, hc, hf, hl => by
    match rest, hf with
    | r :: rs, hf =>
      obtain ⟨h1, h2, L', h3, h4, h5, h6, h7⟩ := hc
      have hb := canOK_bound rs (i + 1) L' h7
      have hpl : p.length = i + (rs.length + 1) := by rw [hp, List.length_append, hi, List.length_cons]
      have ho : (idOld L)[i]? = some (i : Int) := by simp [idOld, h1]
      have hrow : p.getD (i : Int).toNat [] = r := by
        simp only [Int.toNat_natCast, List.getD, hp]
        rw [List.getElem?_append_right (by omega), hi]; simp
      unfold canGo
      simp only [ho, hrow]
      rw [rowOf_self h2, rowGo_numL]
      have hid := numL_id p.length r [] L L' L (by simpa using h2) (by simpa using h5) (Nat.le_refl _) (by simpa using h4) (by omega) h3 (by simp) (by simpa using h6) (fun t a b => by omega)
      rw [hid]
      simp only
      have hfo : r.foldl (fun acc a => ins a acc) [] = r := rowOf_self h2
      rw [hfo]
      exact canGo_id p f (i + 1) L' (out ++ [r]) rs (by rw [hp]; simp) (by simp [hi]) h7 (by simpa using hf) (by omega)
theorem canonR_id {p : List (List Arc)} (hn : 0 < p.length) (h : canOK 0 1 p) : (canonR p).1 = p := by
  have hst : ((List.replicate p.length (-1 : Int)).set 0 0) = idNum p.length 1 := by
    apply List.ext_getElem?
    intro t
    rw [List.getElem?_set]
    by_cases ht : t < p.length
    · rw [idNum_get ht]
      by_cases h0 : 0 = t
      · subst h0; simp [hn]
      · rw [if_neg h0]
        simp [ht, show ¬ t < 1 by omega]
    · rw [List.getElem?_eq_none (by simp; omega), List.getElem?_eq_none (by simp [idNum]; omega)]
      simp only [ite_eq_right_iff]
      intro h3; subst h3; omega
  unfold canonR
  rw [hst, show ([0] : List Int) = idOld 1 from rfl, canGo_id p p.length 0 1 [] p rfl rfl h rfl (by omega)]

/-! what the laws ask -/
theorem canonR_len_pos {rows : List (List Arc)} (hn : 0 < rows.length) (hok : ∀ r ∈ rows, ∀ a ∈ r, 0 ≤ a.2 ∧ a.2 < (rows.length : Int)) : 0 < (canonR rows).1.length := by
  have h := (canonR_ok hn hok (fun _ => True) (fun _ _ _ _ _ => trivial) (fun _ _ => trivial)).1
  have := (canOK_bound _ 0 1 h).1
  omega
theorem canonR_idem {rows : List (List Arc)} (hn : 0 < rows.length) (hok : ∀ r ∈ rows, ∀ a ∈ r, 0 ≤ a.2 ∧ a.2 < (rows.length : Int)) : (canonR (canonR rows).1).1 = (canonR rows).1 :=
  canonR_id (canonR_len_pos hn hok) (canonR_ok hn hok (fun _ => True) (fun _ _ _ _ _ => trivial) (fun _ _ => trivial)).1
end Go.Proofs.Ytfkpjnmngafnmaa
