/- The abstract machine: objects die, are written, are moved. -/
import Derived.Test.YtgclmlbaodcccaaAm4
namespace Go.Proofs.Ytgclmlbaodcccaa
set_option linter.unusedVariables false
set_option linter.unusedSimpArgs false
open Go.RowKit

section
variable {g g' : Gh} {hp hp' : List Ob} {w w' : World} {S : Nat → Prop}
theorem Lv.sub (hd : ∀ (i : Nat) (r : Row), hp'[i]? = some (.r r) → hp[i]? = some (.r r)) (hdm : ∀ (i : Nat) (kv : List (Value × C)), hp'[i]? = some (.m kv) → hp[i]? = some (.m kv)) {ℓ : Loc} (h : Lv hp' g ℓ) : Lv hp g ℓ := by
  cases ℓ with
  | ob i =>
    rcases h with ⟨r, e1, e2⟩ | ⟨kv, e1⟩
    · exact .inl ⟨r, hd _ _ e1, e2⟩
    · exact .inr ⟨kv, hdm _ _ e1⟩
  | cl i j =>
    obtain ⟨r, k, cs, e1, e2⟩ := h
    exact ⟨r, k, cs, hd _ _ e1, e2⟩
/-- objects die -/
theorem mo_kill (hb : ∀ i, Bn hp i → Bn hp' i) (hd : ∀ (i : Nat) (r : Row), hp'[i]? = some (.r r) → hp[i]? = some (.r r)) (hdm : ∀ (i : Nat) (kv : List (Value × C)), hp'[i]? = some (.m kv) → hp[i]? = some (.m kv)) : Mo g hp w g hp' w (fun _ => True) :=
  ⟨fun i hi => ⟨hb i hi, rfl, rfl⟩, fun b _ ho => Or.imp (fun h => h) (fun ⟨ℓ, hl, e⟩ => ⟨ℓ, Lv.sub hd hdm hl, e⟩) ho, Nat.le_refl _, fun _ _ _ => rfl, fun i _ _ r' j k cs e1 e2 => ⟨r', hd _ _ e1, e2, fun _ => rfl⟩⟩
theorem hr_kill (hr : HR g hp w) (hb : ∀ i, Bn hp i → Bn hp' i) (hd : ∀ (i : Nat) (r : Row), hp'[i]? = some (.r r) → hp[i]? = some (.r r)) (hdm : ∀ (i : Nat) (kv : List (Value × C)), hp'[i]? = some (.m kv) → hp[i]? = some (.m kv)) : HR g hp' w :=
  ⟨hr.ml, fun ℓ hl => hr.md ℓ (Lv.sub hd hdm hl), fun ℓ ℓ' h h' e => hr.inj _ _ (Lv.sub hd hdm h) (Lv.sub hd hdm h') e, fun i r e => RowR.mo (mo_kill hb hd hdm) (hd i r e) (hr.row i r (hd i r e)) (fun _ => rfl) (fun _ _ _ _ _ => ⟨rfl, rfl⟩),
    fun i kv e => MpR.mo (mo_kill hb hd hdm) (hdm i kv e) (hr.mp i kv (hdm i kv e)) rfl⟩
theorem RelG.kill {M0 : Nat → Prop} {w0 : World} {st : ST} {a : Act} (h : RelG g M0 w0 st a w) (hb : ∀ i, Bn st.hp i → Bn hp' i) (hd : ∀ (i : Nat) (r : Row), hp'[i]? = some (.r r) → st.hp[i]? = some (.r r)) (hdm : ∀ (i : Nat) (kv : List (Value × C)), hp'[i]? = some (.m kv) → st.hp[i]? = some (.m kv)) :
    RelG g M0 w0 { st with hp := hp' } a w := h.mo (mo_kill hb hd hdm) (hr_kill h.hr hb hd hdm) (fun ℓ hl => h.new ℓ (Lv.sub hd hdm hl)) h.fp

theorem cell_set {arr : Array Value} {e : TypeId} {b : Nat} (hb : w.heap[b]? = some (.cells arr e (0, 0))) (off : Nat) (u : Value) : (w.setCell ⟨b, off, none⟩ u).heap[b]? = some (.cells (arr.setIfInBounds off u) e (0, 0)) := by
  simp [World.setCell, Array.getElem?_modify, hb]
/-- a cell of a row is written -/
theorem mo_write (hr : HR g hp w) {id off : Nat} {r : Row} {c : C} {u : Value} (hrow : hp[id]? = some (.r r)) (hk : g.κ id ≠ 0) (hc : c.one = true) (hne : ∀ i, i ≠ id → hp'[i]? = hp[i]?) (h1 : hp'[id]? = some (.r { r with cells := r.cells.set off c })) :
    Mo g hp w g hp' (w.setCell ⟨g.γ (.ob id), off, none⟩ u) (fun _ => True) := by
  have hset : ∀ {r' : Row} {j : Nat} {k : Nat × Nat} {cs : List Tr}, some (Ob.r { r with cells := r.cells.set off c }) = some (.r r') → r'.cells[j]? = some (.o k cs) → j ≠ off ∧ r.cells[j]? = some (.o k cs) := by
    intro r' j k cs e hj
    cases e
    rw [List.getElem?_set] at hj
    split at hj
    · split at hj
      · cases hj; cases hc
      · cases hj
    · rename_i hne'
      exact ⟨fun e => hne' e.symm, hj⟩
  refine ⟨fun i hi => ⟨?_, rfl, rfl⟩, fun b _ ho => ho.elim .inl (fun ⟨ℓ, hl, e⟩ => .inr ⟨ℓ, ?_, e⟩), by simp [World.setCell], fun b hb ho => Below.heap_setCell _ _ _ _ (fun e => ho (.inr ⟨.ob id, .inl ⟨r, hrow, hk⟩, e.symm⟩)), fun i _ hi r' j k cs e1 e2 => ?_⟩
  · by_cases e : i = id
    · subst e; exact ⟨_, h1, rfl⟩
    · obtain ⟨o, e1, e2⟩ := hi
      exact ⟨o, by rw [hne i e]; exact e1, e2⟩
  · cases ℓ with
    | ob i =>
      by_cases e : i = id
      · subst e
        rcases hl with ⟨r', e1, e2⟩ | ⟨kv, e1⟩
        · exact .inl ⟨r, hrow, e2⟩
        · rw [h1] at e1; cases e1
      · rcases hl with ⟨r', e1, e2⟩ | ⟨kv, e1⟩
        · exact .inl ⟨r', by rw [← hne i e]; exact e1, e2⟩
        · exact .inr ⟨kv, by rw [← hne i e]; exact e1⟩
    | cl i j =>
      obtain ⟨r', k, cs, e1, e2, e3⟩ := hl
      by_cases e : i = id
      · subst e
        rw [h1] at e1
        exact ⟨r, k, cs, hrow, (hset e1 e2).2, e3⟩
      · exact ⟨r', k, cs, by rw [← hne i e]; exact e1, e2, e3⟩
  · by_cases e : i = id
    · subst e
      rw [h1] at e1
      obtain ⟨f1, f2⟩ := hset e1 e2
      refine ⟨r, hrow, f2, fun _ => ?_⟩
      rcases hr.row i r hrow with ⟨h0, _⟩ | ⟨_, _, arr, ha, _⟩
      · exact absurd h0 hk
      · rw [cell_of_row _ _ j _ _ _ (cell_set ha off u), cell_of_row _ _ j _ _ _ ha]
        simp [Array.getElem?_setIfInBounds, Ne.symm f1]
    · rw [hne i e] at e1
      refine ⟨r', e1, e2, fun _ => ?_⟩
      by_cases h0 : g.κ i = 0
      · exfalso
        rcases hr.row i r' e1 with ⟨_, h2⟩ | ⟨h2, _⟩
        · rw [h2] at e2; simp at e2
        · exact h2 h0
      · exact World.cell?_of_block (Below.heap_setCell _ _ _ _ (fun he => e (by have := hr.inj (.ob i) (.ob id) (.inl ⟨r', e1, h0⟩) (.inl ⟨r, hrow, hk⟩) he; injection this)))
theorem cellR_of_one {id j : Nat} {c : C} {u : Value} (hc : c.one = true) (h : CR g hp w c u) : CellR g hp w id j c u := by
  cases c <;> first | exact h | cases hc
theorem hr_write (hr : HR g hp w) {id off : Nat} {r : Row} {c : C} {u : Value} (hrow : hp[id]? = some (.r r)) (hk : g.κ id ≠ 0) (hc : c.one = true) (hcr : CR g hp w c u) (hoff : off < r.cells.length)
    (hne : ∀ i, i ≠ id → hp'[i]? = hp[i]?) (h1 : hp'[id]? = some (.r { r with cells := r.cells.set off c })) : HR g hp' (w.setCell ⟨g.γ (.ob id), off, none⟩ u) := by
  have hm := mo_write (u := u) (w := w) hr hrow hk hc hne h1
  have hlid : Lv hp g (.ob id) := .inl ⟨r, hrow, hk⟩
  have hsub : ∀ ℓ, Lv hp' g ℓ → Lv hp g ℓ := by
    intro ℓ hl
    cases ℓ with
    | ob i =>
      by_cases e : i = id
      · subst e; exact hlid
      · rcases hl with ⟨r', e1, e2⟩ | ⟨kv, e1⟩
        · exact .inl ⟨r', by rw [← hne i e]; exact e1, e2⟩
        · exact .inr ⟨kv, by rw [← hne i e]; exact e1⟩
    | cl i j =>
      obtain ⟨r', k, cs, e1, e2, e3⟩ := hl
      by_cases e : i = id
      · subst e
        rw [h1] at e1
        cases e1
        rw [List.getElem?_set] at e2
        split at e2
        · (try split at e2) <;> first | (cases e2; cases hc; done) | cases e2
        · exact ⟨r, k, cs, hrow, e2, e3⟩
      · exact ⟨r', k, cs, by rw [← hne i e]; exact e1, e2, e3⟩
  have far : ∀ ℓ, Lv hp g ℓ → ℓ ≠ .ob id → (w.setCell ⟨g.γ (.ob id), off, none⟩ u).heap[g.γ ℓ]? = w.heap[g.γ ℓ]? := fun ℓ hl hn => Below.heap_setCell _ _ _ _ (fun he => hn (hr.inj _ _ hl hlid he))
  refine ⟨fun q hq => by simpa [World.setCell] using hr.ml q hq, fun ℓ hl => hr.md ℓ (hsub ℓ hl), fun ℓ ℓ' h h' e => hr.inj _ _ (hsub _ h) (hsub _ h') e, fun i r' e1 => ?_, fun i kv e1 => ?_⟩
  · by_cases e : i = id
    · subst e
      rw [h1] at e1
      cases e1
      rcases hr.row i r hrow with ⟨h0, _⟩ | ⟨_, ht, arr, ha, hl, hs, hm', hcells⟩
      · exact absurd h0 hk
      · refine .inr ⟨hk, fun hs' => by simpa using ht hs', _, cell_set ha off u, by simpa using hl, by simpa using hs, hm', fun j x hj => ?_⟩
        simp only [List.getElem?_set] at hj
        split at hj
        · rename_i hj'
          have hj2 : x = c := by
            (try split at hj) <;> first | (cases hj; rfl) | cases hj
          subst hj2
          subst hj'
          have hsz : off < arr.size := by omega
          refine ⟨u, by show (arr.setIfInBounds off u)[off]? = some u; simp [hsz], cellR_of_one hc (CR.mo hm ?_ hcr)⟩
          cases x <;> first | trivial | cases hc
        · rename_i hj'
          obtain ⟨v, f1, f2⟩ := hcells j x hj
          exact ⟨v, by simpa [Array.getElem?_setIfInBounds, hj'] using f1, CellR.mo hm f2 (fun k cs hx hn => ⟨rfl, far _ ⟨r, k, cs, hrow, by rw [hj, hx], hn⟩ (by simp)⟩)⟩
    · rw [hne i e] at e1
      exact RowR.mo hm e1 (hr.row i r' e1) (fun h0 => far _ (.inl ⟨r', e1, h0⟩) (by simpa using e)) (fun j k cs hj hn => ⟨rfl, far _ ⟨r', k, cs, e1, hj, hn⟩ (by simp)⟩)
  · have e : i ≠ id := by
      rintro rfl
      rw [h1] at e1; cases e1
    rw [hne i e] at e1
    exact MpR.mo hm e1 (hr.mp i kv e1) (far _ (.inr ⟨kv, e1⟩) (by simpa using e))
theorem RelG.write {M0 : Nat → Prop} {w0 : World} {st : ST} {a : Act} (h : RelG g M0 w0 st a w) {id off : Nat} {r : Row} {c : C} {u : Value} (hrow : st.hp[id]? = some (.r r)) (hk : g.κ id ≠ 0) (hc : c.one = true) (hcr : CR g st.hp w c u) (hoff : off < r.cells.length) :
    RelG g M0 w0 { st with hp := st.hp.set id (.r { r with cells := r.cells.set off c }) } a (w.setCell ⟨g.γ (.ob id), off, none⟩ u) := by
  have hlt : id < st.hp.length := (List.getElem?_eq_some_iff.1 hrow).1
  have hne : ∀ i, i ≠ id → (st.hp.set id (.r { r with cells := r.cells.set off c }))[i]? = st.hp[i]? := fun i hi => by rw [List.getElem?_set_ne (Ne.symm hi)]
  have h1 : (st.hp.set id (.r { r with cells := r.cells.set off c }))[id]? = some (.r { r with cells := r.cells.set off c }) := by simp [hlt]
  have hm := mo_write (u := u) (w := w) h.hr hrow hk hc hne h1
  have hsub : ∀ ℓ, Lv (st.hp.set id (.r { r with cells := r.cells.set off c })) g ℓ → Lv st.hp g ℓ := by
    intro ℓ hl
    cases ℓ with
    | ob i =>
      by_cases e : i = id
      · subst e; exact .inl ⟨r, hrow, hk⟩
      · rcases hl with ⟨r', e1, e2⟩ | ⟨kv, e1⟩
        · exact .inl ⟨r', by rw [← hne i e]; exact e1, e2⟩
        · exact .inr ⟨kv, by rw [← hne i e]; exact e1⟩
    | cl i j =>
      obtain ⟨r', k, cs, e1, e2, e3⟩ := hl
      by_cases e : i = id
      · subst e
        rw [h1] at e1
        cases e1
        simp only [List.getElem?_set] at e2
        split at e2
        · (try split at e2) <;> first | (cases e2; cases hc; done) | cases e2
        · exact ⟨r, k, cs, hrow, e2, e3⟩
      · exact ⟨r', k, cs, by rw [← hne i e]; exact e1, e2, e3⟩
  refine h.mo hm (hr_write h.hr hrow hk hc hcr hoff hne h1) (fun ℓ hl => h.new ℓ (hsub ℓ hl)) ?_
  · refine ⟨h.fp.os, h.fp.tape, h.fp.output, by simpa [World.setCell] using h.fp.size, fun k hk' hM => ?_, h.fp.drawn⟩
    rw [Below.heap_setCell _ _ _ _ (fun e => ?_)]
    · exact h.fp.block k hk' hM
    · rcases h.new (.ob id) (.inl ⟨r, hrow, hk⟩) with h2 | h2
      · exact hM (by rw [e]; exact h2)
      · simp at e; omega
end
end Go.Proofs.Ytgclmlbaodcccaa
