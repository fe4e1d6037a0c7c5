/- The abstract machine: objects are born, die, are read and written. -/
import Derived.Test.YtgclmlbaodcccaaAm3
namespace Go.Proofs.Ytgclmlbaodcccaa
set_option linter.unusedVariables false
set_option linter.unusedSimpArgs false
open Go.RowKit

/-- a cell that may stand in a new row -/
def C.fresh : C → Bool
  | .b _ _ _ => false
  | .o _ [] => true
  | .o _ _ => false
  | _ => true
def FreshR (g : Gh) (hp : List Ob) (w : World) (c : C) (y : Value) : Prop := c.fresh = true ∧ (CR g hp w c y ∨ ∃ k, c = .o k [] ∧ y = .slice none 0 0)
section
variable {g g' : Gh} {hp hp' : List Ob} {w w' : World} {S : Nat → Prop}
theorem cell_of_fresh (h : Mo g hp w g' hp' w' S) {id j : Nat} {c : C} {y : Value} (hf : FreshR g hp w c y) : CellR g' hp' w' id j c y := by
  obtain ⟨h0, h1 | ⟨k, rfl, rfl⟩⟩ := hf
  · cases c with
    | b _ _ _ => cases h0
    | o k cs => exact h1.elim
    | u => trivial
    | v x => exact CR.mo h (c := .v x) trivial h1
    | t k cs => exact CR.mo h (c := .t k cs) trivial h1
    | s id n => exact CR.mo h (c := .s id n) trivial h1
    | p id off => exact CR.mo h (c := .p id off) trivial h1
    | q cs off => exact CR.mo h (c := .q cs off) trivial h1
    | m id => exact CR.mo h (c := .m id) trivial h1
    | w id off n k => exact CR.mo h (c := .w id off n k) trivial h1
    | f fn ids => exact CR.mo h (c := .f fn ids) trivial h1
  · exact .inl ⟨rfl, none, rfl, by simp⟩
def Gh.at (g : Gh) (id b c : Nat) : Gh := ⟨fun ℓ => if ℓ = .ob id then b else g.γ ℓ, fun i => if i = id then c else g.κ i, g.M⟩
theorem Gh.at_ne (g : Gh) {id i b c : Nat} (h : i ≠ id) : (g.at id b c).γ (.ob i) = g.γ (.ob i) ∧ (g.at id b c).κ i = g.κ i := by
  unfold Gh.at; simp [h]
theorem Gh.at_cl (g : Gh) {id i j b c : Nat} : (g.at id b c).γ (.cl i j) = g.γ (.cl i j) := by
  unfold Gh.at; simp
theorem Gh.at_self (g : Gh) {id b c : Nat} : (g.at id b c).γ (.ob id) = b ∧ (g.at id b c).κ id = c := by
  unfold Gh.at; simp
theorem ext_at {g : Gh} {n id b c : Nat} (h : n ≤ id) : Ext n g (g.at id b c) := ⟨rfl, fun i hi => g.at_ne (by omega)⟩
/-- an object is born: a row in a block that was not there, or a map -/
theorem mo_birth (hr : HR g hp w) {id b c : Nat} {ob : Ob} (hid : ¬ Bn hp id) (hne : ∀ i, i ≠ id → hp'[i]? = hp[i]?) (h1 : hp'[id]? = some ob) (hb : c ≠ 0 ∨ (∃ kv, ob = .m kv) → w.heap.size ≤ b)
    (hobm : ∀ r, ob = .r r → ∀ (j : Nat) (k : Nat × Nat) (cs : List Tr), r.cells[j]? = some (.o k cs) → cs = [])
    (hz : w.heap.size ≤ w'.heap.size) (hfx : ∀ k, k < w.heap.size → w'.heap[k]? = w.heap[k]?) : Mo g hp w (g.at id b c) hp' w' (fun _ => True) := by
  refine ⟨fun i hi => ?_, fun k hk ho => ?_, hz, fun k hk _ => hfx k hk, fun i _ hi r' j k cs hr' hc' => ?_⟩
  · have hi' : i ≠ id := fun e => hid (e ▸ hi)
    obtain ⟨o, e1, e2⟩ := hi
    exact ⟨⟨o, by rw [hne i hi']; exact e1, e2⟩, g.at_ne hi'⟩
  · rcases ho with ho | ⟨ℓ, hl, rfl⟩
    · exact .inl ho
    right
    cases ℓ with
    | ob i =>
      by_cases hi : i = id
      · subst hi
        rw [g.at_self.1] at hk
        exfalso
        have := hb (by
          rcases hl with ⟨r, e1, e2⟩ | ⟨kv, e1⟩
          · left; rwa [g.at_self.2] at e2
          · right; rw [h1] at e1; exact ⟨kv, Option.some.inj e1⟩)
        omega
      · refine ⟨.ob i, ?_, (g.at_ne hi).1.symm⟩
        rcases hl with ⟨r, e1, e2⟩ | ⟨kv, e1⟩
        · exact .inl ⟨r, by rw [← hne i hi]; exact e1, by rwa [(g.at_ne hi).2] at e2⟩
        · exact .inr ⟨kv, by rw [← hne i hi]; exact e1⟩
    | cl i j =>
      obtain ⟨r, k, cs, e1, e2, e3⟩ := hl
      by_cases hi : i = id
      · subst hi
        rw [h1] at e1
        exact absurd (hobm r (Option.some.inj e1) j k cs e2) e3
      · exact ⟨.cl i j, ⟨r, k, cs, by rw [← hne i hi]; exact e1, e2, e3⟩, by rw [g.at_cl]⟩
  · have hi' : i ≠ id := fun e => hid (e ▸ hi)
    rw [hne i hi'] at hr'
    exact ⟨r', hr', hc', fun hlt => World.cell?_of_block (hfx _ hlt)⟩
theorem hr_birth (hr : HR g hp w) {id b c : Nat} {ob : Ob} (hid : ¬ Bn hp id) (hne : ∀ i, i ≠ id → hp'[i]? = hp[i]?) (h1 : hp'[id]? = some ob) (hb : c ≠ 0 ∨ (∃ kv, ob = .m kv) → w.heap.size ≤ b)
    (hobm : ∀ r, ob = .r r → ∀ (j : Nat) (k : Nat × Nat) (cs : List Tr), r.cells[j]? = some (.o k cs) → cs = [])
    (hz : w.heap.size ≤ w'.heap.size) (hfx : ∀ k, k < w.heap.size → w'.heap[k]? = w.heap[k]?)
    (hrow : ∀ r, ob = .r r → RowR (g.at id b c) hp' w' id r) (hmap : ∀ kv, ob = .m kv → MpR (g.at id b c) hp' w' id kv) : HR (g.at id b c) hp' w' := by
  have hm := mo_birth hr hid hne h1 hb hobm hz hfx
  have old : ∀ ℓ, Lv hp' (g.at id b c) ℓ → ℓ ≠ .ob id → Lv hp g ℓ ∧ (g.at id b c).γ ℓ = g.γ ℓ := by
    intro ℓ hl hn
    cases ℓ with
    | ob i =>
      have hi : i ≠ id := fun e => hn (by rw [e])
      refine ⟨?_, (g.at_ne hi).1⟩
      rcases hl with ⟨r, e1, e2⟩ | ⟨kv, e1⟩
      · exact .inl ⟨r, by rw [← hne i hi]; exact e1, by rwa [(g.at_ne hi).2] at e2⟩
      · exact .inr ⟨kv, by rw [← hne i hi]; exact e1⟩
    | cl i j =>
      obtain ⟨r, k, cs, e1, e2, e3⟩ := hl
      by_cases hi : i = id
      · subst hi
        rw [h1] at e1
        exact absurd (hobm r (Option.some.inj e1) j k cs e2) e3
      · exact ⟨⟨r, k, cs, by rw [← hne i hi]; exact e1, e2, e3⟩, g.at_cl⟩
  have newb : Lv hp' (g.at id b c) (.ob id) → w.heap.size ≤ b := by
    intro hl
    refine hb ?_
    rcases hl with ⟨r, e1, e2⟩ | ⟨kv, e1⟩
    · left; rwa [g.at_self.2] at e2
    · right; rw [h1] at e1; exact ⟨kv, Option.some.inj e1⟩
  refine ⟨fun q hq => Nat.lt_of_lt_of_le (hr.ml q hq) hz, fun ℓ hl hM => ?_, fun ℓ ℓ' hl hl' he => ?_, fun i r hi => ?_, fun i kv hi => ?_⟩
  · by_cases e : ℓ = .ob id
    · subst e
      rw [g.at_self.1] at hM
      have := hr.ml _ hM
      have := newb hl
      omega
    · obtain ⟨o1, o2⟩ := old ℓ hl e
      rw [o2] at hM
      exact hr.md ℓ o1 hM
  · by_cases e : ℓ = .ob id
    · by_cases e' : ℓ' = .ob id
      · rw [e, e']
      · obtain ⟨o1, o2⟩ := old ℓ' hl' e'
        rw [o2, e, g.at_self.1] at he
        have := hr.lt o1
        have := newb (e ▸ hl)
        omega
    · obtain ⟨o1, o2⟩ := old ℓ hl e
      by_cases e' : ℓ' = .ob id
      · rw [o2, e', g.at_self.1] at he
        have := hr.lt o1
        have := newb (e' ▸ hl')
        omega
      · obtain ⟨p1, p2⟩ := old ℓ' hl' e'
        rw [o2, p2] at he
        exact hr.inj _ _ o1 p1 he
  · by_cases e : i = id
    · subst e
      rw [h1] at hi
      exact hrow r (Option.some.inj hi)
    · rw [hne i e] at hi
      refine RowR.mo hm hi (hr.row i r hi) (fun hk => hfx _ (hr.lt (ℓ := .ob i) (.inl ⟨r, hi, hk⟩))) (fun j k cs hc hn => ⟨g.at_cl, hfx _ (hr.lt (ℓ := .cl i j) ⟨r, k, cs, hi, hc, hn⟩)⟩)
  · by_cases e : i = id
    · subst e
      rw [h1] at hi
      exact hmap kv (Option.some.inj hi)
    · rw [hne i e] at hi
      exact MpR.mo hm hi (hr.mp i kv hi) (hfx _ (hr.lt (ℓ := .ob i) (.inr ⟨kv, hi⟩)))
theorem new_birth {M0 : Nat → Prop} {n0 : Nat} (hn : ∀ ℓ, Lv hp g ℓ → M0 (g.γ ℓ) ∨ n0 ≤ g.γ ℓ) {id b c : Nat} {ob : Ob} (hne : ∀ i, i ≠ id → hp'[i]? = hp[i]?) (h1 : hp'[id]? = some ob) (hb : c ≠ 0 ∨ (∃ kv, ob = .m kv) → n0 ≤ b)
    (hobm : ∀ r, ob = .r r → ∀ (j : Nat) (k : Nat × Nat) (cs : List Tr), r.cells[j]? = some (.o k cs) → cs = []) : ∀ ℓ, Lv hp' (g.at id b c) ℓ → M0 ((g.at id b c).γ ℓ) ∨ n0 ≤ (g.at id b c).γ ℓ := by
  intro ℓ hl
  cases ℓ with
  | ob i =>
    by_cases hi : i = id
    · subst hi
      rw [g.at_self.1]
      refine .inr (hb ?_)
      rcases hl with ⟨r, e1, e2⟩ | ⟨kv, e1⟩
      · left; rwa [g.at_self.2] at e2
      · right; rw [h1] at e1; exact ⟨kv, Option.some.inj e1⟩
    · rw [(g.at_ne hi).1]
      refine hn _ ?_
      rcases hl with ⟨r, e1, e2⟩ | ⟨kv, e1⟩
      · exact .inl ⟨r, by rw [← hne i hi]; exact e1, by rwa [(g.at_ne hi).2] at e2⟩
      · exact .inr ⟨kv, by rw [← hne i hi]; exact e1⟩
  | cl i j =>
    obtain ⟨r, k, cs, e1, e2, e3⟩ := hl
    by_cases hi : i = id
    · subst hi
      rw [h1] at e1
      exact absurd (hobm r (Option.some.inj e1) j k cs e2) e3
    · rw [g.at_cl]
      exact hn _ ⟨r, k, cs, by rw [← hne i hi]; exact e1, e2, e3⟩
end

/-- a row is born in a new block -/
theorem RelG.birthG {g : Gh} {M0 : Nat → Prop} {w0 w w' : World} {st : ST} {a : Act} {hp' : List Ob} (h : RelG g M0 w0 st a w) {id c b : Nat} {r : Row} {arr : Array Value}
    (hid : ¬ Bn st.hp id) (hne : ∀ i, i ≠ id → hp'[i]? = st.hp[i]?) (h1 : hp'[id]? = some (.r r)) (hc : c ≠ 0) (hsl : r.sl = true → r.cells ≠ []) (hcm : c ≤ 9223372036854775807) (hlen : r.cells.length ≤ arr.size) (hus : arr.size = c * r.k)
    (hcell : ∀ (j : Nat) (x : C), r.cells[j]? = some x → ∃ u, arr[j]? = some u ∧ FreshR g st.hp w x u) (hw : Fp (fun _ => False) w w') (hb : w.heap.size ≤ b) (hnew : w'.heap[b]? = some (.cells arr r.e (0, 0))) :
    RelG (g.at id b c) M0 w0 { st with hp := hp' } a w' := by
  have hz := hw.size
  have hfx : ∀ k, k < w.heap.size → w'.heap[k]? = w.heap[k]? := fun k hk => hw.block k hk (fun h => h)
  have hobm : ∀ r', Ob.r r = .r r' → ∀ (j : Nat) (k : Nat × Nat) (cs : List Tr), r'.cells[j]? = some (.o k cs) → cs = [] := by
    intro r' e j k cs hj
    cases e
    obtain ⟨u, _, hf, _⟩ := hcell j _ hj
    cases cs with
    | nil => rfl
    | cons => simp [C.fresh] at hf
  have hm := mo_birth (w' := w') h.hr (b := b) (c := c) hid hne h1 (fun _ => hb) hobm hz hfx
  refine h.mo hm (hr_birth h.hr hid hne h1 (fun _ => hb) hobm hz hfx ?_ (fun kv e => by cases e)) (new_birth h.new hne h1 (fun _ => Nat.le_trans h.fp.size hb) hobm) (h.fp.trans (hw.mono (fun _ _ h => h.elim)))
  intro r' e
  cases e
  refine .inr ⟨by rw [g.at_self.2]; exact hc, hsl, arr, by rw [g.at_self.1]; exact hnew, hlen, by rw [g.at_self.2]; exact hus, by rw [g.at_self.2]; exact hcm, fun j x hj => ?_⟩
  obtain ⟨u, e1, e2⟩ := hcell j x hj
  exact ⟨u, e1, cell_of_fresh hm e2⟩
theorem RelG.birth {g : Gh} {M0 : Nat → Prop} {w0 w : World} {st : ST} {a : Act} {hp' : List Ob} (h : RelG g M0 w0 st a w) {id c : Nat} {r : Row} {us : List Value}
    (hid : ¬ Bn st.hp id) (hne : ∀ i, i ≠ id → hp'[i]? = st.hp[i]?) (h1 : hp'[id]? = some (.r r)) (hc : c ≠ 0) (hsl : r.sl = true → r.cells ≠ []) (hcm : c ≤ 9223372036854775807) (hlen : r.cells.length ≤ us.length) (hus : us.length = c * r.k)
    (hcell : ∀ (j : Nat) (x : C), r.cells[j]? = some x → ∃ u, us[j]? = some u ∧ FreshR g st.hp w x u) :
    RelG (g.at id w.heap.size c) M0 w0 { st with hp := hp' } a (w.alloc (.cells us.toArray r.e)) :=
  h.birthG hid hne h1 hc hsl hcm (by simpa using hlen) (by simpa using hus) (fun j x hj => by obtain ⟨u, e1, e2⟩ := hcell j x hj; exact ⟨u, by simpa using e1, e2⟩) (Fp.alloc _ _ _) (Nat.le_refl _) (heap_alloc_new w _)
/-- .. one without room -/
theorem RelG.birth0 {g : Gh} {M0 : Nat → Prop} {w0 w w' : World} {st : ST} {a : Act} {hp' : List Ob} (h : RelG g M0 w0 st a w) {id : Nat} {r : Row}
    (hid : ¬ Bn st.hp id) (hne : ∀ i, i ≠ id → hp'[i]? = st.hp[i]?) (h1 : hp'[id]? = some (.r r)) (hn : r.cells = []) (hw : Fp (fun _ => False) w w') :
    RelG (g.at id w.heap.size 0) M0 w0 { st with hp := hp' } a w' := by
  have hobm : ∀ r', Ob.r r = .r r' → ∀ (j : Nat) (k : Nat × Nat) (cs : List Tr), r'.cells[j]? = some (.o k cs) → cs = [] := by
    intro r' e j k cs hj
    cases e
    rw [hn] at hj; simp at hj
  have hfx : ∀ k, k < w.heap.size → w'.heap[k]? = w.heap[k]? := fun k hk => hw.block k hk (fun h => h)
  have hm := mo_birth (w' := w') h.hr (b := w.heap.size) (c := 0) hid hne h1 (fun _ => Nat.le_refl _) hobm hw.size hfx
  refine h.mo hm (hr_birth h.hr hid hne h1 (fun _ => Nat.le_refl _) hobm hw.size hfx ?_ (fun kv e => by cases e)) (new_birth h.new hne h1 (fun _ => h.fp.size) hobm) (h.fp.trans (hw.mono (fun _ _ h => h.elim)))
  intro r' e
  cases e
  exact .inl ⟨g.at_self.2, hn⟩
/-- a map is born -/
theorem RelG.birthM {g : Gh} {M0 : Nat → Prop} {w0 w : World} {st : ST} {a : Act} {hp' : List Ob} (h : RelG g M0 w0 st a w) {id : Nat}
    (hid : ¬ Bn st.hp id) (hne : ∀ i, i ≠ id → hp'[i]? = st.hp[i]?) (h1 : hp'[id]? = some (.m [])) :
    RelG (g.at id w.heap.size 0) M0 w0 { st with hp := hp' } a (w.alloc (.map #[] 0)) := by
  have hobm : ∀ r', Ob.m [] = .r r' → ∀ (j : Nat) (k : Nat × Nat) (cs : List Tr), r'.cells[j]? = some (.o k cs) → cs = [] := by
    intro r' e; cases e
  have hfx : ∀ k, k < w.heap.size → (w.alloc (.map #[] 0)).heap[k]? = w.heap[k]? := fun k hk => Below.heap_alloc _ _ _ hk
  have hz : w.heap.size ≤ (w.alloc (.map #[] 0)).heap.size := by simp
  have hm := mo_birth (w' := w.alloc (.map #[] 0)) h.hr (b := w.heap.size) (c := 0) hid hne h1 (fun _ => Nat.le_refl _) hobm hz hfx
  refine h.mo hm (hr_birth h.hr hid hne h1 (fun _ => Nat.le_refl _) hobm hz hfx (fun r' e => by cases e) ?_) (new_birth h.new hne h1 (fun _ => h.fp.size) hobm) (h.fp.trans (Fp.alloc _ _ _))
  intro kv e
  cases e
  exact ⟨#[], 0, by rw [g.at_self.1]; exact heap_alloc_new w _, rfl, fun i p hp => by simp at hp⟩
end Go.Proofs.Ytgclmlbaodcccaa
