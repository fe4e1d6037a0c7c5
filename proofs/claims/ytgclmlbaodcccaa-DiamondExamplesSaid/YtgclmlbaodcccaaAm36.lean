/- The runner: maps, copies, clears, values of other kinds. -/
import Derived.Test.YtgclmlbaodcccaaAm33
import Derived.MapKept
namespace Go.Proofs.Ytgclmlbaodcccaa
set_option linter.unusedVariables false
set_option linter.unusedSimpArgs false
open Go.RowKit

section
variable {P : Program} {T : Tb} {g : Gh} {hp : List Ob} {w : World}
theorem keyOf_ok {x : AV} {y k : Value} (h : keyOf x = some k) (hR : AVR (CR g hp w) x y) : y = k := by
  have cv : ∀ {xs : List C} {vs : List Value}, cVals xs = some vs → ∀ {us : List Value}, LR (CR g hp w) xs us → us = vs := by
    intro xs
    induction xs with
    | nil =>
      intro vs e us hl
      cases e
      exact List.eq_nil_of_length_eq_zero hl.1
    | cons c r ih =>
      intro vs e us hl
      cases c <;> simp only [cVals, reduceCtorEq] at e
      rename_i v
      cases hr : cVals r with
      | none => rw [hr] at e; cases e
      | some l =>
        rw [hr] at e
        cases e
        cases us with
        | nil => exact absurd hl.1 (by simp)
        | cons u us =>
          obtain ⟨u', e1, e2⟩ := hl.2 0 (.v v) rfl
          simp at e1
          subst e1
          have := ih hr (us := us) ⟨by have := hl.1; simpa using this, fun i x hx => by simpa using hl.2 (i + 1) x (by simpa using hx)⟩
          rw [this, show u = v from e2]
  unfold keyOf at h
  split at h
  · cases h; exact hR
  · rename_i xs
    split at h
    · rename_i vs hv
      cases h
      obtain ⟨us, rfl, hl⟩ := hR
      rw [cv hv hl]
    · cases h
  · cases h
/-- the entries have the keys of kv -/
def KvOk (kv : List (Value × C)) (es : List MapEntry) : Prop := es.length = kv.length ∧ ∀ (i : Nat) (p : Value × C), kv[i]? = some p → ∃ e, es[i]? = some e ∧ e.key = p.1
theorem KvOk.tail {p : Value × C} {kv : List (Value × C)} {e : MapEntry} {es : List MapEntry} (h : KvOk (p :: kv) (e :: es)) : e.key = p.1 ∧ KvOk kv es := by
  obtain ⟨h1, h2⟩ := h
  obtain ⟨e', f1, f2⟩ := h2 0 p rfl
  simp at f1
  subst f1
  exact ⟨f2, by simpa using h1, fun i q hq => by simpa using h2 (i + 1) q (by simpa using hq)⟩
def fnd (es : List MapEntry) (i0 : Nat) : Option (Nat × C) → Option (Nat × Value)
  | none => none
  | some (i, _) => (es[i - i0]?).map fun e => (i, e.val)
theorem findNow_ok {kd : TypeDesc} {s : Ks} (hk : ∀ a b t, keyEq s a b = some t → Instr.sameNow kd a b = some t) (key : Value) : ∀ (kv : List (Value × C)) (es : List MapEntry) (i : Nat) (r : Option (Nat × C)), KvOk kv es → kvFind s key kv i = some r →
    Instr.findNow kd key es i = some (fnd es i r) ∧ ∀ j c, r = some (j, c) → i ≤ j ∧ (∃ q, kv[j - i]? = some (q, c)) ∧ ∃ k, kv[j - i]? = some (k, c) ∧ keyEq s key k = some true
  | [], es, i, r, hk', h => by
    have : es = [] := List.eq_nil_of_length_eq_zero hk'.1
    subst this
    cases h
    exact ⟨rfl, fun j c e => by cases e⟩
  | (k, c) :: kv, es, i, r, hk', h => by
    cases es with
    | nil => exact absurd hk'.1 (by simp)
    | cons e es =>
      obtain ⟨e1, e2⟩ := hk'.tail
      simp only at e1
      unfold kvFind at h
      split at h
      · rename_i ht
        cases h
        refine ⟨by simp [Instr.findNow, e1, hk _ _ _ ht, fnd], fun j c' e => ?_⟩
        cases e
        exact ⟨Nat.le_refl _, ⟨k, by simp⟩, k, by simp, ht⟩
      · rename_i ht
        obtain ⟨h1, h2⟩ := findNow_ok hk key kv es (i + 1) r e2 h
        refine ⟨?_, fun j c' e => ?_⟩
        · simp only [Instr.findNow, e1, hk _ _ _ ht, h1]
          cases r with
          | none => rfl
          | some p =>
            obtain ⟨j, c'⟩ := p
            obtain ⟨h3, _⟩ := h2 j c' rfl
            simp only [fnd]
            rw [show j - i = (j - (i + 1)) + 1 from by omega]
            simp
        · obtain ⟨h3, ⟨q, h4⟩, k', h5, h6⟩ := h2 j c' e
          rw [show j - i = (j - (i + 1)) + 1 from by omega]
          exact ⟨by omega, ⟨q, by simpa using h4⟩, k', by simpa using h5, h6⟩
      · cases h
theorem findAsk_ok {kt : TypeId} {s : Ks} (hk : ∀ a b t, keyEq s a b = some t → ∀ w, (Op.equal kt a b).run P w = .ok t w) (key : Value) (w : World) : ∀ (kv : List (Value × C)) (es : List MapEntry) (i : Nat) (r : Option (Nat × C)), KvOk kv es → kvFind s key kv i = some r →
    (Instr.findAsking kt key es i).run P w = .ok (fnd es i r) w ∧ ∀ j c, r = some (j, c) → i ≤ j ∧ ∃ k, kv[j - i]? = some (k, c) ∧ keyEq s key k = some true
  | [], es, i, r, hk', h => by
    have : es = [] := List.eq_nil_of_length_eq_zero hk'.1
    subst this
    cases h
    exact ⟨by simp [Instr.findAsking, fnd], fun j c e => by cases e⟩
  | (k, c) :: kv, es, i, r, hk', h => by
    cases es with
    | nil => exact absurd hk'.1 (by simp)
    | cons e es =>
      obtain ⟨e1, e2⟩ := hk'.tail
      simp only at e1
      unfold kvFind at h
      split at h
      · rename_i ht
        cases h
        refine ⟨by simp [Instr.findAsking, e1, hk _ _ _ ht w, fnd], fun j c' e => ?_⟩
        cases e
        exact ⟨Nat.le_refl _, k, by simp, ht⟩
      · rename_i ht
        obtain ⟨h1, h2⟩ := findAsk_ok hk key w kv es (i + 1) r e2 h
        refine ⟨?_, fun j c' e => ?_⟩
        · simp only [Instr.findAsking, e1, Sem.run_bind, hk _ _ _ ht w, Result.andThen_ok, Bool.false_eq_true, if_false, h1]
          cases r with
          | none => rfl
          | some p =>
            obtain ⟨j, c'⟩ := p
            obtain ⟨h3, _⟩ := h2 j c' rfl
            simp only [fnd]
            rw [show j - i = (j - (i + 1)) + 1 from by omega]
            simp
        · obtain ⟨h3, k', h5, h6⟩ := h2 j c' e
          rw [show j - i = (j - (i + 1)) + 1 from by omega]
          exact ⟨by omega, k', by simpa using h5, h6⟩
      · cases h
theorem find_ok {kt : TypeId} {s : Ks} (hk : KeyOk P kt s) (key : Value) (w : World) {kv : List (Value × C)} {es : List MapEntry} {r : Option (Nat × C)} (h : KvOk kv es) (hf : kvFind s key kv 0 = some r) :
    (Instr.findKey kt key es).run P w = .ok (fnd es 0 r) w ∧ ∀ j c, r = some (j, c) → ∃ k, kv[j]? = some (k, c) ∧ keyEq s key k = some true := by
  obtain ⟨kd, hu, hk1 | hk2⟩ := hk.eq
  · obtain ⟨h1, h2⟩ := findNow_ok hk1 key kv es 0 r h hf
    refine ⟨MapKept.run_findKey hu h1, fun j c e => ?_⟩
    obtain ⟨_, _, k, h3, h4⟩ := h2 j c e
    exact ⟨k, by simpa using h3, h4⟩
  · obtain ⟨h1, h2⟩ := findAsk_ok (fun a b t e => (hk2 a b t e).2) key w kv es 0 r h hf
    refine ⟨?_, fun j c e => ?_⟩
    · cases kv with
      | nil =>
        have : es = [] := List.eq_nil_of_length_eq_zero h.1
        subst this
        cases hf
        exact MapKept.run_findKey hu rfl
      | cons p kv =>
        cases es with
        | nil => exact absurd h.1 (by simp)
        | cons e es =>
          obtain ⟨e1, _⟩ := h.tail
          have hn : Instr.findNow kd key (e :: es) 0 = none := by
            unfold kvFind at hf
            split at hf
            · rename_i ht; simp [Instr.findNow, e1, (hk2 _ _ _ ht).1]
            · rename_i ht; simp [Instr.findNow, e1, (hk2 _ _ _ ht).1]
            · cases hf
          simp only [Instr.findKey, Sem.run_bind, run_underlying hu, Result.andThen_ok, hn]
          exact h1
    · obtain ⟨_, k, h3, h4⟩ := h2 j c e
      exact ⟨k, by simpa using h3, h4⟩
theorem same_bits {s : Ks} {a b : Value} (h : keyEq s a b = some true) : Instr.sameBits 10000 b a = true := by
  unfold keyEq at h
  split at h
  · rename_i x y
    simp only [Option.some.injEq, beq_iff_eq] at h
    subst h
    simp [Instr.sameBits]
  · rename_i x y
    simp only [Option.some.injEq] at h
    obtain rfl := (MapKept.bytes_beq _ _).1 h
    simp [Instr.sameBits, MapKept.bytes_beq]
  · rename_i n xs ys
    split at h
    · have key : ∀ {xs ys : List Value}, keyEqL xs ys = some true → xs = ys ∧ ∀ x ∈ xs, ∃ n : Int, x = .int .i64 n := by
        intro xs
        induction xs with
        | nil =>
          intro ys h
          cases ys with
          | nil => exact ⟨rfl, by simp⟩
          | cons y ys => simp [keyEqL] at h
        | cons x xs ih =>
          intro ys h
          unfold keyEqL at h
          split at h
          · rename_i h1; cases h1
          · rename_i a r b s h1
            cases h1
            split at h
            · rename_i q hq
              simp only [Option.some.injEq, Bool.and_eq_true, beq_iff_eq] at h
              obtain ⟨rfl, rfl⟩ := h
              obtain ⟨rfl, h2⟩ := ih hq
              refine ⟨rfl, fun x hx => ?_⟩
              rcases List.mem_cons.1 hx with rfl | hx
              · exact ⟨_, rfl⟩
              · exact h2 x hx
            · cases h
          · cases h
      obtain ⟨rfl, h2⟩ := key h
      show Instr.sameBits (9999 + 1) _ _ = true
      simp only [Instr.sameBits, beq_self_eq_true, Bool.true_and, List.all_eq_true]
      rintro ⟨x, y⟩ hxy
      rw [List.zip_eq_zipWith, ← List.map_uncurry_zip_eq_zipWith] at hxy
      simp only [List.zip_eq_zipWith, List.zipWith_self, List.map_map, List.mem_map] at hxy
      obtain ⟨z, hz, e⟩ := hxy
      cases e
      obtain ⟨n, rfl⟩ := h2 _ hz
      simp [Instr.sameBits]
    · cases h
  · cases h
end
/-- a map is written -/
theorem RelG.mapset {g : Gh} {M0 : Nat → Prop} {w0 w : World} {st : ST} {a : Act} (h : RelG g M0 w0 st a w) {id : Nat} {kv kv' : List (Value × C)} {es' : Array MapEntry} {clock : Nat} (hm : st.hp[id]? = some (.m kv)) (hs : es'.size = kv'.length)
    (hc : ∀ (i : Nat) (p : Value × C), kv'[i]? = some p → (∃ e : MapEntry, es'[i]? = some e ∧ e.key = p.1 ∧ CellR g st.hp w id 0 p.2 e.val) ∧ ∀ k cs, p.2 ≠ .o k cs) :
    RelG g M0 w0 { st with hp := st.hp.set id (.m kv') } a { w with heap := w.heap.setIfInBounds (g.γ (.ob id)) (.map es' clock) } := by
  have hlt : id < st.hp.length := (List.getElem?_eq_some_iff.1 hm).1
  have hlid : Lv st.hp g (.ob id) := .inr ⟨kv, hm⟩
  have hne : ∀ i, i ≠ id → (st.hp.set id (.m kv'))[i]? = st.hp[i]? := fun i hi => by rw [List.getElem?_set_ne (Ne.symm hi)]
  have h1 : (st.hp.set id (.m kv'))[id]? = some (.m kv') := by simp [hlt]
  have hfx : ∀ b, b ≠ g.γ (.ob id) → (w.heap.setIfInBounds (g.γ (.ob id)) (.map es' clock))[b]? = w.heap[b]? := fun b hb => by simp [Array.getElem?_setIfInBounds, Ne.symm hb]
  have hrow : ∀ i r, (st.hp.set id (.m kv'))[i]? = some (.r r) → i ≠ id ∧ st.hp[i]? = some (.r r) := by
    intro i r e
    by_cases hi : i = id
    · subst hi; rw [h1] at e; cases e
    · exact ⟨hi, by rw [← hne i hi]; exact e⟩
  have hsub : ∀ ℓ, Lv (st.hp.set id (.m kv')) g ℓ → Lv st.hp g ℓ := by
    intro ℓ hl
    cases ℓ with
    | ob i =>
      by_cases e : i = id
      · subst e; exact hlid
      · rcases hl with ⟨r', e1, e2⟩ | ⟨kv, e1⟩
        · exact .inl ⟨r', by rw [← hne i e]; exact e1, e2⟩
        · exact .inr ⟨kv, by rw [← hne i e]; exact e1⟩
    | cl i j =>
      obtain ⟨r', k, cs, e1, e2, e3⟩ := hl
      exact ⟨r', k, cs, (hrow i r' e1).2, e2, e3⟩
  have far : ∀ ℓ, Lv st.hp g ℓ → ℓ ≠ .ob id → (w.heap.setIfInBounds (g.γ (.ob id)) (.map es' clock))[g.γ ℓ]? = w.heap[g.γ ℓ]? := fun ℓ hl hn => hfx _ (fun he => hn (h.hr.inj _ _ hl hlid he))
  have hmo : Mo g st.hp w g (st.hp.set id (.m kv')) { w with heap := w.heap.setIfInBounds (g.γ (.ob id)) (.map es' clock) } (fun _ => True) := by
    refine ⟨fun i hi => ⟨?_, rfl, rfl⟩, fun b _ ho => ho.elim .inl (fun ⟨ℓ, hl, e⟩ => .inr ⟨ℓ, hsub ℓ hl, e⟩), by simp, fun b hb ho => hfx b (fun e => ho (.inr ⟨.ob id, hlid, e.symm⟩)), fun i _ hi r' j k cs e1 e2 => ?_⟩
    · by_cases e : i = id
      · subst e; exact ⟨_, h1, rfl⟩
      · obtain ⟨o, e1, e2⟩ := hi
        exact ⟨o, by rw [hne i e]; exact e1, e2⟩
    · obtain ⟨hi', e3⟩ := hrow i r' e1
      refine ⟨r', e3, e2, fun _ => World.cell?_of_block (hfx _ (fun he => ?_))⟩
      by_cases h0 : g.κ i = 0
      · rcases h.hr.row i r' e3 with ⟨_, h2⟩ | ⟨h2, _⟩
        · rw [h2] at e2; simp at e2
        · exact h2 h0
      · have := h.hr.inj (.ob i) (.ob id) (.inl ⟨r', e3, h0⟩) hlid he
        injection this with this
        exact hi' this
  refine h.mo hmo ⟨fun q hq => by simpa using h.hr.ml q hq, fun ℓ hl => h.hr.md ℓ (hsub ℓ hl), fun ℓ ℓ' h1 h2 e => h.hr.inj _ _ (hsub _ h1) (hsub _ h2) e, fun i r e => ?_, fun i kv2 e => ?_⟩ (fun ℓ hl => h.new ℓ (hsub ℓ hl)) ?_
  · obtain ⟨hi, e3⟩ := hrow i r e
    exact RowR.mo hmo e3 (h.hr.row i r e3) (fun h0 => far _ (.inl ⟨r, e3, h0⟩) (by simpa using hi)) (fun j k cs hj hn => ⟨rfl, far _ ⟨r, k, cs, e3, hj, hn⟩ (by simp)⟩)
  · by_cases hi : i = id
    · subst hi
      rw [h1] at e
      cases e
      refine ⟨es', clock, ?_, hs, fun j p hp => ?_⟩
      · obtain ⟨es, ck, q1, _⟩ := h.hr.mp i kv hm
        have := (Array.getElem?_eq_some_iff.1 q1).1
        simp [this]
      · obtain ⟨⟨e, f1, f2, f3⟩, f4⟩ := hc j p hp
        exact ⟨⟨e, f1, f2, CellR.mo hmo f3 fun k cs hx => absurd hx (f4 k cs)⟩, f4⟩
    · rw [hne i hi] at e
      exact MpR.mo hmo e (h.hr.mp i kv2 e) (far _ (.inr ⟨kv2, e⟩) (by simpa using hi))
  · refine ⟨h.fp.os, h.fp.tape, h.fp.output, by simpa using h.fp.size, fun k hk' hM => ?_, h.fp.drawn⟩
    rw [← h.fp.block k hk' hM]
    refine hfx k (fun e => ?_)
    rcases h.new (.ob id) hlid with h2 | h2
    · exact hM (by rw [e]; exact h2)
    · omega
end Go.Proofs.Ytgclmlbaodcccaa
