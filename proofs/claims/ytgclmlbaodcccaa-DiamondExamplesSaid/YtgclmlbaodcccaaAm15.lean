/- The abstract machine: calls. -/
import Derived.Test.YtgclmlbaodcccaaAm14
namespace Go.Proofs.Ytgclmlbaodcccaa
set_option linter.unusedVariables false
set_option linter.unusedSimpArgs false
open Go.RowKit

/-- the caller's number of the callee's object i -/
def upn (σ : List Nat) (n i : Nat) : Nat := if i < σ.length then σ.getD i 0 else n + (i - σ.length)
def dn (σ : List Nat) (n id : Nat) : Option Nat :=
  match idx σ id 0 with
  | some i => some i
  | none => if n ≤ id then some (id - n + σ.length) else none
def C.up (f : Nat → Nat) : C → C
  | .s id n => .s (f id) n
  | .p id off => .p (f id) off
  | .b id j n => .b (f id) j n
  | .m id => .m (f id)
  | .w id off n k => .w (f id) off n k
  | .f fn ids => .f fn (ids.map f)
  | c => c
def A0.up (f : Nat → Nat) : A0 → A0
  | .c x => .c (x.up f)
  | .g xs => .g (xs.map (C.up f))
def AV.up (f : Nat → Nat) : AV → AV
  | .a x => .a (x.up f)
  | .tup xs => .tup (xs.map (A0.up f))
def Ob.up (f : Nat → Nat) : Ob → Ob
  | .x => .x
  | .d => .d
  | .r q => .r { q with cells := q.cells.map (C.up f) }
  | .m kv => .m (kv.map fun p => (p.1, p.2.up f))
def setAll : List Ob → List Nat → List Ob → List Ob
  | hp, i :: σ, o :: outs => setAll (hp.set i o) σ outs
  | hp, _, outs => hp ++ outs
def C.nb (σ : List Nat) : C → C
  | .b id j n => if σ.contains id then .u else .b id j n
  | c => c
def A0.nb (σ : List Nat) : A0 → A0
  | .c x => .c (x.nb σ)
  | .g xs => .g (xs.map (C.nb σ))
def AV.nb (σ : List Nat) : AV → AV
  | .a x => .a (x.nb σ)
  | .tup xs => .tup (xs.map (A0.nb σ))
def nbTm (σ : List Nat) (tm : List (Nat × AV)) : List (Nat × AV) :=
  match σ with
  | [] => tm
  | _ => tm.map fun p => (p.1, p.2.nb σ)
def ST.back (st : ST) (σ : List Nat) (outs : List Ob) : ST := { st with tm := nbTm σ st.tm, hp := setAll st.hp σ (outs.map (Ob.up (upn σ st.hp.length))) }

theorem idx_shift (σ : List Nat) (id j : Nat) : idx σ id j = (idx σ id 0).map (· + j) := by
  induction σ generalizing j with
  | nil => rfl
  | cons x r ih =>
    simp only [idx]
    split
    · simp
    · rw [ih (j + 1), ih 1]
      cases idx r id 0 <;> simp [Nat.add_assoc, Nat.add_comm 1 j]
theorem idx_none {σ : List Nat} {id : Nat} (h : idx σ id 0 = none) : id ∉ σ := by
  induction σ with
  | nil => simp
  | cons x r ih =>
    simp only [idx] at h
    split at h
    · cases h
    · rw [idx_shift] at h
      simp at h
      intro hm
      rcases List.mem_cons.1 hm with rfl | hm
      · rename_i hne; exact hne rfl
      · exact ih h hm
theorem idx_of {σ : List Nat} (hd : distinct σ = true) {i id : Nat} (h : σ[i]? = some id) : idx σ id 0 = some i := by
  cases hx : idx σ id 0 with
  | none => exact absurd (List.mem_of_getElem? h) (idx_none hx)
  | some j => rw [distinct_inj hd (idx_get hx) h]
theorem setAll_len (hp : List Ob) (σ : List Nat) (outs : List Ob) (h : σ.length ≤ outs.length) : (setAll hp σ outs).length = hp.length + (outs.length - σ.length) := by
  induction σ generalizing hp outs with
  | nil => cases outs <;> simp [setAll]
  | cons s σ ih =>
    cases outs with
    | nil => simp at h
    | cons o outs =>
      simp only [setAll]
      rw [ih _ _ (by simpa using h)]
      simp
theorem setAll_get (hp : List Ob) (σ : List Nat) (outs : List Ob) (h : σ.length ≤ outs.length) (hd : distinct σ = true) (hl : ∀ i ∈ σ, i < hp.length) (id : Nat) :
    (setAll hp σ outs)[id]? = match dn σ hp.length id with | some i => outs[i]? | none => hp[id]? := by
  induction σ generalizing hp outs with
  | nil =>
    have : setAll hp [] outs = hp ++ outs := by cases outs <;> rfl
    rw [this]
    unfold dn
    simp only [idx]
    split
    · rename_i i hi
      split at hi
      · cases hi
        rename_i hge
        rw [List.getElem?_append_right hge]; simp
      · cases hi
    · rename_i hi
      split at hi
      · cases hi
      · rename_i hlt
        rw [List.getElem?_append_left (by omega)]
  | cons s σ ih =>
    cases outs with
    | nil => simp at h
    | cons o outs =>
      simp only [distinct, Bool.and_eq_true, Bool.not_eq_true'] at hd
      obtain ⟨hd1, hd2⟩ := hd
      have hs : s ∉ σ := by simpa using hd1
      simp only [setAll]
      rw [ih _ _ (by simpa using h) hd2 (fun i hi => by simpa using hl i (List.mem_cons_of_mem _ hi))]
      have hsl := hl s (by simp)
      by_cases e : s = id
      · subst e
        have h1 : idx σ s 0 = none := by
          cases hx : idx σ s 0 with
          | none => rfl
          | some j => exact absurd (List.mem_of_getElem? (idx_get hx)) hs
        unfold dn
        simp only [h1, idx, if_true, List.length_set]
        rw [if_neg (by omega)]
        simp [hsl]
      · unfold dn
        simp only [idx, if_neg e, List.length_set]
        rw [idx_shift σ id (0 + 1)]
        cases hx : idx σ id 0 with
        | some j => simp
        | none =>
          simp only [Option.map_none, List.length_cons]
          by_cases hge : hp.length ≤ id
          · rw [if_pos hge, if_pos hge]
            rw [show id - hp.length + (σ.length + 1) = (id - hp.length + σ.length) + 1 from by omega]
            simp
          · rw [if_neg hge, if_neg hge]
            rw [List.getElem?_set_ne e]
theorem dn_up {σ : List Nat} {n i : Nat} (hd : distinct σ = true) (hl : ∀ j ∈ σ, j < n) : dn σ n (upn σ n i) = some i := by
  unfold upn
  split
  · rename_i hi
    unfold dn
    have : σ[i]? = some (σ.getD i 0) := by rw [List.getD, List.getElem?_eq_getElem hi]; rfl
    rw [idx_of hd this]
  · rename_i hi
    unfold dn
    cases hx : idx σ (n + (i - σ.length)) 0 with
    | some j =>
      have := hl _ (List.mem_of_getElem? (idx_get hx))
      omega
    | none =>
      simp only
      rw [if_pos (by omega)]
      congr 1
      omega
def Gh.bk (g g' : Gh) (σ : List Nat) (n : Nat) : Gh :=
  ⟨fun ℓ => match ℓ with
    | .ob id => match dn σ n id with | some i => g'.γ (.ob i) | none => g.γ (.ob id)
    | .cl id j => match dn σ n id with | some i => g'.γ (.cl i j) | none => g.γ (.cl id j),
   fun id => match dn σ n id with | some i => g'.κ i | none => g.κ id, g.M⟩
theorem up_o {f : Nat → Nat} {c : C} {k : Nat × Nat} {cs : List Tr} (h : c.up f = .o k cs) : c = .o k cs := by cases c <;> first | exact h | cases h
section
variable {g g' : Gh} {hp outs : List Ob} {w w' : World} {σ : List Nat}
/-- what holds where a call comes back -/
structure Bk (g g' : Gh) (hp outs : List Ob) (w w' : World) (σ : List Nat) : Prop where
  hr : HR g hp w
  hr' : HR g' outs w'
  len : σ.length ≤ outs.length
  d : distinct σ = true
  lt : ∀ i ∈ σ, i < hp.length
  /-- the others' blocks are among those that the callee kept off -/
  m : ∀ b, (g.M b ∨ ∃ ℓ, Lv hp g ℓ ∧ g.γ ℓ = b ∧ (match ℓ with | .ob i => i ∉ σ | .cl i _ => i ∉ σ)) → g'.M b
  fx : ∀ b, b < w.heap.size → g'.M b → w'.heap[b]? = w.heap[b]?
  sz : w.heap.size ≤ w'.heap.size
  fx2 : ∀ b, b < w.heap.size → ¬ Ow hp g b → w'.heap[b]? = w.heap[b]?
  pin : ∀ i id, σ[i]? = some id → g'.γ (.ob i) = g.γ (.ob id) ∧ g'.κ i = g.κ id
  new : ∀ ℓ, Lv outs g' ℓ → LiveB hp g (g'.γ ℓ) ∨ w.heap.size ≤ g'.γ ℓ
abbrev bkh (hp outs : List Ob) (σ : List Nat) : List Ob := setAll hp σ (outs.map (Ob.up (upn σ hp.length)))
theorem Bk.get (h : Bk g g' hp outs w w' σ) (id : Nat) : (bkh hp outs σ)[id]? = match dn σ hp.length id with | some i => (outs[i]?).map (Ob.up (upn σ hp.length)) | none => hp[id]? := by
  unfold bkh
  rw [setAll_get hp σ _ (by simpa using h.len) h.d h.lt]
  cases dn σ hp.length id <;> simp
theorem up_row {o : Ob} {f : Nat → Nat} {r' : Row} (h : o.up f = .r r') : ∃ r, o = .r r ∧ r' = { r with cells := r.cells.map (C.up f) } := by
  cases o <;> simp only [Ob.up] at h <;> first | (cases h; done) | (cases h; exact ⟨_, rfl, rfl⟩)
theorem up_mp {o : Ob} {f : Nat → Nat} {kv' : List (Value × C)} (h : o.up f = .m kv') : ∃ kv, o = .m kv ∧ kv' = kv.map fun p => (p.1, p.2.up f) := by
  cases o <;> simp only [Ob.up] at h <;> first | (cases h; done) | (cases h; exact ⟨_, rfl, rfl⟩)
theorem dn_none {n id : Nat} (h : dn σ n id = none) : id ∉ σ ∧ id < n := by
  unfold dn at h
  split at h
  · cases h
  · rename_i hx
    split at h
    · cases h
    · exact ⟨idx_none hx, by omega⟩
theorem Bk.lv (h : Bk g g' hp outs w w' σ) {ℓ : Loc} (hl : Lv (bkh hp outs σ) (g.bk g' σ hp.length) ℓ) :
    (∃ ℓ', Lv outs g' ℓ' ∧ (g.bk g' σ hp.length).γ ℓ = g'.γ ℓ' ∧ (match ℓ, ℓ' with | .ob id, .ob i => dn σ hp.length id = some i | .cl id j, .cl i j' => dn σ hp.length id = some i ∧ j = j' | _, _ => False)) ∨
    (Lv hp g ℓ ∧ (g.bk g' σ hp.length).γ ℓ = g.γ ℓ ∧ (match ℓ with | .ob i => i ∉ σ ∧ dn σ hp.length i = none | .cl i _ => i ∉ σ ∧ dn σ hp.length i = none)) := by
  cases ℓ with
  | ob id =>
    cases hd : dn σ hp.length id with
    | some i =>
      left
      refine ⟨.ob i, ?_, by simp [Gh.bk, hd], hd⟩
      rcases hl with ⟨r', e1, e2⟩ | ⟨kv', e1⟩
      · rw [h.get, hd] at e1
        simp only [Option.map_eq_some_iff] at e1
        obtain ⟨o, o1, o2⟩ := e1
        obtain ⟨r, rfl, _⟩ := up_row o2
        exact .inl ⟨r, o1, by simpa [Gh.bk, hd] using e2⟩
      · rw [h.get, hd] at e1
        simp only [Option.map_eq_some_iff] at e1
        obtain ⟨o, o1, o2⟩ := e1
        obtain ⟨kv, rfl, _⟩ := up_mp o2
        exact .inr ⟨kv, o1⟩
    | none =>
      right
      refine ⟨?_, by simp [Gh.bk, hd], (dn_none hd).1, hd⟩
      rcases hl with ⟨r', e1, e2⟩ | ⟨kv', e1⟩
      · rw [h.get, hd] at e1
        exact .inl ⟨r', e1, by simpa [Gh.bk, hd] using e2⟩
      · rw [h.get, hd] at e1
        exact .inr ⟨kv', e1⟩
  | cl id j =>
    obtain ⟨r', k, cs, e1, e2, e3⟩ := hl
    cases hd : dn σ hp.length id with
    | some i =>
      left
      rw [h.get, hd] at e1
      simp only [Option.map_eq_some_iff] at e1
      obtain ⟨o, o1, o2⟩ := e1
      obtain ⟨r, rfl, rfl⟩ := up_row o2
      simp only [List.getElem?_map, Option.map_eq_some_iff] at e2
      obtain ⟨c, c1, c2⟩ := e2
      have := up_o c2
      subst this
      exact ⟨.cl i j, ⟨r, k, cs, o1, c1, e3⟩, by simp [Gh.bk, hd], hd, rfl⟩
    | none =>
      right
      rw [h.get, hd] at e1
      exact ⟨⟨r', k, cs, e1, e2, e3⟩, by simp [Gh.bk, hd], (dn_none hd).1, hd⟩
theorem Bk.ow (h : Bk g g' hp outs w w' σ) {b : Nat} (ho : Ow (bkh hp outs σ) (g.bk g' σ hp.length) b) : Ow outs g' b := by
  rcases ho with ho | ⟨ℓ, hl, rfl⟩
  · exact .inl (h.m b (.inl ho))
  · rcases h.lv hl with ⟨ℓ', h1, h2, _⟩ | ⟨h1, h2, h3⟩
    · exact .inr ⟨ℓ', h1, h2.symm⟩
    · refine .inl (h.m _ (.inr ⟨ℓ, h1, h2.symm, ?_⟩))
      cases ℓ <;> exact h3.1
theorem Bk.up (h : Bk g g' hp outs w w' σ) {c : C} {y : Value} (hc : CR g' outs w' c y) : CR (g.bk g' σ hp.length) (bkh hp outs σ) w' (c.up (upn σ hp.length)) y := by
  have bn : ∀ i, Bn outs i → Bn (bkh hp outs σ) (upn σ hp.length i) := by
    rintro i ⟨o, h1, h2⟩
    refine ⟨o.up (upn σ hp.length), ?_, by cases o <;> first | rfl | cases h2⟩
    rw [h.get, dn_up h.d h.lt]
    simp [h1]
  have gg : ∀ i, (g.bk g' σ hp.length).γ (.ob (upn σ hp.length i)) = g'.γ (.ob i) ∧ (g.bk g' σ hp.length).κ (upn σ hp.length i) = g'.κ i := by
    intro i
    simp [Gh.bk, dn_up h.d h.lt]
  have hmono : ∀ {t : Tr} {v : Value}, Rd (Ow outs g') w' t v → Rd (Ow (bkh hp outs σ) (g.bk g' σ hp.length)) w' t v := fun hr => hr.mono (fun _ _ ho => h.ow ho)
  cases c with
  | u => trivial
  | v x => exact hc
  | t k cs => exact hmono hc
  | s id n =>
    obtain ⟨h1, h2, A, h3, h4, h5⟩ := hc
    exact ⟨bn id h1, by rw [(gg id).2]; exact h2, A, by rw [(gg id).2]; exact h3, by rw [(gg id).1, (gg id).2]; exact h4, h5⟩
  | p id off => obtain ⟨h1, h2⟩ := hc; exact ⟨bn id h1, by rw [(gg id).1]; exact h2⟩
  | q cs off =>
    obtain ⟨b, o, us, h1, h2, h3, h4, h5⟩ := hc
    exact ⟨b, o, us, h1, fun ho => h2 (h.ow ho), h3, h4, fun j t hj => hmono (h5 j t hj)⟩
  | o k cs => exact hc
  | b id j n =>
    obtain ⟨h1, h2⟩ := hc
    refine ⟨bn id h1, fun r' k cs e1 e2 => ?_⟩
    rw [h.get, dn_up h.d h.lt] at e1
    simp only [Option.map_eq_some_iff] at e1
    obtain ⟨o, o1, o2⟩ := e1
    obtain ⟨r, rfl, rfl⟩ := up_row o2
    simp only [List.getElem?_map, Option.map_eq_some_iff] at e2
    obtain ⟨c, c1, c2⟩ := e2
    have := up_o c2
    subst this
    rw [(gg id).1]
    exact h2 r k cs o1 c1
  | m id => obtain ⟨h1, h2⟩ := hc; exact ⟨bn id h1, by rw [(gg id).1]; exact h2⟩
  | w id off n k => obtain ⟨h1, h2, h3, h4⟩ := hc; exact ⟨bn id h1, by rw [(gg id).2]; exact h2, by rw [(gg id).2]; exact h3, by rw [(gg id).1, (gg id).2]; exact h4⟩
  | f fn ids =>
    obtain ⟨h1, h2⟩ := hc
    refine ⟨fun i hi => ?_, ?_⟩
    · simp only [List.mem_map] at hi
      obtain ⟨id, hid, rfl⟩ := hi
      exact bn id (h1 id hid)
    · rw [h2]
      unfold clo
      rw [List.map_map]
      congr 2
      exact List.map_congr_left (fun id _ => by simp only [Function.comp]; rw [(gg id).1])
theorem Bk.upCell (h : Bk g g' hp outs w w' σ) {i id j : Nat} (hd : dn σ hp.length id = some i) {c : C} {y : Value} (hc : CellR g' outs w' i j c y) : CellR (g.bk g' σ hp.length) (bkh hp outs σ) w' id j (c.up (upn σ hp.length)) y := by
  cases c with
  | o k cs =>
    rcases hc with h1 | ⟨h1, n, c, arr, h2, h3, h4, h5, h6, h7, h8⟩
    · exact .inl h1
    · have e : (g.bk g' σ hp.length).γ (.cl id j) = g'.γ (.cl i j) := by simp [Gh.bk, hd]
      exact .inr ⟨h1, n, c, arr, by rw [e]; exact h2, h3, h4, h5, by rw [e]; exact h6, h7, fun q t hq => by obtain ⟨u, u1, u2⟩ := h8 q t hq; exact ⟨u, u1, u2.mono (fun _ _ ho => h.ow ho)⟩⟩
  | b _ _ _ => exact hc.elim
  | u => trivial
  | v x => exact h.up (c := .v x) hc
  | t k cs => exact h.up (c := .t k cs) hc
  | s id n => exact h.up (c := .s id n) hc
  | p id off => exact h.up (c := .p id off) hc
  | q cs off => exact h.up (c := .q cs off) hc
  | m id => exact h.up (c := .m id) hc
  | w id off n k => exact h.up (c := .w id off n k) hc
  | f fn ids => exact h.up (c := .f fn ids) hc
/-- what was, outside the callee's objects -/
theorem Bk.mo (h : Bk g g' hp outs w w' σ) (hs : ∀ i id, σ[i]? = some id → Bn hp id → Bn outs i) : Mo g hp w (g.bk g' σ hp.length) (bkh hp outs σ) w' (fun id => id ∉ σ) := by
  refine ⟨fun id hid => ?_, fun b hb ho => ?_, h.sz, h.fx2, fun id hS hid r' j k cs e1 e2 => ?_⟩
  · obtain ⟨o, o1, o2⟩ := hid
    have hlt : id < hp.length := (List.getElem?_eq_some_iff.1 o1).1
    cases hd : dn σ hp.length id with
    | none => exact ⟨⟨o, by rw [h.get, hd]; exact o1, o2⟩, by simp [Gh.bk, hd], by simp [Gh.bk, hd]⟩
    | some i =>
      have hσ : σ[i]? = some id := by
        unfold dn at hd
        split at hd
        · rename_i i' hi
          cases hd
          exact idx_get hi
        · rw [if_neg (by omega)] at hd; cases hd
      obtain ⟨p1, p2⟩ := h.pin i id hσ
      obtain ⟨o', q1, q2⟩ := hs i id hσ ⟨o, o1, o2⟩
      refine ⟨⟨o'.up (upn σ hp.length), by rw [h.get, hd]; simp [q1], by cases o' <;> first | rfl | cases q2⟩, by simp [Gh.bk, hd, p1], by simp [Gh.bk, hd, p2]⟩
  · rcases ho with ho | ⟨ℓ, hl, rfl⟩
    · exact .inl ho
    · rcases h.lv hl with ⟨ℓ', h1, h2, _⟩ | ⟨h1, h2, h3⟩
      · rcases h.new ℓ' h1 with h4 | h4
        · rw [h2]; exact .inr h4
        · rw [h2] at hb; omega
      · exact .inr ⟨ℓ, h1, h2.symm⟩
  · have hd : dn σ hp.length id = none := by
      unfold dn
      obtain ⟨o, o1, o2⟩ := hid
      have hlt : id < hp.length := (List.getElem?_eq_some_iff.1 o1).1
      cases hx : idx σ id 0 with
      | some i => exact absurd (List.mem_of_getElem? (idx_get hx)) hS
      | none => simp only; rw [if_neg (by omega)]
    rw [h.get, hd] at e1
    refine ⟨r', e1, e2, fun hlt => ?_⟩
    by_cases h0 : g.κ id = 0
    · rcases h.hr.row id r' e1 with ⟨_, h2⟩ | ⟨h2, _⟩
      · rw [h2] at e2; simp at e2
      · exact absurd h0 h2
    · exact World.cell?_of_block (h.fx _ hlt (h.m _ (.inr ⟨.ob id, .inl ⟨r', e1, h0⟩, rfl, hS⟩)))
theorem Bk.hrb (h : Bk g g' hp outs w w' σ) (hs : ∀ i id, σ[i]? = some id → Bn hp id → Bn outs i) : HR (g.bk g' σ hp.length) (bkh hp outs σ) w' := by
  have hm := h.mo hs
  have dinj : ∀ {a b i : Nat}, dn σ hp.length a = some i → dn σ hp.length b = some i → a = b := by
    intro a b i ha hb
    unfold dn at ha hb
    split at ha
    · rename_i i1 h1
      cases ha
      split at hb
      · rename_i i2 h2
        cases hb
        have e1 := idx_get h1
        have e2 := idx_get h2
        rw [e1] at e2; cases e2; rfl
      · split at hb
        · cases hb
          have := (List.getElem?_eq_some_iff.1 (idx_get h1)).1
          omega
        · cases hb
    · split at ha
      · cases ha
        split at hb
        · rename_i i2 h2
          cases hb
          have := (List.getElem?_eq_some_iff.1 (idx_get h2)).1
          omega
        · split at hb
          · injection hb with hb; omega
          · cases hb
      · cases ha
  have old : ∀ ℓ, Lv hp g ℓ → (match ℓ with | .ob i => i ∉ σ | .cl i _ => i ∉ σ) → w'.heap[g.γ ℓ]? = w.heap[g.γ ℓ]? := fun ℓ hl hn => h.fx _ (h.hr.lt hl) (h.m _ (.inr ⟨ℓ, hl, rfl, hn⟩))
  refine ⟨fun b hb => Nat.lt_of_lt_of_le (h.hr.ml b hb) h.sz, fun ℓ hl hM => ?_, fun ℓ1 ℓ2 hl1 hl2 he => ?_, fun id r' e1 => ?_, fun id kv' e1 => ?_⟩
  · rcases h.lv hl with ⟨ℓ', h1, h2, _⟩ | ⟨h1, h2, _⟩
    · rw [h2] at hM; exact h.hr'.md ℓ' h1 (h.m _ (.inl hM))
    · rw [h2] at hM; exact h.hr.md ℓ h1 hM
  · rcases h.lv hl1 with ⟨a1, a2, a3, a4⟩ | ⟨a2, a3, a4⟩
    · rcases h.lv hl2 with ⟨b1, b2, b3, b4⟩ | ⟨b2, b3, b4⟩
      · rw [a3, b3] at he
        have := h.hr'.inj _ _ a2 b2 he
        subst this
        cases ℓ1 <;> cases ℓ2 <;> cases a1 <;> simp only at a4 b4
        · rw [dinj a4 b4]
        · obtain ⟨a4, rfl⟩ := a4; obtain ⟨b4, rfl⟩ := b4; rw [dinj a4 b4]
      · exfalso
        rw [a3, b3] at he
        exact h.hr'.md a1 a2 (h.m _ (.inr ⟨ℓ2, b2, he.symm, by cases ℓ2 <;> exact b4.1⟩))
    · rcases h.lv hl2 with ⟨b1, b2, b3, b4⟩ | ⟨b2, b3, b4⟩
      · exfalso
        rw [a3, b3] at he
        exact h.hr'.md b1 b2 (h.m _ (.inr ⟨ℓ1, a2, he, by cases ℓ1 <;> exact a4.1⟩))
      · rw [a3, b3] at he
        exact h.hr.inj _ _ a2 b2 he
  · cases hd : dn σ hp.length id with
    | some i =>
      rw [h.get, hd] at e1
      simp only [Option.map_eq_some_iff] at e1
      obtain ⟨o, o1, o2⟩ := e1
      obtain ⟨r, rfl, rfl⟩ := up_row o2
      have ek : (g.bk g' σ hp.length).κ id = g'.κ i := by simp [Gh.bk, hd]
      have eg : (g.bk g' σ hp.length).γ (.ob id) = g'.γ (.ob i) := by simp [Gh.bk, hd]
      rcases h.hr'.row i r o1 with ⟨k1, k2⟩ | ⟨k1, k2, arr, k3, k4, k5, k6, k7⟩
      · exact .inl ⟨by rw [ek]; exact k1, by simp [k2]⟩
      · refine .inr ⟨by rw [ek]; exact k1, fun hs hn => k2 hs (by simpa using hn), arr, by rw [eg]; exact k3, by simpa using k4, by rw [ek]; exact k5, by rw [ek]; exact k6, fun j x hj => ?_⟩
        simp only [List.getElem?_map, Option.map_eq_some_iff] at hj
        obtain ⟨c, c1, rfl⟩ := hj
        obtain ⟨u, u1, u2⟩ := k7 j c c1
        exact ⟨u, u1, h.upCell hd u2⟩
    | none =>
      rw [h.get, hd] at e1
      have hn := (dn_none hd).1
      exact RowR.mo hm e1 (h.hr.row id r' e1) (fun h0 => old (.ob id) (.inl ⟨r', e1, h0⟩) hn) (fun j k cs hj hne => ⟨by simp [Gh.bk, hd], old (.cl id j) ⟨r', k, cs, e1, hj, hne⟩ hn⟩)
  · cases hd : dn σ hp.length id with
    | some i =>
      rw [h.get, hd] at e1
      simp only [Option.map_eq_some_iff] at e1
      obtain ⟨o, o1, o2⟩ := e1
      obtain ⟨kv, rfl, rfl⟩ := up_mp o2
      have eg : (g.bk g' σ hp.length).γ (.ob id) = g'.γ (.ob i) := by simp [Gh.bk, hd]
      obtain ⟨es, clock, k1, k2, k3⟩ := h.hr'.mp i kv o1
      refine ⟨es, clock, by rw [eg]; exact k1, by simpa using k2, fun q p hq => ?_⟩
      rw [List.getElem?_map, Option.map_eq_some_iff] at hq
      obtain ⟨p', p1, rfl⟩ := hq
      obtain ⟨⟨e, f1, f2, f3⟩, f4⟩ := k3 q p' p1
      exact ⟨⟨e, f1, f2, h.upCell hd f3⟩, fun k cs e => f4 k cs (up_o e)⟩
    | none =>
      rw [h.get, hd] at e1
      have hn := (dn_none hd).1
      exact MpR.mo hm e1 (h.hr.mp id kv' e1) (old (.ob id) (.inr ⟨kv', e1⟩) hn)
end
theorem C.nb_ok {g g' : Gh} {hp hp' : List Ob} {w w' : World} {σ : List Nat} (hm : Mo g hp w g' hp' w' (fun id => id ∉ σ)) {c : C} {y : Value} (h : CR g hp w c y) : CR g' hp' w' (c.nb σ) y := by
  cases c with
  | b id j n =>
    simp only [C.nb]
    split
    · trivial
    · rename_i hn
      exact CR.mo hm (c := .b id j n) (by simpa [C.bok] using hn) h
  | u => trivial
  | v x => exact CR.mo hm (c := .v x) trivial h
  | t k cs => exact CR.mo hm (c := .t k cs) trivial h
  | s id n => exact CR.mo hm (c := .s id n) trivial h
  | p id off => exact CR.mo hm (c := .p id off) trivial h
  | q cs off => exact CR.mo hm (c := .q cs off) trivial h
  | o k cs => exact h.elim
  | m id => exact CR.mo hm (c := .m id) trivial h
  | w id off n k => exact CR.mo hm (c := .w id off n k) trivial h
  | f fn ids => exact CR.mo hm (c := .f fn ids) trivial h
theorem A0R.nb {R R' : C → Value → Prop} {σ : List Nat} (hf : ∀ c y, R c y → R' (c.nb σ) y) {x : A0} {y : Value} (h : A0R R x y) : A0R R' (x.nb σ) y := by
  cases x with
  | c x => exact hf _ _ h
  | g xs => obtain ⟨us, h1, h2⟩ := h; exact ⟨us, h1, h2.map hf⟩
theorem AVR.nb {R R' : C → Value → Prop} {σ : List Nat} (hf : ∀ c y, R c y → R' (c.nb σ) y) {x : AV} {y : Value} (h : AVR R x y) : AVR R' (x.nb σ) y := by
  cases x with
  | a x => exact A0R.nb hf h
  | tup xs =>
    obtain ⟨us, h1, h2, h3⟩ := h
    refine ⟨us, h1, by simp [h2], fun i x hx => ?_⟩
    rw [List.getElem?_map, Option.map_eq_some_iff] at hx
    obtain ⟨c, hc, rfl⟩ := hx
    obtain ⟨u, e1, e2⟩ := h3 i c hc
    exact ⟨u, e1, A0R.nb hf e2⟩
theorem A0R.up {R R' : C → Value → Prop} {f : Nat → Nat} (hf : ∀ c y, R c y → R' (c.up f) y) {x : A0} {y : Value} (h : A0R R x y) : A0R R' (x.up f) y := by
  cases x with
  | c x => exact hf _ _ h
  | g xs => obtain ⟨us, h1, h2⟩ := h; exact ⟨us, h1, h2.map hf⟩
theorem AVR.up {R R' : C → Value → Prop} {f : Nat → Nat} (hf : ∀ c y, R c y → R' (c.up f) y) {x : AV} {y : Value} (h : AVR R x y) : AVR R' (x.up f) y := by
  cases x with
  | a x => exact A0R.up hf h
  | tup xs =>
    obtain ⟨us, h1, h2, h3⟩ := h
    refine ⟨us, h1, by simp [h2], fun i x hx => ?_⟩
    rw [List.getElem?_map, Option.map_eq_some_iff] at hx
    obtain ⟨c, hc, rfl⟩ := hx
    obtain ⟨u, e1, e2⟩ := h3 i c hc
    exact ⟨u, e1, A0R.up hf e2⟩
def callable (P : Program) (f : FuncId) : Bool :=
  match P.funcs[f]? with
  | some fn => fn.body.isSome && fn.name != "runtime.NumGoroutine"
  | none => false
theorem run_callFunc_body {P : Program} {f : FuncId} (h : callable P f = true) (args : Array Value) (w : World) : (callFunc f args).run P w = .ok (.enter f args) w := by
  unfold callable at h
  split at h
  · rename_i fn hf
    simp only [Bool.and_eq_true, bne_iff_ne, ne_eq, Option.isSome_iff_exists] at h
    obtain ⟨⟨c, hc⟩, hn⟩ := h
    have hn' : (fn.name == "runtime.NumGoroutine") = false := by simpa using hn
    simp [callFunc, hf, hn, hc]
  · cases h
def clos (ids : List Nat) : List AV := ids.map fun id => .a (.c (.p id 0))
theorem stp_callC {P : Program} {o : Oper} {st : ST} {K : ST → Prop} {fop : Operand} {args : Array Operand} {ts : Array TypeId} {f : FuncId} {ids : List Nat} (σ : List Nat) {R : AV → List Ob → Prop}
    (hd : dok o st.n = true) (ho : o.op = .call { callee := .value fop, args := args, argTypes := ts }) (hf : st.ev fop = .a (.c (.f f ids))) (hcal : callable P f = true) (hσ : distinct σ = true) (hlt : ∀ i ∈ σ, i < st.hp.length)
    (hFC : FC P f ((args.toList.map st.ev ++ clos ids).map (AV.ren σ)) (pkh st.hp σ) R)
    (hs : ∀ r outs, R r outs → ∀ (i : Nat) (o : Ob), outs[i]? = some o → i < σ.length → o.born = true)
    (hK : ∀ r outs, R r outs → K ((st.back σ outs).put o.dst (r.up (upn σ st.hp.length)))) : StpC P o st K (σ = []) := by
  intro M0 w0 a w N Q hR hN
  obtain ⟨g, ⟨hp1, hp2⟩, hR⟩ := hR
  -- the callee's view
  let M' : Nat → Prop := fun b => Ow st.hp g b ∧ ¬ LiveB (pkh st.hp σ) (g.pk σ g.M) b
  have hM : ∀ b, M' b → Ow st.hp g b := fun b h => h.1
  have hlive : ∀ ℓ, Lv (pkh st.hp σ) (g.pk σ M') ℓ → Lv (pkh st.hp σ) (g.pk σ g.M) ℓ := fun ℓ hl => by cases ℓ <;> exact hl
  have hlive' : ∀ ℓ, Lv (pkh st.hp σ) (g.pk σ g.M) ℓ → Lv (pkh st.hp σ) (g.pk σ M') ℓ := fun ℓ hl => by cases ℓ <;> exact hl
  have hγ : ∀ ℓ, (g.pk σ M').γ ℓ = (g.pk σ g.M).γ ℓ := fun ℓ => by cases ℓ <;> rfl
  have hml : ∀ b, M' b → b < w.heap.size := fun b h => by
    rcases h.1 with h1 | ⟨ℓ, h1, rfl⟩
    · exact hR.hr.ml b h1
    · exact hR.hr.lt h1
  have hmd : ∀ ℓ, Lv (pkh st.hp σ) (g.pk σ M') ℓ → ¬ M' ((g.pk σ M').γ ℓ) := fun ℓ hl h => h.2 ⟨ℓ, hlive ℓ hl, (hγ ℓ).symm⟩
  have hHR : HR (g.pk σ M') (pkh st.hp σ) w := hR.hr.pk hM hml hmd hσ
  -- the arguments
  have hfv := hR.ev fop
  rw [hf] at hfv
  obtain ⟨hids, hfv⟩ := hfv
  have hargs : argsR (g.pk σ M') (pkh st.hp σ) w ((args.toList.map st.ev ++ clos ids).map (AV.ren σ)) ((args.map a.eval).toList ++ ids.map fun id => Value.pointer (some ⟨g.γ (.ob id), 0, none⟩)) := by
    refine ⟨by simp [clos], fun i x hx => ?_⟩
    rw [List.getElem?_map, Option.map_eq_some_iff] at hx
    obtain ⟨y, hy, rfl⟩ := hx
    rcases Nat.lt_or_ge i (args.toList.map st.ev).length with hl | hl
    · rw [List.getElem?_append_left hl, List.getElem?_map, Option.map_eq_some_iff] at hy
      obtain ⟨q, hq, rfl⟩ := hy
      refine ⟨a.eval q, ?_, AVR.ren hM (hR.ev q)⟩
      rw [List.getElem?_append_left (by simpa using hl)]
      simp only [Array.toList_map, List.getElem?_map, hq, Option.map_some]
    · rw [List.getElem?_append_right hl] at hy
      unfold clos at hy
      rw [List.getElem?_map, Option.map_eq_some_iff] at hy
      obtain ⟨id, hid, rfl⟩ := hy
      refine ⟨.pointer (some ⟨g.γ (.ob id), 0, none⟩), ?_, AVR.ren hM ⟨hids id (List.mem_of_getElem? hid), rfl⟩⟩
      rw [List.getElem?_append_right (by simpa using hl)]
      simp only [List.length_map, Array.toList_map] at hid ⊢
      rw [List.getElem?_map, hid]; rfl
  have hcall := hFC (g.pk σ M') w _ hHR hargs
  unfold Oper.wp execOp
  simp only [ho, resolve, hfv, clo, Deferred.ofValue, Sem.run_bind, Sem.run_pure, Result.andThen_ok, invoke]
  have e1 : (#[] ++ args.map a.eval ++ (ids.map fun id => Value.pointer (some ⟨g.γ (.ob id), 0, none⟩)).toArray) = ((args.map a.eval).toList ++ ids.map fun id => Value.pointer (some ⟨g.γ (.ob id), 0, none⟩)).toArray := by simp
  rw [e1, run_callFunc_body hcal]
  refine Calls.mono hcall ?_
  rintro e w' ⟨v, r, outs, g', rfl, hr, hHR', ⟨hlen, hext⟩, hnew, hv, hfp⟩
  have hpl : (pkh st.hp σ).length = σ.length := by simp [pkh]
  have hB : Bk g g' st.hp outs w w' σ := by
    refine ⟨hR.hr, hHR', by rw [← hpl]; exact hlen, hσ, hlt, fun b hb => ?_, fun b hb hMb => ?_, hfp.size, fun b hb ho => ?_, fun i id hi => ?_, fun ℓ hl => ?_⟩
    · rw [hext.1]
      show M' b
      rcases hb with hb | ⟨ℓ, hl, rfl, hn⟩
      · refine ⟨.inl hb, fun ⟨ℓ, hl, e⟩ => ?_⟩
        rw [pk_γ] at e
        exact hR.hr.md _ (pk_lv hl).1 (e ▸ hb)
      · refine ⟨.inr ⟨ℓ, hl, rfl⟩, fun ⟨ℓ', hl', e⟩ => ?_⟩
        rw [pk_γ] at e
        obtain ⟨q1, id, q2⟩ := pk_lv hl'
        have := hR.hr.inj _ _ q1 hl e
        subst this
        cases ℓ' with
        | ob i => simp only [τ] at hn q2; rw [getD_of q2] at hn; exact hn (List.mem_of_getElem? q2)
        | cl i j => simp only [τ] at hn q2; rw [getD_of q2] at hn; exact hn (List.mem_of_getElem? q2)
    · rw [hext.1] at hMb
      exact hfp.block b hb (fun ⟨ℓ, hl, e⟩ => hmd ℓ hl (e ▸ hMb))
    · refine hfp.block b hb (fun ⟨ℓ, hl, e⟩ => ho (.inr ⟨τ σ ℓ, (pk_lv hl).1, ?_⟩))
      rw [← e, pk_γ]
    · have hi' : i < (pkh st.hp σ).length := by rw [hpl]; exact (List.getElem?_eq_some_iff.1 hi).1
      obtain ⟨p1, p2⟩ := hext.2 i hi'
      refine ⟨p1.trans ?_, p2.trans ?_⟩
      · rw [pk_γ]; simp only [τ, getD_of hi]
      · show g.κ (σ.getD i 0) = _; rw [getD_of hi]
    · rcases hnew ℓ hl with ⟨ℓ0, q1, q2⟩ | q
      · left
        exact ⟨τ σ ℓ0, (pk_lv q1).1, by rw [← q2, pk_γ]⟩
      · exact .inr q
  have hsb : ∀ i id, σ[i]? = some id → Bn st.hp id → Bn outs i := by
    intro i id hi _
    have hil : i < σ.length := (List.getElem?_eq_some_iff.1 hi).1
    have hlt' : i < outs.length := by have := hB.len; omega
    exact ⟨outs[i], List.getElem?_eq_getElem hlt', hs r outs hr i _ (List.getElem?_eq_getElem hlt') hil⟩
  have hmo := hB.mo hsb
  have hback : RelG (g.bk g' σ st.hp.length) M0.P w0 (st.back σ outs) a w' := by
    refine ⟨hB.hrb hsb, fun ℓ hl => ?_, fun d => ?_, hR.n, hR.df, ?_⟩
    · rcases hB.lv hl with ⟨ℓ', h1, h2, _⟩ | ⟨h1, h2, _⟩
      · rw [h2]
        rcases hB.new ℓ' h1 with ⟨ℓ0, q1, q2⟩ | q
        · rw [← q2]; exact hR.new ℓ0 q1
        · exact .inr (Nat.le_trans hR.fp.size q)
      · rw [h2]; exact hR.new ℓ h1
    · show AVR _ (look (nbTm σ st.tm) d) _
      have key := AVR.nb (σ := σ) (fun c y hc => C.nb_ok hmo hc) (hR.tm d)
      cases σ with
      | nil => exact AVR.mo ⟨hmo.bn, hmo.ow, hmo.sz, hmo.fx, fun id _ => hmo.bo id (by simp)⟩ (hR.tm d)
      | cons s σ' =>
        have e2 : look (nbTm (s :: σ') st.tm) d = (st.get d).nb (s :: σ') := look_map _ rfl st.tm d
        rw [e2]; exact key
    · refine ⟨hfp.os.trans hR.fp.os, hfp.tape.trans hR.fp.tape, hfp.output.trans hR.fp.output, Nat.le_trans hR.fp.size hfp.size, fun k hk hMk => ?_, Nat.le_trans hR.fp.drawn hfp.drawn⟩
      rw [← hR.fp.block k hk hMk]
      refine hfp.block k (Nat.lt_of_lt_of_le hk hR.fp.size) (fun ⟨ℓ, hl, e⟩ => ?_)
      have h1 := (pk_lv hl).1
      rw [pk_γ] at e
      rcases hR.new _ h1 with q | q
      · exact hMk (e ▸ q)
      · omega
  refine hN _ _ _ (hK r outs hr) ⟨g.bk g' σ st.hp.length, ⟨?_, ?_⟩, hback.put (dok_lt hd) (AVR.up (fun c y hc => hB.up hc) hv)⟩ (fun hσ0 => hfp.mono (fun b _ ⟨ℓ, hl, _⟩ => by
    subst hσ0
    cases ℓ with
    | ob i => rcases hl with ⟨r, e, _⟩ | ⟨kv, e⟩ <;> simp [pkh] at e
    | cl i j => obtain ⟨r, k, cs, e, _⟩ := hl; simp [pkh] at e))
  · have : st.pin ≤ (st.back σ outs).hp.length := by
      show st.pin ≤ (setAll st.hp σ _).length
      rw [setAll_len _ _ _ (by simpa using hB.len)]
      omega
    cases o.dst <;> exact this
  · have hx : Ext st.pin M0.g (g.bk g' σ st.hp.length) := by
      refine hp2.trans ⟨rfl, fun i hi => ?_⟩
      cases hdn : dn σ st.hp.length i with
      | none => simp [Gh.bk, hdn]
      | some j =>
        have hσj : σ[j]? = some i := by
          unfold dn at hdn
          split at hdn
          · rename_i i' hi'
            cases hdn
            exact idx_get hi'
          · rw [if_neg (by omega)] at hdn; cases hdn
        obtain ⟨p1, p2⟩ := hB.pin j i hσj
        simp [Gh.bk, hdn, p1, p2]
    cases o.dst <;> exact hx
/-- a call that touches no object -/
theorem stp_call0 {P : Program} {o : Oper} {st : ST} {K : ST → Prop} {fop : Operand} {args : Array Operand} {ts : Array TypeId} {f : FuncId} {ids : List Nat} {R : AV → List Ob → Prop} {A : List AV} (hFC : FC P f A [] R)
    (hd : dok o st.n = true) (ho : o.op = .call { callee := .value fop, args := args, argTypes := ts }) (hf : st.ev fop = .a (.c (.f f ids))) (hcal : callable P f = true)
    (hA : (args.toList.map st.ev ++ clos ids).map (AV.ren []) = A)
    (hK : ∀ r outs, R r outs → K ((st.back [] outs).put o.dst (r.up (upn [] st.hp.length)))) : StpC P o st K True := by
  have := stp_callC (K := K) [] hd ho hf hcal rfl (by simp) (by rw [hA]; exact hFC) (fun _ _ _ _ _ _ h => absurd h (by simp)) hK
  exact fun M0 w0 a w N Q hR hN => this M0 w0 a w N Q hR fun st' a' w' h1 h2 h3 => hN st' a' w' h1 h2 (fun _ => h3 rfl)
/-- a call that touches the objects σ -/
theorem stp_callσ {P : Program} {o : Oper} {st : ST} {K : ST → Prop} {fop : Operand} {args : Array Operand} {ts : Array TypeId} {f : FuncId} {ids : List Nat} {R : AV → List Ob → Prop} {A : List AV} {I : List Ob} (σ : List Nat) (hFC : FC P f A I R)
    (hd : dok o st.n = true) (ho : o.op = .call { callee := .value fop, args := args, argTypes := ts }) (hf : st.ev fop = .a (.c (.f f ids))) (hcal : callable P f = true) (hσ : distinct σ = true) (hlt : (σ.all fun i => decide (i < st.hp.length)) = true)
    (hA : (args.toList.map st.ev ++ clos ids).map (AV.ren σ) = A) (hI : pkh st.hp σ = I)
    (hs : ∀ r outs, R r outs → ((outs.take σ.length).all Ob.born) = true)
    (hK : ∀ r outs, R r outs → K ((st.back σ outs).put o.dst (r.up (upn σ st.hp.length)))) : Stp P o st K := by
  refine (stp_callC (K := K) σ hd ho hf hcal hσ (fun i hi => by simpa using List.all_eq_true.1 hlt i hi) (by rw [hA, hI]; exact hFC) (fun r outs hr i ob hi hl => ?_) hK).stp
  refine List.all_eq_true.1 (hs r outs hr) ob ?_
  exact List.mem_of_getElem? (i := i) (by rw [List.getElem?_take, if_pos hl]; exact hi)
end Go.Proofs.Ytgclmlbaodcccaa
