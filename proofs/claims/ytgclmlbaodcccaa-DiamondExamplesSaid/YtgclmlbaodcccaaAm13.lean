/- The abstract machine: objects are numbered anew. -/
import Derived.Test.YtgclmlbaodcccaaAm12
namespace Go.Proofs.Ytgclmlbaodcccaa
set_option linter.unusedVariables false
set_option linter.unusedSimpArgs false
open Go.RowKit

def idx : List Nat → Nat → Nat → Option Nat
  | [], _, _ => none
  | x :: r, id, i => if x = id then some i else idx r id (i + 1)
def renIds (ρ : List Nat) : List Nat → Option (List Nat)
  | [] => some []
  | id :: r => match idx ρ id 0, renIds ρ r with
    | some i, some l => some (i :: l)
    | _, _ => none
def C.ren (ρ : List Nat) : C → C
  | .s id n => match idx ρ id 0 with | some i => .s i n | none => .u
  | .p id off => match idx ρ id 0 with | some i => .p i off | none => .u
  | .b id j n => match idx ρ id 0 with | some i => .b i j n | none => .u
  | .m id => match idx ρ id 0 with | some i => .m i | none => .u
  | .w id off n k => match idx ρ id 0 with | some i => .w i off n k | none => .u
  | .f fn ids => match renIds ρ ids with | some l => .f fn l | none => .u
  | c => c
def A0.ren (ρ : List Nat) : A0 → A0
  | .c x => .c (x.ren ρ)
  | .g xs => .g (xs.map (C.ren ρ))
def AV.ren (ρ : List Nat) : AV → AV
  | .a x => .a (x.ren ρ)
  | .tup xs => .tup (xs.map (A0.ren ρ))
def Ob.ren (ρ : List Nat) : Ob → Ob
  | .x => .x
  | .d => .d
  | .r q => .r { q with cells := q.cells.map (C.ren ρ) }
  | .m kv => .m (kv.map fun p => (p.1, p.2.ren ρ))
def ST.pick (s : ST) (ρ : List Nat) : ST := { s with tm := s.tm.map fun p => (p.1, p.2.ren ρ), hp := ρ.map fun id => (s.hp.getD id .d).ren ρ }
def distinct : List Nat → Bool
  | [] => true
  | x :: r => !r.contains x && distinct r
theorem idx_ge {ρ : List Nat} {id i j : Nat} (h : idx ρ id j = some i) : j ≤ i ∧ ρ[i - j]? = some id := by
  induction ρ generalizing j with
  | nil => cases h
  | cons x r ih =>
    unfold idx at h
    split at h
    · rename_i e; cases h; subst e; simp
    · obtain ⟨h1, h2⟩ := ih h
      refine ⟨by omega, ?_⟩
      rw [show i - j = (i - (j + 1)) + 1 from by omega]
      simpa using h2
theorem idx_get {ρ : List Nat} {id i : Nat} (h : idx ρ id 0 = some i) : ρ[i]? = some id := by simpa using (idx_ge h).2
theorem distinct_inj {ρ : List Nat} (h : distinct ρ = true) {i j id : Nat} (hi : ρ[i]? = some id) (hj : ρ[j]? = some id) : i = j := by
  induction ρ generalizing i j with
  | nil => simp at hi
  | cons x r ih =>
    simp only [distinct, Bool.and_eq_true, Bool.not_eq_true'] at h
    obtain ⟨h1, h2⟩ := h
    have h1' : x ∉ r := by simpa using h1
    cases i with
    | zero =>
      cases j with
      | zero => rfl
      | succ j => simp at hi hj; subst hi; exact absurd (List.mem_of_getElem? hj) h1'
    | succ i =>
      cases j with
      | zero => simp at hi hj; subst hj; exact absurd (List.mem_of_getElem? hi) h1'
      | succ j => simp at hi hj; rw [ih h2 hi hj]
def fixes : Nat → List Nat → Bool
  | 0, _ => true
  | n + 1, ρ => ρ[n]? == some n && fixes n ρ
def Gh.pk (g : Gh) (ρ : List Nat) (M : Nat → Prop) : Gh := ⟨fun ℓ => match ℓ with | .ob i => g.γ (.ob (ρ.getD i 0)) | .cl i j => g.γ (.cl (ρ.getD i 0) j), fun i => g.κ (ρ.getD i 0), M⟩
def pkh (hp : List Ob) (ρ : List Nat) : List Ob := ρ.map fun id => (hp.getD id .d).ren ρ
theorem getD_of {ρ : List Nat} {i id : Nat} (h : ρ[i]? = some id) : ρ.getD i 0 = id := by rw [List.getD, h]; rfl
theorem ren_o {ρ : List Nat} {c : C} {k : Nat × Nat} {cs : List Tr} (h : c.ren ρ = .o k cs) : c = .o k cs := by
  cases c <;> simp only [C.ren] at h <;> first | exact h | (split at h <;> cases h)
section
variable {g : Gh} {hp : List Ob} {w : World} {ρ : List Nat} {M : Nat → Prop}
theorem pk_get {i : Nat} {o : Ob} (h : (pkh hp ρ)[i]? = some o) : ∃ id, ρ[i]? = some id ∧ o = (hp.getD id .d).ren ρ := by
  unfold pkh at h
  rw [List.getElem?_map, Option.map_eq_some_iff] at h
  obtain ⟨id, h1, h2⟩ := h
  exact ⟨id, h1, h2.symm⟩
theorem pk_row {i : Nat} {r' : Row} (h : (pkh hp ρ)[i]? = some (.r r')) : ∃ id r, ρ[i]? = some id ∧ hp[id]? = some (.r r) ∧ r' = { r with cells := r.cells.map (C.ren ρ) } := by
  obtain ⟨id, h1, h2⟩ := pk_get h
  cases ho : hp[id]? with
  | none => rw [List.getD, ho] at h2; cases h2
  | some o =>
    rw [List.getD, ho] at h2
    simp only [Option.getD_some] at h2
    cases o <;> simp only [Ob.ren] at h2 <;> first | (cases h2; done) | (cases h2; exact ⟨id, _, h1, ho, rfl⟩)
theorem pk_map {i : Nat} {kv' : List (Value × C)} (h : (pkh hp ρ)[i]? = some (.m kv')) : ∃ id kv, ρ[i]? = some id ∧ hp[id]? = some (.m kv) ∧ kv' = kv.map fun p => (p.1, p.2.ren ρ) := by
  obtain ⟨id, h1, h2⟩ := pk_get h
  cases ho : hp[id]? with
  | none => rw [List.getD, ho] at h2; cases h2
  | some o =>
    rw [List.getD, ho] at h2
    simp only [Option.getD_some] at h2
    cases o <;> simp only [Ob.ren] at h2 <;> first | (cases h2; done) | (cases h2; exact ⟨id, _, h1, ho, rfl⟩)
theorem pk_bn {i id : Nat} (hi : ρ[i]? = some id) (hb : Bn hp id) : Bn (pkh hp ρ) i := by
  obtain ⟨o, h1, h2⟩ := hb
  refine ⟨o.ren ρ, ?_, by cases o <;> first | rfl | cases h2⟩
  unfold pkh
  rw [List.getElem?_map, hi]
  simp [List.getD, h1]
def τ (ρ : List Nat) : Loc → Loc
  | .ob i => .ob (ρ.getD i 0)
  | .cl i j => .cl (ρ.getD i 0) j
theorem pk_γ (ℓ : Loc) : (g.pk ρ M).γ ℓ = g.γ (τ ρ ℓ) := by cases ℓ <;> rfl
theorem pk_lv {ℓ : Loc} (h : Lv (pkh hp ρ) (g.pk ρ M) ℓ) : Lv hp g (τ ρ ℓ) ∧ ∃ id, (match ℓ with | .ob i => ρ[i]? | .cl i _ => ρ[i]?) = some id := by
  cases ℓ with
  | ob i =>
    rcases h with ⟨r', e1, e2⟩ | ⟨kv, e1⟩
    · obtain ⟨id, r, h1, h2, h3⟩ := pk_row e1
      refine ⟨.inl ⟨r, ?_, ?_⟩, id, h1⟩
      · rw [getD_of h1]; exact h2
      · exact e2
    · obtain ⟨id, kv', h1, h2, h3⟩ := pk_map e1
      exact ⟨.inr ⟨kv', by rw [getD_of h1]; exact h2⟩, id, h1⟩
  | cl i j =>
    obtain ⟨r', k, cs, e1, e2, e3⟩ := h
    obtain ⟨id, r, h1, h2, h3⟩ := pk_row e1
    subst h3
    rw [List.getElem?_map, Option.map_eq_some_iff] at e2
    obtain ⟨c, c1, c2⟩ := e2
    have := ren_o c2
    subst this
    exact ⟨⟨r, k, cs, by rw [getD_of h1]; exact h2, c1, e3⟩, id, h1⟩
theorem pk_ow {b : Nat} (hM : ∀ b, M b → Ow hp g b) (h : Ow (pkh hp ρ) (g.pk ρ M) b) : Ow hp g b := h.elim (hM b) (fun ⟨ℓ, hl, e⟩ => Or.inr ⟨τ ρ ℓ, (pk_lv hl).1, by rw [← pk_γ (M := M)]; exact e⟩)
theorem renIds_ok {ids l : List Nat} (h : renIds ρ ids = some l) (hb : ∀ id ∈ ids, Bn hp id) : (∀ i ∈ l, Bn (pkh hp ρ) i) ∧ l.map (fun i => Value.pointer (some ⟨(g.pk ρ M).γ (.ob i), 0, none⟩)) = ids.map fun id => Value.pointer (some ⟨g.γ (.ob id), 0, none⟩) := by
  induction ids generalizing l with
  | nil => simp [renIds] at h; subst h; simp
  | cons id r ih =>
    unfold renIds at h
    split at h
    · rename_i i l' h1 h2
      cases h
      obtain ⟨i1, i2⟩ := ih h2 (fun id hid => hb id (List.mem_cons_of_mem _ hid))
      have hg := idx_get h1
      refine ⟨fun q hq => ?_, ?_⟩
      · rcases List.mem_cons.1 hq with rfl | hq
        · exact pk_bn hg (hb id (by simp))
        · exact i1 q hq
      · simp only [List.map_cons, i2]
        rw [pk_γ]
        simp only [τ, getD_of hg]
    · cases h
theorem CR.ren (hM : ∀ b, M b → Ow hp g b) {c : C} {y : Value} (h : CR g hp w c y) : CR (g.pk ρ M) (pkh hp ρ) w (c.ren ρ) y := by
  cases c with
  | u => trivial
  | v x => exact h
  | t k cs => exact (show Rd _ _ _ _ from h).mono (fun _ _ h => pk_ow hM h)
  | s id n =>
    simp only [C.ren]
    split
    · rename_i i hi
      obtain ⟨h1, h2, A, h3, h4, h5⟩ := h
      have hg := idx_get hi
      refine ⟨pk_bn hg h1, ?_, A, ?_, ?_, h5⟩
      · show n ≤ g.κ (ρ.getD i 0); rw [getD_of hg]; exact h2
      · show y = .slice A n (g.κ (ρ.getD i 0)); rw [getD_of hg]; exact h3
      · show g.κ (ρ.getD i 0) ≠ 0 → A = some ⟨g.γ (.ob (ρ.getD i 0)), 0, none⟩; rw [getD_of hg]; exact h4
    · trivial
  | p id off =>
    simp only [C.ren]
    split
    · rename_i i hi
      obtain ⟨h1, h2⟩ := h
      have hg := idx_get hi
      exact ⟨pk_bn hg h1, by show y = .pointer (some ⟨g.γ (.ob (ρ.getD i 0)), off, none⟩); rw [getD_of hg]; exact h2⟩
    · trivial
  | q cs off =>
    obtain ⟨b, o, us, h1, h2, h3, h4, h5⟩ := h
    exact ⟨b, o, us, h1, fun ho => h2 (pk_ow hM ho), h3, h4, fun j t hj => (h5 j t hj).mono (fun _ _ h => pk_ow hM h)⟩
  | o k cs => exact h
  | b id j n =>
    simp only [C.ren]
    split
    · rename_i i hi
      obtain ⟨h1, h2⟩ := h
      have hg := idx_get hi
      refine ⟨pk_bn hg h1, fun r' k cs e1 e2 => ?_⟩
      obtain ⟨id', r, q1, q2, q3⟩ := pk_row e1
      rw [hg] at q1; cases q1
      subst q3
      simp only [List.getElem?_map, Option.map_eq_some_iff] at e2
      obtain ⟨c, c1, c2⟩ := e2
      have := ren_o c2
      subst this
      rw [pk_γ]
      simp only [τ, getD_of hg]
      exact h2 r k cs q2 c1
    · trivial
  | m id =>
    simp only [C.ren]
    split
    · rename_i i hi
      obtain ⟨h1, h2⟩ := h
      have hg := idx_get hi
      exact ⟨pk_bn hg h1, by show y = .map (some (g.γ (.ob (ρ.getD i 0)))); rw [getD_of hg]; exact h2⟩
    · trivial
  | w id off n k =>
    simp only [C.ren]
    split
    · rename_i i hi
      obtain ⟨h1, h2, h3, h4⟩ := h
      have hg := idx_get hi
      refine ⟨pk_bn hg h1, ?_, ?_, ?_⟩
      · show off < g.κ (ρ.getD i 0); rw [getD_of hg]; exact h2
      · show off + n ≤ g.κ (ρ.getD i 0); rw [getD_of hg]; exact h3
      · show y = .slice (some ⟨g.γ (.ob (ρ.getD i 0)), off * k, none⟩) n (g.κ (ρ.getD i 0) - off); rw [getD_of hg]; exact h4
    · trivial
  | f fn ids =>
    simp only [C.ren]
    split
    · rename_i l hl
      obtain ⟨h1, h2⟩ := h
      obtain ⟨i1, i2⟩ := renIds_ok (g := g) hl h1
      exact ⟨i1, by rw [h2]; unfold clo; rw [i2]⟩
    · trivial
theorem CellR.ren (hM : ∀ b, M b → Ow hp g b) {i id j : Nat} (hi : ρ[i]? = some id) {c : C} {y : Value} (h : CellR g hp w id j c y) : CellR (g.pk ρ M) (pkh hp ρ) w i j (c.ren ρ) y := by
  cases c with
  | o k cs =>
    rcases h with h1 | ⟨h1, n, c, arr, h2, h3, h4, h5, h6, h7, h8⟩
    · exact .inl h1
    · have e : (g.pk ρ M).γ (.cl i j) = g.γ (.cl id j) := by rw [pk_γ]; simp only [τ, getD_of hi]
      exact .inr ⟨h1, n, c, arr, by rw [e]; exact h2, h3, h4, h5, by rw [e]; exact h6, h7, fun q t hq => by obtain ⟨u, u1, u2⟩ := h8 q t hq; exact ⟨u, u1, u2.mono (fun _ _ h => pk_ow hM h)⟩⟩
  | b id' j' n => exact h.elim
  | u => trivial
  | v x => exact CR.ren (M := M) hM (g := g) (hp := hp) (w := w) (ρ := ρ) (c := .v x) h
  | t k cs => exact CR.ren (M := M) hM (g := g) (hp := hp) (w := w) (ρ := ρ) (c := .t k cs) h
  | s id n => have := CR.ren (M := M) hM (g := g) (hp := hp) (w := w) (ρ := ρ) (c := .s id n) h; simp only [C.ren] at this ⊢; split at this <;> exact this
  | p id off => have := CR.ren (M := M) hM (g := g) (hp := hp) (w := w) (ρ := ρ) (c := .p id off) h; simp only [C.ren] at this ⊢; split at this <;> exact this
  | q cs off => exact CR.ren (M := M) hM (g := g) (hp := hp) (w := w) (ρ := ρ) (c := .q cs off) h
  | m id => have := CR.ren (M := M) hM (g := g) (hp := hp) (w := w) (ρ := ρ) (c := .m id) h; simp only [C.ren] at this ⊢; split at this <;> exact this
  | w id off n k => have := CR.ren (M := M) hM (g := g) (hp := hp) (w := w) (ρ := ρ) (c := .w id off n k) h; simp only [C.ren] at this ⊢; split at this <;> exact this
  | f fn ids => have := CR.ren (M := M) hM (g := g) (hp := hp) (w := w) (ρ := ρ) (c := .f fn ids) h; simp only [C.ren] at this ⊢; split at this <;> exact this
theorem HR.pk (hr : HR g hp w) (hM : ∀ b, M b → Ow hp g b) (hml : ∀ b, M b → b < w.heap.size) (hmd : ∀ ℓ, Lv (pkh hp ρ) (g.pk ρ M) ℓ → ¬ M ((g.pk ρ M).γ ℓ)) (hd : distinct ρ = true) : HR (g.pk ρ M) (pkh hp ρ) w := by
  refine ⟨hml, hmd, fun ℓ ℓ' hl hl' e => ?_, fun i r' e1 => ?_, fun i kv' e1 => ?_⟩
  · rw [pk_γ, pk_γ] at e
    obtain ⟨l1, id1, d1⟩ := pk_lv hl
    obtain ⟨l2, id2, d2⟩ := pk_lv hl'
    have := hr.inj _ _ l1 l2 e
    cases ℓ with
    | ob i =>
      cases ℓ' with
      | ob i' =>
        simp only at d1 d2
        simp only [τ, getD_of d1, getD_of d2] at this
        cases this
        rw [distinct_inj hd d1 d2]
      | cl i' j' => simp [τ] at this
    | cl i j =>
      cases ℓ' with
      | ob i' => simp [τ] at this
      | cl i' j' =>
        simp only at d1 d2
        simp only [τ, getD_of d1, getD_of d2] at this
        cases this
        rw [distinct_inj hd d1 d2]
  · obtain ⟨id, r, h1, h2, rfl⟩ := pk_row e1
    have ek : (g.pk ρ M).κ i = g.κ id := by show g.κ (ρ.getD i 0) = _; rw [getD_of h1]
    have eg : (g.pk ρ M).γ (.ob i) = g.γ (.ob id) := by rw [pk_γ]; simp only [τ, getD_of h1]
    rcases hr.row id r h2 with ⟨k1, k2⟩ | ⟨k1, k2, arr, k3, k4, k5, k6, k7⟩
    · exact .inl ⟨by rw [ek]; exact k1, by simp [k2]⟩
    · refine .inr ⟨by rw [ek]; exact k1, fun hs hn => k2 hs (by simpa using hn), arr, by rw [eg]; exact k3, by simpa using k4, by rw [ek]; exact k5, by rw [ek]; exact k6, fun j x hj => ?_⟩
      simp only [List.getElem?_map, Option.map_eq_some_iff] at hj
      obtain ⟨c, c1, rfl⟩ := hj
      obtain ⟨u, u1, u2⟩ := k7 j c c1
      exact ⟨u, u1, CellR.ren hM h1 u2⟩
  · obtain ⟨id, kv, h1, h2, rfl⟩ := pk_map e1
    have eg : (g.pk ρ M).γ (.ob i) = g.γ (.ob id) := by rw [pk_γ]; simp only [τ, getD_of h1]
    obtain ⟨es, clock, k1, k2, k3⟩ := hr.mp id kv h2
    refine ⟨es, clock, by rw [eg]; exact k1, by simpa using k2, fun q p hq => ?_⟩
    rw [List.getElem?_map, Option.map_eq_some_iff] at hq
    obtain ⟨p', p1, rfl⟩ := hq
    obtain ⟨⟨e, f1, f2, f3⟩, f4⟩ := k3 q p' p1
    exact ⟨⟨e, f1, f2, by have := CellR.ren hM (j := 0) h1 (show CellR g hp w id 0 p'.2 e.val from f3); exact this⟩, fun k cs e => f4 k cs (ren_o e)⟩
theorem A0R.ren (hM : ∀ b, M b → Ow hp g b) {x : A0} {y : Value} (h : A0R (CR g hp w) x y) : A0R (CR (g.pk ρ M) (pkh hp ρ) w) (x.ren ρ) y := by
  cases x with
  | c x => exact CR.ren hM h
  | g xs => obtain ⟨us, h1, h2⟩ := h; exact ⟨us, h1, h2.map (fun _ _ h => CR.ren hM h)⟩
theorem AVR.ren (hM : ∀ b, M b → Ow hp g b) {x : AV} {y : Value} (h : AVR (CR g hp w) x y) : AVR (CR (g.pk ρ M) (pkh hp ρ) w) (x.ren ρ) y := by
  cases x with
  | a x => exact A0R.ren hM h
  | tup xs =>
    obtain ⟨us, h1, h2, h3⟩ := h
    refine ⟨us, h1, by simp [h2], fun i x hx => ?_⟩
    rw [List.getElem?_map, Option.map_eq_some_iff] at hx
    obtain ⟨c, hc, rfl⟩ := hx
    obtain ⟨u, e1, e2⟩ := h3 i c hc
    exact ⟨u, e1, A0R.ren hM e2⟩
end
theorem fixes_get {n : Nat} {ρ : List Nat} (h : fixes n ρ = true) {i : Nat} (hi : i < n) : ρ[i]? = some i := by
  induction n with
  | zero => omega
  | succ n ih =>
    simp only [fixes, Bool.and_eq_true, beq_iff_eq] at h
    by_cases e : i = n
    · subst e; exact h.1
    · exact ih h.2 (by omega)
theorem le_pick {s : ST} (ρ : List Nat) (hd : distinct ρ = true) (hf : fixes s.pin ρ = true) : Le s (s.pick ρ) := by
  rintro M0 w0 a w ⟨g, hpp, hR⟩
  have hM : ∀ b, g.M b → Ow s.hp g b := fun b hb => .inl hb
  have hlen : s.pin ≤ ρ.length := by
    rcases Nat.eq_zero_or_pos s.pin with h | h
    · omega
    · have := (List.getElem?_eq_some_iff.1 (fixes_get hf (i := s.pin - 1) (by omega))).1
      omega
  refine ⟨g.pk ρ g.M, ⟨by simpa [ST.pick] using hlen, hpp.2.trans ⟨rfl, fun i hi => ?_⟩⟩, hR.hr.pk hM hR.hr.ml (fun ℓ hl => by rw [pk_γ]; exact hR.hr.md _ (pk_lv hl).1) hd, fun ℓ hl => by rw [pk_γ]; exact hR.new _ (pk_lv hl).1, fun d => ?_, hR.n, hR.df, hR.fp⟩
  · have := getD_of (fixes_get hf hi)
    exact ⟨by rw [pk_γ]; simp only [τ, this], by show g.κ (ρ.getD i 0) = _; rw [this]⟩
  · have e : (s.pick ρ).get d = (s.get d).ren ρ := look_map _ rfl s.tm d
    rw [e]
    exact AVR.ren hM (hR.tm d)
end Go.Proofs.Ytgclmlbaodcccaa
