/- The abstract machine: a row that moves (append), a row that is sunk into another one's cell. -/
import Derived.Test.YtgclmlbaodcccaaAm9
namespace Go.Proofs.Ytgclmlbaodcccaa
set_option linter.unusedVariables false
set_option linter.unusedSimpArgs false
open Go.RowKit

def Gh.mv (g : Gh) (id' b c id : Nat) : Gh :=
  ⟨fun ℓ => match ℓ with | .ob i => if i = id' then b else g.γ (.ob i) | .cl i j => if i = id' then g.γ (.cl id j) else g.γ (.cl i j), fun i => if i = id' then c else g.κ i, g.M⟩
section
variable {g : Gh} {hp hp' : List Ob} {w w' : World} {id' b c id d : Nat} {r' : Row}
theorem mv_ob {i : Nat} (h : i ≠ id') : (g.mv id' b c id).γ (.ob i) = g.γ (.ob i) ∧ (g.mv id' b c id).κ i = g.κ i := by simp [Gh.mv, h]
theorem mv_cl {i j : Nat} (h : i ≠ id') : (g.mv id' b c id).γ (.cl i j) = g.γ (.cl i j) := by simp [Gh.mv, h]
theorem mv_self : (g.mv id' b c id).γ (.ob id') = b ∧ (g.mv id' b c id).κ id' = c ∧ ∀ j, (g.mv id' b c id).γ (.cl id' j) = g.γ (.cl id j) := by simp [Gh.mv]
theorem ext_mv {n : Nat} (h : n ≤ id') : Ext n g (g.mv id' b c id) := ⟨rfl, fun i hi => mv_ob (by omega)⟩
/-- what is asked of a move -/
structure Mv (g : Gh) (hp : List Ob) (w : World) (hp' : List Ob) (w' : World) (id' b c id d : Nat) (r' : Row) : Prop where
  bd : b = d ∨ w.heap.size ≤ b
  hid : ¬ Bn hp id'
  hb : ∀ i, Bn hp i → Bn hp' i
  h1 : hp'[id']? = some (.r r')
  row : ∀ (i : Nat) (r2 : Row), i ≠ id' → hp'[i]? = some (.r r2) → ∃ r1 : Row, hp[i]? = some (.r r1) ∧ r1.e = r2.e ∧ r1.k = r2.k ∧ r1.sl = r2.sl ∧ r2.cells.length = r1.cells.length ∧ ∀ (j : Nat) (c : C), r2.cells[j]? = some c → c = .u ∨ r1.cells[j]? = some c
  map : ∀ (i : Nat) (kv : List (Value × C)), hp'[i]? = some (.m kv) → hp[i]? = some (.m kv)
  mv : ∀ (j : Nat) (k : Nat × Nat) (cs : List Tr), r'.cells[j]? = some (.o k cs) → cs ≠ [] → (∃ r : Row, hp[id]? = some (.r r) ∧ r.cells[j]? = some (.o k cs)) ∧ (∀ r2, hp'[id]? ≠ some (.r r2)) ∧ g.γ (.cl id j) ≠ d
  q : ∀ ℓ, Lv hp g ℓ → g.γ ℓ = d → ¬ Lv hp' (g.mv id' b c id) ℓ
  wb : Fp (fun q => q = d ∧ Ow hp g d) w w'
theorem Mv.src (h : Mv g hp w hp' w' id' b c id d r') {ℓ : Loc} (hl : Lv hp' (g.mv id' b c id) ℓ) (hne : ℓ ≠ .ob id') :
    ∃ ℓs, Lv hp g ℓs ∧ (g.mv id' b c id).γ ℓ = g.γ ℓs ∧ g.γ ℓs ≠ d ∧ (ℓ = ℓs ∨ ∃ j, ℓ = .cl id' j ∧ ℓs = .cl id j) := by
  have fin : ∀ ℓs, Lv hp g ℓs → (ℓ = ℓs) → g.γ ℓs ≠ d := fun ℓs h1 e he => h.q ℓs h1 he (e ▸ hl)
  cases ℓ with
  | ob i =>
    have hi : i ≠ id' := fun e => hne (by rw [e])
    have h1 : Lv hp g (.ob i) := by
      rcases hl with ⟨r2, e1, e2⟩ | ⟨kv, e1⟩
      · obtain ⟨r1, f1, _⟩ := h.row i r2 hi e1
        exact .inl ⟨r1, f1, by rwa [(mv_ob hi).2] at e2⟩
      · exact .inr ⟨kv, h.map i kv e1⟩
    exact ⟨_, h1, (mv_ob hi).1, fin _ h1 rfl, .inl rfl⟩
  | cl i j =>
    obtain ⟨r2, k, cs, e1, e2, e3⟩ := hl
    by_cases hi : i = id'
    · subst hi
      rw [h.h1] at e1
      cases e1
      obtain ⟨⟨r, f1, f2⟩, _, f3⟩ := h.mv j k cs e2 e3
      exact ⟨.cl id j, ⟨r, k, cs, f1, f2, e3⟩, mv_self.2.2 j, f3, .inr ⟨j, rfl, rfl⟩⟩
    · obtain ⟨r1, f1, _, _, _, _, f2⟩ := h.row i r2 hi e1
      have h1 : Lv hp g (.cl i j) := by
        rcases f2 j _ e2 with f3 | f3
        · cases f3
        · exact ⟨r1, k, cs, f1, f3, e3⟩
      exact ⟨_, h1, mv_cl hi, fin _ h1 rfl, .inl rfl⟩
theorem Mv.mo (h : Mv g hp w hp' w' id' b c id d r') (hr : HR g hp w) (hnew : w.heap.size ≤ b ∨ Ow hp g b) : Mo g hp w (g.mv id' b c id) hp' w' (fun _ => True) := by
  have nid : ∀ i, Bn hp i → i ≠ id' := fun i hi e => h.hid (e ▸ hi)
  refine ⟨fun i hi => ⟨h.hb i hi, mv_ob (nid i hi)⟩, fun q hq ho => ?_, h.wb.size, fun q hq ho => h.wb.block q hq (fun ⟨e, ho'⟩ => ho (e ▸ ho')), fun i _ hi r2 j k cs e1 e2 => ?_⟩
  · rcases ho with ho | ⟨ℓ, hl, e⟩
    · exact .inl ho
    by_cases hne : ℓ = .ob id'
    · subst hne
      rw [mv_self.1] at e
      subst e
      rcases hnew with h1 | h1
      · omega
      · exact h1
    · obtain ⟨ℓs, s1, s2, _⟩ := h.src hl hne
      exact .inr ⟨ℓs, s1, by rw [← s2]; exact e⟩
  · obtain ⟨r1, f1, _, _, _, _, f2⟩ := h.row i r2 (nid i hi) e1
    have f3 := (f2 j _ e2).resolve_left (by simp)
    refine ⟨r1, f1, f3, fun hlt => World.cell?_of_block (h.wb.block _ hlt (fun ⟨e, _⟩ => ?_))⟩
    by_cases h0 : g.κ i = 0
    · rcases hr.row i r1 f1 with ⟨_, h2⟩ | ⟨h2, _⟩
      · rw [h2] at f3; simp at f3
      · exact h2 h0
    · exact h.q (.ob i) (.inl ⟨r1, f1, h0⟩) e (.inl ⟨r2, e1, by rw [(mv_ob (nid i hi)).2]; exact h0⟩)
theorem Mv.hr (h : Mv g hp w hp' w' id' b c id d r') (hr : HR g hp w) (hnew' : w.heap.size ≤ b ∨ ∃ ℓ, Lv hp g ℓ ∧ g.γ ℓ = b) (hrow : RowR (g.mv id' b c id) hp' w' id' r') : HR (g.mv id' b c id) hp' w' := by
  have hnew : w.heap.size ≤ b ∨ Ow hp g b := hnew'.imp (fun h => h) .inr
  have hm := h.mo hr hnew
  have nb : ∀ ℓs, Lv hp g ℓs → g.γ ℓs ≠ d → g.γ ℓs ≠ b := fun ℓs h1 h2 e => by
    rcases h.bd with h3 | h3
    · exact h2 (e.trans h3)
    · have := hr.lt h1; omega
  have far : ∀ ℓs, Lv hp g ℓs → g.γ ℓs ≠ d → w'.heap[g.γ ℓs]? = w.heap[g.γ ℓs]? := fun ℓs h1 h2 => h.wb.block _ (hr.lt h1) (fun ⟨e, _⟩ => h2 e)
  refine ⟨fun q hq => Nat.lt_of_lt_of_le (hr.ml q hq) h.wb.size, fun ℓ hl hM => ?_, fun ℓ1 ℓ2 h1 h2 he => ?_, fun i r2 e1 => ?_, fun i kv e1 => ?_⟩
  · by_cases e1 : ℓ = .ob id'
    · subst e1
      rw [mv_self.1] at hM
      rcases hnew' with h1 | ⟨ℓ0, h1, rfl⟩
      · have := hr.ml _ hM; omega
      · exact hr.md ℓ0 h1 hM
    · obtain ⟨ℓs, s1, s2, _⟩ := h.src hl e1
      rw [s2] at hM
      exact hr.md _ s1 hM
  · by_cases e1 : ℓ1 = .ob id'
    · by_cases e2 : ℓ2 = .ob id'
      · rw [e1, e2]
      · obtain ⟨ℓs, s1, s2, s3, _⟩ := h.src h2 e2
        rw [e1, mv_self.1, s2] at he
        exact absurd he.symm (nb _ s1 s3)
    · obtain ⟨ℓs, s1, s2, s3, s4⟩ := h.src h1 e1
      by_cases e2 : ℓ2 = .ob id'
      · rw [e2, mv_self.1, s2] at he
        exact absurd he (nb _ s1 s3)
      · obtain ⟨ℓt, t1, t2, t3, t4⟩ := h.src h2 e2
        rw [s2, t2] at he
        have := hr.inj _ _ s1 t1 he
        subst this
        rcases s4 with rfl | ⟨j, rfl, rfl⟩
        · rcases t4 with rfl | ⟨j, rfl, rfl⟩
          · rfl
          · exfalso
            obtain ⟨r2, k, cs, q1, q2, q3⟩ := h1
            obtain ⟨r3, k3, cs3, p1, p2, p3⟩ := h2
            rw [h.h1] at p1
            cases p1
            exact (h.mv j k3 cs3 p2 p3).2.1 r2 q1
        · rcases t4 with rfl | ⟨j', rfl, e⟩
          · exfalso
            obtain ⟨r2, k, cs, q1, q2, q3⟩ := h2
            obtain ⟨r3, k3, cs3, p1, p2, p3⟩ := h1
            rw [h.h1] at p1
            cases p1
            exact (h.mv j k3 cs3 p2 p3).2.1 r2 q1
          · cases e; rfl
  · by_cases hi : i = id'
    · subst hi
      rw [h.h1] at e1
      cases e1
      exact hrow
    · obtain ⟨r1, f1, f2, f3, f4, f5, f6⟩ := h.row i r2 hi e1
      rcases hr.row i r1 f1 with ⟨k1, k2⟩ | ⟨k1, k2, arr, k3, k4, k5, k6, k7⟩
      · exact .inl ⟨by rw [(mv_ob hi).2]; exact k1, List.eq_nil_of_length_eq_zero (by rw [f5, k2]; rfl)⟩
      · have hl2 : Lv hp' (g.mv id' b c id) (.ob i) := .inl ⟨r2, e1, by rw [(mv_ob hi).2]; exact k1⟩
        obtain ⟨ℓs, s1, s2, s3, s4⟩ := h.src hl2 (by simpa using hi)
        have hob : g.γ (.ob i) ≠ d := by
          rcases s4 with rfl | ⟨j, e, _⟩
          · exact s3
          · cases e
        refine .inr ⟨by rw [(mv_ob hi).2]; exact k1, fun hs hnil => k2 (by rw [f4]; exact hs) (List.eq_nil_of_length_eq_zero (by rw [← f5, hnil]; rfl)), arr, ?_, by rw [f5]; exact k4, by rw [(mv_ob hi).2, ← f3]; exact k5, by rw [(mv_ob hi).2]; exact k6, fun j x hj => ?_⟩
        · rw [(mv_ob hi).1, far (.ob i) (.inl ⟨r1, f1, k1⟩) hob, ← f2]; exact k3
        · have hlt : j < arr.size := by
            have := (List.getElem?_eq_some_iff.1 hj).1
            omega
          rcases f6 j x hj with rfl | f7
          · exact ⟨arr[j], Array.getElem?_eq_getElem hlt, trivial⟩
          · obtain ⟨u, u1, u2⟩ := k7 j x f7
            refine ⟨u, u1, CellR.mo hm u2 (fun k cs hx hn => ⟨mv_cl hi, ?_⟩)⟩
            have hl3 : Lv hp' (g.mv id' b c id) (.cl i j) := ⟨r2, k, cs, e1, by rw [hj, hx], hn⟩
            obtain ⟨ℓs, s1, s2, s3, s4⟩ := h.src hl3 (by simp)
            rcases s4 with rfl | ⟨j, e, _⟩
            · exact far _ s1 s3
            · cases e; exact absurd rfl hi
  · have hi : i ≠ id' := by
      rintro rfl
      rw [h.h1] at e1; cases e1
    have e2 := h.map i kv e1
    have hl2 : Lv hp' (g.mv id' b c id) (.ob i) := .inr ⟨kv, e1⟩
    obtain ⟨ℓs, s1, s2, s3, s4⟩ := h.src hl2 (by simpa using hi)
    rcases s4 with rfl | ⟨j, e, _⟩
    · exact MpR.mo hm e2 (hr.mp i kv e2) (far _ s1 s3)
    · cases e
theorem CellR.mv {g' : Gh} {S : Nat → Prop} {i i' j : Nat} {x : C} {y : Value} (h : Mo g hp w g' hp' w' S) (hr : CellR g hp w i j x y)
    (ho : ∀ k cs, x = .o k cs → cs ≠ [] → g'.γ (.cl i' j) = g.γ (.cl i j) ∧ w'.heap[g.γ (.cl i j)]? = w.heap[g.γ (.cl i j)]?) : CellR g' hp' w' i' j x y := by
  cases x with
  | o k cs =>
    rcases hr with ⟨h1, A, h2, h3⟩ | ⟨h1, n, c, arr, h2, h3, h4, h5, h6, h7, h8⟩
    · exact .inl ⟨h1, A, h2, fun a ha => Nat.lt_of_lt_of_le (h3 a ha) h.sz⟩
    · obtain ⟨e1, e2⟩ := ho k cs rfl h1
      exact .inr ⟨h1, n, c, arr, by rw [e1]; exact h2, h3, h4, h5, by rw [e1, e2]; exact h6, h7, fun i t hi => by obtain ⟨u, f1, f2⟩ := h8 i t hi; exact ⟨u, f1, h.rd f2⟩⟩
  | b _ _ _ => exact hr
  | u => trivial
  | v x => exact CR.mo h (c := .v x) trivial hr
  | t k cs => exact CR.mo h (c := .t k cs) trivial hr
  | s id n => exact CR.mo h (c := .s id n) trivial hr
  | p id off => exact CR.mo h (c := .p id off) trivial hr
  | q cs off => exact CR.mo h (c := .q cs off) trivial hr
  | m id => exact CR.mo h (c := .m id) trivial hr
  | w id off n k => exact CR.mo h (c := .w id off n k) trivial hr
  | f fn ids => exact CR.mo h (c := .f fn ids) trivial hr
theorem Fp.one {M0 : Nat → Prop} {w0 : World} {d : Nat} (h : Fp M0 w0 w) (hf : Fp (fun q => q = d) w w') (hd : M0 d ∨ w0.heap.size ≤ d) : Fp M0 w0 w' :=
  ⟨hf.os.trans h.os, hf.tape.trans h.tape, hf.output.trans h.output, Nat.le_trans h.size hf.size, fun k hk hm => (hf.block k (Nat.lt_of_lt_of_le hk h.size) (fun e => by
    rcases hd with hd | hd
    · exact hm (e ▸ hd)
    · omega)).trans (h.block k hk hm), Nat.le_trans h.drawn hf.drawn⟩
theorem Mv.new (h : Mv g hp w hp' w' id' b c id d r') {M0 : Nat → Prop} {n0 : Nat} (hn : ∀ ℓ, Lv hp g ℓ → M0 (g.γ ℓ) ∨ n0 ≤ g.γ ℓ) (hb : M0 b ∨ n0 ≤ b) : ∀ ℓ, Lv hp' (g.mv id' b c id) ℓ → M0 ((g.mv id' b c id).γ ℓ) ∨ n0 ≤ (g.mv id' b c id).γ ℓ := by
  intro ℓ hl
  by_cases hne : ℓ = .ob id'
  · rw [hne, mv_self.1]; exact hb
  · obtain ⟨ℓs, s1, s2, _⟩ := h.src hl hne
    rw [s2]; exact hn _ s1
end
end Go.Proofs.Ytgclmlbaodcccaa
