/- The abstract machine: stores; rows that are frozen. -/
import Derived.Test.YtgclmlbaodcccaaAm7
namespace Go.Proofs.Ytgclmlbaodcccaa
set_option linter.unusedVariables false
set_option linter.unusedSimpArgs false
open Go.RowKit

theorem oneC {g : Gh} {hp : List Ob} {w : World} {c : C} {y : Value} (h1 : c.one = true) (h : CR g hp w c y) : y.oneCell' = true := by
  cases c with
  | u => cases h1
  | v x => cases (show y = x from h); cases y <;> first | rfl | (simp [C.one] at h1; done)
  | t k cs => cases (show Rd _ _ _ _ from h) <;> rfl
  | s id n => obtain ⟨_, _, _, rfl, _⟩ := h; rfl
  | p id off => obtain ⟨_, rfl⟩ := h; rfl
  | q cs off => obtain ⟨b, o, us, rfl, _⟩ := h; rfl
  | o k cs => cases h1
  | b id j n => cases h1
  | m id => obtain ⟨_, rfl⟩ := h; rfl
  | w id off n k => obtain ⟨_, _, _, rfl⟩ := h; rfl
  | f fn ids => obtain ⟨_, rfl⟩ := h; rfl

def sOp (P : Program) (ev : Operand → AV) (hp : List Ob) (t : TypeId) (x v : Operand) : Option (Prop × List Ob) :=
  match tyOf P t, ev x, ev v with
  | some y, .a (.c (.p id off)), .a vv => match hp[id]? with
    | some (.r r) => some (vv.ones = true ∧ vv.cells.all C.one = true ∧ vv.cells.length = y.size ∧ 0 < y.size ∧ off + y.size ≤ r.cells.length, hp.set id (.r { r with cells := setC r.cells off vv.cells }))
    | _ => none
  | _, _, _ => none
section
variable {P : Program} {g : Gh} {M0 : Nat → Prop} {w0 w : World} {st : ST} {a : Act} {c : Prop}
theorem run_storeCells_rel {id off : Nat} (hk : g.κ id ≠ 0) : ∀ (cs : List C) (us : List Value) (i : Nat) (st : ST) (w : World) (r : Row), RelG g M0 w0 st a w → st.hp[id]? = some (.r r) → LR (CR g st.hp w) cs us → cs.all C.one = true → off + i + cs.length ≤ r.cells.length →
    ∃ w', (storeCells ⟨g.γ (.ob id), off, none⟩ us i).run P w = .ok () w' ∧ RelG g M0 w0 { st with hp := st.hp.set id (.r { r with cells := setC r.cells (off + i) cs }) } a w'
  | [], us, i, st, w, r, h, hrow, hl, _, _ => by
    have : us = [] := List.eq_nil_of_length_eq_zero hl.1
    subst this
    refine ⟨w, by simp [storeCells], ?_⟩
    have e : st.hp.set id (.r { r with cells := setC r.cells (off + i) [] }) = st.hp := by
      apply List.ext_getElem?
      intro j
      rw [List.getElem?_set]
      split
      · rename_i e; subst e
        have := (List.getElem?_eq_some_iff.1 hrow).1
        rw [if_pos this, hrow]; rfl
      · rfl
    rw [e]; exact h
  | c :: cs, us, i, st, w, r, h, hrow, hl, h1, hle => by
    obtain ⟨u, us', rfl⟩ : ∃ y ys', us = y :: ys' := by
      cases us with
      | nil => have := hl.1; simp at this
      | cons y ys' => exact ⟨y, ys', rfl⟩
    simp only [List.all_cons, Bool.and_eq_true] at h1
    obtain ⟨h1, h2⟩ := h1
    have hc := hl.2 0 c rfl
    simp at hc
    simp only [List.length_cons] at hle
    have hw := h.write (u := u) hrow hk h1 hc (off := off + i) (by omega)
    have hlt : id < st.hp.length := (List.getElem?_eq_some_iff.1 hrow).1
    have hm := mo_write (u := u) (w := w) (off := off + i) h.hr hrow hk h1 (hp' := st.hp.set id (.r { r with cells := r.cells.set (off + i) c })) (fun j hj => by rw [List.getElem?_set_ne (Ne.symm hj)]) (by simp [hlt])
    obtain ⟨w', r1, r2⟩ := run_storeCells_rel (off := off) hk cs us' (i + 1) _ _ { r with cells := r.cells.set (off + i) c } hw (by simp [hlt]) (by
      refine LR.imp (R := CR g st.hp w) ⟨by have := hl.1; simpa using this, fun j x hx => by simpa using hl.2 (j + 1) x (by simpa using hx)⟩ ?_
      intro x hx v hv
      refine CR.mo hm ?_ hv
      have := List.all_eq_true.1 h2 x hx
      cases x <;> first | trivial | cases this) h2 (by simp; omega)
    refine ⟨w', ?_, ?_⟩
    · simp only [storeCells, Sem.run_bind, add_mk]
      rw [run_store _ _ _ _ _ (oneC h1 hc)]
      have hcell : ∃ v, w.cell? ⟨g.γ (.ob id), off + i, none⟩ = some v ∧ w.frozen? ⟨g.γ (.ob id), off + i, none⟩ = false := by
        rcases h.hr.row id r hrow with ⟨h0, _⟩ | ⟨_, _, arr, ha, hl', _⟩
        · exact absurd h0 hk
        · refine ⟨arr[off + i]'(by omega), ?_, ?_⟩
          · rw [cell_of_row _ _ _ _ _ _ ha]; exact Array.getElem?_eq_getElem _
          · simp [World.frozen?, ha]
      obtain ⟨v, e1, e2⟩ := hcell
      rw [e1]
      simp only [e2, Bool.false_eq_true, if_false, Result.andThen_ok]
      exact r1
    · simp only [List.set_set] at r2
      exact r2
theorem s_sound (h : RelG g M0 w0 st a w) {o : Oper} {t : TypeId} {x v : Operand} {hp' : List Ob} (ho : o.op = .store t x v) (hs : sOp P st.ev st.hp t x v = some (c, hp')) (hc : c) :
    ∃ w', (execOp a.eval o).run P w = .ok .skip w' ∧ RelG g M0 w0 { st with hp := hp' } a w' := by
  have hx := h.ev x
  have hv := h.ev v
  unfold sOp at hs
  split at hs
  · rename_i y id off vv hty hex hev
    rw [hex] at hx
    rw [hev] at hv
    obtain ⟨b1, b2⟩ := hx
    split at hs
    · rename_i r hrow
      simp only [Option.some.injEq, Prod.mk.injEq] at hs
      obtain ⟨rfl, rfl⟩ := hs
      obtain ⟨c1, c2, c3, c4, c5⟩ := hc
      have hl := A0R.cells c1 hv
      have hk : g.κ id ≠ 0 := by
        rcases h.hr.row id r hrow with ⟨_, h2⟩ | ⟨h2, _⟩
        · rw [h2] at c5; simp at c5; omega
        · exact h2
      obtain ⟨w', r1, r2⟩ := run_storeCells_rel (P := P) (off := off) hk vv.cells _ 0 st w r h hrow hl c2 (by omega)
      refine ⟨w', ?_, by simpa using r2⟩
      unfold execOp
      simp only [ho, Instr.storeAt, b2, Instr.sureAddr, storeVar, Sem.run_bind, Sem.run_pure, Result.andThen_ok, tyOf.size hty]
      rw [if_neg (by
        have := hl.1
        simp at this
        simp [this, c3])]
      simp only [r1]
      rfl
    · cases hs
  · cases hs

/-! frozen rows -/
def C.tr : C → Option Tr
  | .v x => if x.oneCell' then some (.v x) else none
  | .t k cs => some (.l k cs)
  | .o k cs => some (.l k.1 cs)
  | _ => none
/-- a cell that may be frozen as t -/
def C.fz (c : C) (t : Tr) : Prop := c.tr = some t ∨ (c = .v (.slice none 0 0) ∧ ∃ k, t = .l k [])
def Fz : List C → List Tr → Prop
  | [], [] => True
  | c :: r, t :: ts => c.fz t ∧ Fz r ts
  | _, _ => False
def C.frz (id k : Nat) (ts : List Tr) : C → C
  | .s i n => if i = id then (if n * k ≤ ts.length then .t k (ts.take (n * k)) else .u) else .s i n
  | c => c
def A0.frz (id k : Nat) (ts : List Tr) : A0 → A0
  | .c x => .c (x.frz id k ts)
  | .g xs => .g (xs.map (C.frz id k ts))
def AV.frz (id k : Nat) (ts : List Tr) : AV → AV
  | .a x => .a (x.frz id k ts)
  | .tup xs => .tup (xs.map (A0.frz id k ts))
def ST.frz (st : ST) (id k : Nat) (ts : List Tr) : ST := { st with tm := st.tm.map fun p => (p.1, p.2.frz id k ts), hp := st.hp.set id .d }
theorem look_map (f : AV → AV) (hf : f .u = .u) (tm : List (Nat × AV)) (d : Nat) : look (tm.map fun p => (p.1, f p.2)) d = f (look tm d) := by
  induction tm with
  | nil => exact hf.symm
  | cons p r ih =>
    simp only [List.map_cons, look]
    split
    · rfl
    · exact ih
theorem Fz.get : ∀ {xs : List C} {ts : List Tr}, Fz xs ts → ts.length = xs.length ∧ ∀ (j : Nat) (t : Tr), ts[j]? = some t → ∃ c, xs[j]? = some c ∧ c.fz t
  | [], [], _ => by simp
  | c :: r, t :: ts, h => by
    obtain ⟨i1, i2⟩ := Fz.get h.2
    refine ⟨by simp [i1], fun j t' hj => ?_⟩
    cases j with
    | zero => simp at hj; subst hj; exact ⟨c, rfl, h.1⟩
    | succ j => exact i2 j t' (by simpa using hj)
  | [], _ :: _, h => h.elim
  | _ :: _, [], h => h.elim
theorem Fz.map {α : Type} {f : α → C} {g : α → Tr} {xs : List α} (h : ∀ x ∈ xs, (f x).fz (g x)) : Fz (xs.map f) (xs.map g) := by
  induction xs with
  | nil => trivial
  | cons x r ih => exact ⟨h x (by simp), ih fun y hy => h y (by simp [hy])⟩
theorem Fz.append : ∀ {xs ys : List C} {ts us : List Tr}, Fz xs ts → Fz ys us → Fz (xs ++ ys) (ts ++ us)
  | [], _, [], _, _, k => k
  | _ :: _, _, _ :: _, _, h, k => ⟨h.1, h.2.append k⟩
  | [], _, _ :: _, _, h, _ => h.elim
  | _ :: _, _, [], _, h, _ => h.elim
theorem Fz.flatMap {α : Type} {f : α → List C} {g : α → List Tr} {xs : List α} (h : ∀ x ∈ xs, Fz (f x) (g x)) : Fz (xs.flatMap f) (xs.flatMap g) := by
  induction xs with
  | nil => trivial
  | cons x r ih => exact (h x (by simp)).append (ih fun y hy => h y (by simp [hy]))
/-- what a cell reads as where its row lies still -/
theorem rd_of_cell {hp' : List Ob} (hm : ∀ b, b < w.heap.size → Ow hp' g b → Ow st.hp g b) (hr : HR g st.hp w) {id : Nat} {r : Row} (hrow : st.hp[id]? = some (.r r)) (hcl : ∀ j, ¬ Lv hp' g (.cl id j)) (hinj : ∀ ℓ, Lv hp' g ℓ → Lv st.hp g ℓ)
    {j : Nat} {c : C} {t : Tr} {u : Value} (hj : r.cells[j]? = some c) (ht : c.fz t) (h : CellR g st.hp w id j c u) : Rd (Ow hp' g) w t u := by
  rcases ht with ht | ⟨rfl, k, rfl⟩
  rotate_left
  · cases (show u = _ from h); exact .e _ _ _
  cases c with
  | v x =>
    simp only [C.tr] at ht
    split at ht
    · cases ht; cases (show u = x from h); exact .v _ ‹_›
    · cases ht
  | t k cs => cases ht; exact (show Rd _ _ _ _ from h).mono hm
  | o k cs =>
    cases ht
    rcases h with ⟨h1, A, h2, _⟩ | ⟨h1, n, cp, arr, h2, h3, h4, h5, h6, h7, h8⟩
    · rw [h1, h2]; exact .e _ _ _
    · rw [h2]
      have hn : 0 < n := by
        rcases Nat.eq_zero_or_pos n with h0 | h0
        · rw [h0] at h3; simp at h3; exact absurd h3 h1
        · exact h0
      refine .l k.1 cs _ 0 n cp (fun i => (arr[i]?).getD undef) h3 hn h4 (fun ho => ?_) (Array.getElem?_eq_some_iff.1 h6).1 (fun i t hi => ?_) (fun i t hi => ?_)
      · rcases ho with ho | ⟨ℓ, hl, e⟩
        · exact hr.md (.cl id j) ⟨r, k, cs, hrow, hj, h1⟩ ho
        · have := hr.inj ℓ (.cl id j) (hinj ℓ hl) ⟨r, k, cs, hrow, hj, h1⟩ e
          exact hcl j (this ▸ hl)
      · obtain ⟨u, f1, f2⟩ := h8 i t hi
        rw [Nat.zero_add, cell_of_row _ _ _ _ _ _ h6, f1]; rfl
      · obtain ⟨u, f1, f2⟩ := h8 i t hi
        rw [f1]; exact f2.mono hm
  | u => cases ht
  | s _ _ => cases ht
  | p _ _ => cases ht
  | q _ _ => cases ht
  | b _ _ _ => cases ht
  | m _ => cases ht
  | w _ _ _ _ => cases ht
  | f _ _ => cases ht
theorem LR.map {R R' : C → Value → Prop} {f : C → C} (hf : ∀ c y, R c y → R' (f c) y) {xs : List C} {us : List Value} (h : LR R xs us) : LR R' (xs.map f) us :=
  ⟨by simp [h.1], fun i x hx => by
    rw [List.getElem?_map, Option.map_eq_some_iff] at hx
    obtain ⟨c, hc, rfl⟩ := hx
    obtain ⟨u, h1, h2⟩ := h.2 i c hc
    exact ⟨u, h1, hf _ _ h2⟩⟩
theorem A0R.frz {R R' : C → Value → Prop} {id k : Nat} {ts : List Tr} (hf : ∀ c y, R c y → R' (c.frz id k ts) y) {x : A0} {y : Value} (h : A0R R x y) : A0R R' (x.frz id k ts) y := by
  cases x with
  | c x => exact hf _ _ h
  | g xs => obtain ⟨us, h1, h2⟩ := h; exact ⟨us, h1, h2.map hf⟩
theorem AVR.frz {R R' : C → Value → Prop} {id k : Nat} {ts : List Tr} (hf : ∀ c y, R c y → R' (c.frz id k ts) y) {x : AV} {y : Value} (h : AVR R x y) : AVR R' (x.frz id k ts) y := by
  cases x with
  | a x => exact A0R.frz hf h
  | tup xs =>
    obtain ⟨us, h1, h2, h3⟩ := h
    refine ⟨us, h1, by simp [h2], fun i x hx => ?_⟩
    rw [List.getElem?_map, Option.map_eq_some_iff] at hx
    obtain ⟨c, hc, rfl⟩ := hx
    obtain ⟨u, e1, e2⟩ := h3 i c hc
    exact ⟨u, e1, A0R.frz hf e2⟩
theorem RelG.freeze (h : RelG g M0 w0 st a w) {id : Nat} {r : Row} {ts : List Tr} (hrow : st.hp[id]? = some (.r r)) (hts : Fz r.cells ts) (hk : 0 < r.k) : RelG g M0 w0 (st.frz id r.k ts) a w := by
  have hlt : id < st.hp.length := (List.getElem?_eq_some_iff.1 hrow).1
  have hd : ∀ (i : Nat) (r' : Row), (st.hp.set id .d)[i]? = some (.r r') → st.hp[i]? = some (.r r') ∧ i ≠ id := by
    intro i r' e
    rw [List.getElem?_set] at e
    split at e
    · (try split at e) <;> cases e
    · rename_i hne; exact ⟨e, fun e => hne e.symm⟩
  have hdm : ∀ (i : Nat) (kv : List (Value × C)), (st.hp.set id .d)[i]? = some (.m kv) → st.hp[i]? = some (.m kv) := by
    intro i kv e
    rw [List.getElem?_set] at e
    split at e
    · (try split at e) <;> cases e
    · exact e
  have hb : ∀ i, Bn st.hp i → Bn (st.hp.set id .d) i := by
    intro i hi
    by_cases e : i = id
    · subst e; exact ⟨.d, by simp [hlt], rfl⟩
    · obtain ⟨o, e1, e2⟩ := hi
      exact ⟨o, by rw [List.getElem?_set_ne (Ne.symm e)]; exact e1, e2⟩
  have hkill := h.kill hb (fun i r' e => (hd i r' e).1) hdm
  refine ⟨hkill.hr, hkill.new, fun d => ?_, h.n, h.df, h.fp⟩
  have e1 : (st.frz id r.k ts).get d = (st.get d).frz id r.k ts := look_map _ rfl st.tm d
  rw [e1]
  have hinj : ∀ ℓ, Lv (st.hp.set id .d) g ℓ → Lv st.hp g ℓ := fun ℓ hl => Lv.sub (fun i r' e => (hd i r' e).1) hdm hl
  have key : ∀ (c : C) (y : Value), CR g st.hp w c y → CR g (st.hp.set id .d) w (c.frz id r.k ts) y := by
    intro c y hc
    have hm := mo_kill (g := g) (w := w) hb (fun i r' e => (hd i r' e).1) hdm
    cases c with
    | s i n =>
      simp only [C.frz]
      split
      · rename_i e; subst e
        split
        · rename_i hnk
          obtain ⟨b1, b2, A, b3, b4, b5⟩ := hc
          obtain ⟨t1, t2⟩ := hts.get
          by_cases hn0 : n = 0
          · subst hn0
            rw [b3]
            simp only [Nat.zero_mul, List.take_zero]
            exact .e _ _ _
          · rcases h.hr.row i r hrow with ⟨h0, h2⟩ | ⟨h0, _, arr, ha, hl, hs, _, hcells⟩
            · omega
            · rw [b3, b4 h0]
              have hcl : ∀ j, ¬ Lv (st.hp.set i .d) g (.cl i j) := by
                rintro j ⟨r', k, cs, e1, _⟩
                exact (hd i r' e1).2 rfl
              have hget : ∀ (j : Nat) (t : Tr), (ts.take (n * r.k))[j]? = some t → ∃ u, arr[j]? = some u ∧ Rd (Ow (st.hp.set i .d) g) w t u := by
                intro j t hj
                rw [List.getElem?_take] at hj
                split at hj
                · obtain ⟨c, c1, c2⟩ := t2 j t hj
                  obtain ⟨u, u1, u2⟩ := hcells j c c1
                  exact ⟨u, u1, rd_of_cell (fun b _ ho => ho.imp (fun h => h) (fun ⟨ℓ, hl, e⟩ => ⟨ℓ, hinj ℓ hl, e⟩)) h.hr hrow hcl hinj c1 c2 u2⟩
                · cases hj
              refine .l r.k _ _ 0 n (g.κ i) (fun j => (arr[j]?).getD undef) (by rw [List.length_take, Nat.min_eq_left hnk]) (by omega) b2 (fun ho => ?_) (Array.getElem?_eq_some_iff.1 ha).1 (fun j t hj => ?_) (fun j t hj => ?_)
              · rcases ho with ho | ⟨ℓ, hl, e⟩
                · exact h.hr.md (.ob i) (.inl ⟨r, hrow, h0⟩) ho
                have := h.hr.inj ℓ (.ob i) (hinj ℓ hl) (.inl ⟨r, hrow, h0⟩) e
                subst this
                rcases hl with ⟨r', e1, _⟩ | ⟨kv, e1⟩
                · exact (hd i r' e1).2 rfl
                · have := hdm i kv e1
                  rw [hrow] at this; cases this
              · obtain ⟨u, f1, _⟩ := hget j t hj
                rw [Nat.zero_add, cell_of_row _ _ _ _ _ _ ha, f1]; rfl
              · obtain ⟨u, f1, f2⟩ := hget j t hj
                rw [f1]; exact f2
        · trivial
      · exact CR.mo hm (c := .s i n) trivial hc
    | _ => exact CR.mo hm (by trivial) hc
  exact AVR.frz key (h.tm d)
end
end Go.Proofs.Ytgclmlbaodcccaa
