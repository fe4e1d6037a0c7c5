/- The abstract machine: loads, new objects, stores. -/
import Derived.Test.YtgclmlbaodcccaaAm5
namespace Go.Proofs.Ytgclmlbaodcccaa
set_option linter.unusedVariables false
set_option linter.unusedSimpArgs false
open Go.RowKit

def C.ofTr : Tr → C
  | .v x => .v x
  | .l k cs => .t k cs
def C.pl : C → Bool
  | .o _ _ => false
  | .b _ _ _ => false
  | _ => true
def lLoad (P : Program) (ev : Operand → AV) (hp : List Ob) (t : TypeId) (x : Operand) : Option (Prop × AV) :=
  match tyOf P t, ev x with
  | some y, .a (.c (.p id off)) => match hp[id]? with
    | some (.r r) => if y.agg then some (off + y.size ≤ r.cells.length ∧ 0 < y.size ∧ ((r.cells.drop off).take y.size).all C.pl = true, .a (.g ((r.cells.drop off).take y.size))) else match r.cells[off]? with
      | some (.o k cs) => some (0 < k.1, .a (.c (.b id off (cs.length / k.1))))
      | some c => some (True, .a (.c c))
      | none => none
    | _ => none
  | some y, .a (.c (.q cs off)) => if y.agg then some (off + y.size ≤ cs.length, .a (.g (((cs.drop off).take y.size).map C.ofTr))) else match cs[off]? with
    | some t => some (True, .a (.c (C.ofTr t)))
    | none => none
  | _, _ => none
def lLen (P : Program) (ev : Operand → AV) (hp : List Ob) (t : TypeId) (x : Operand) : Option (Prop × AV) :=
  match tyOf P t, ev x with
  | some y, .a (.c (.b id j n)) => match y.kind, hp[id]? with
    | 1, some (.r r) => match r.cells[j]? with
      | some (.o _ _) => some (True, .i n)
      | _ => none
    | _, _ => none
  | _, _ => none
def lCall (P : Program) (ev : Operand → AV) (hp : List Ob) (c : Call) : Option (Prop × AV) :=
  match c.callee, c.args.toList, c.argTypes.toList with
  | .builtin .len, [x], [t] => lLen P ev hp t x
  | _, _, _ => none
def lOp (P : Program) (op : Op) (ev : Operand → AV) (hp : List Ob) : Option (Prop × AV) :=
  match op with
  | .load t x => lLoad P ev hp t x
  | .call c => lCall P ev hp c
  | _ => none

theorem run_loadCellsFrom {P : Program} {w : World} (b off : Nat) : ∀ (n i : Nat) (us : List Value) (acc : Array Value), us.length = n → (∀ (j : Nat) (u : Value), us[j]? = some u → w.cell? ⟨b, off + (i + j), none⟩ = some u) →
    (loadCellsFrom ⟨b, off, none⟩ i n acc).run P w = .ok (acc ++ us.toArray) w
  | 0, i, us, acc, hn, _ => by
    have : us = [] := List.eq_nil_of_length_eq_zero hn
    subst this; simp [loadCellsFrom]
  | n + 1, i, us, acc, hn, h => by
    obtain ⟨u, us', rfl⟩ : ∃ y ys', us = y :: ys' := by
      cases us with
      | nil => simp at hn
      | cons y ys' => exact ⟨y, ys', rfl⟩
    have h0 := h 0 u rfl
    simp only [loadCellsFrom, Sem.run_bind, add_mk, load, Sem.run, Nat.add_zero] at h0 ⊢
    rw [h0]
    simp only [Sem.run_pure, Result.andThen_ok]
    have ih := run_loadCellsFrom (P := P) (w := w) b off n (i + 1) us' (acc.push u) (by simpa using hn) (fun j v hj => by
      have := h (j + 1) v (by simpa using hj)
      rw [show i + 1 + j = i + (j + 1) from by omega]; exact this)
    have e0 : ∀ (s : Sem (Array Value)), (match some u with | some v => (Sem.pure v : Sem Value).run P w | none => Result.halt (Halt.stuck "") w) = Result.ok u w := fun _ => rfl
    simp [Sem.run, ih]
theorem run_loadVar {P : Program} {w : World} {t : TypeId} {y : Ty} (ht : tyOf P t = some y) (hag : y.agg = true) (b off : Nat) (us : List Value) (hn : us.length = y.size) (h : ∀ (j : Nat) (u : Value), us[j]? = some u → w.cell? ⟨b, off + j, none⟩ = some u) :
    (Instr.loadAt t (.pointer (some ⟨b, off, none⟩))).run P w = .ok (.agg us.toArray) w := by
  simp only [Instr.loadAt, Instr.sureAddr, loadVar, Sem.run_bind, Sem.run_pure, Result.andThen_ok, tyOf.agg ht, hag, if_true, tyOf.size ht, loadCells]
  rw [run_loadCellsFrom b off y.size 0 us #[] hn (fun j u hj => by rw [Nat.zero_add]; exact h j u hj)]
  simp
theorem run_loadOne {P : Program} {w : World} {t : TypeId} {y : Ty} (ht : tyOf P t = some y) (hag : y.agg = false) (b off : Nat) (u : Value) (h : w.cell? ⟨b, off, none⟩ = some u) :
    (Instr.loadAt t (.pointer (some ⟨b, off, none⟩))).run P w = .ok u w := by
  simp [Instr.loadAt, Instr.sureAddr, loadVar, tyOf.agg ht, hag, load, Sem.run, h]

section
variable {P : Program} {g : Gh} {hp : List Ob} {w : World} {ρ : Operand → Value} {ev : Operand → AV} {c : Prop} {x : AV}
theorem CellR.cr {id j : Nat} {c : C} {u : Value} (hc : c.pl = true) (h : CellR g hp w id j c u) : CR g hp w c u := by
  cases c <;> first | exact h | cases hc
theorem ofTr_cr {t : Tr} {u : Value} (h : Rd (Ow hp g) w t u) : CR g hp w (C.ofTr t) u := by
  cases t with
  | v x => cases h; exact rfl
  | l k cs => exact h
theorem lLoad_sound (hr : HR g hp w) (hR : ∀ x, AVR (CR g hp w) (ev x) (ρ x)) {t : TypeId} {y : Operand} (h : lLoad P ev hp t y = some (c, x)) (hc : c) : ∃ v, (∀ W, Fp (fun _ => False) w W → (Instr.loadAt t (ρ y)).run P W = .ok v W) ∧ AVR (CR g hp w) x v := by
  have hy := hR y
  unfold lLoad at h
  split at h
  · rename_i ty id off hty hev
    rw [hev] at hy
    obtain ⟨b1, b2⟩ := hy
    rw [b2]
    split at h
    · rename_i r hrow
      rcases hr.row id r hrow with ⟨_, h2⟩ | ⟨_, _, arr, ha, hl, hs, hm, hcells⟩
      · exfalso
        rw [h2] at h
        split at h
        · simp only [Option.some.injEq, Prod.mk.injEq] at h
          obtain ⟨rfl, rfl⟩ := h
          simp at hc
          omega
        · simp at h
      · split at h
        · rename_i hag
          simp only [Option.some.injEq, Prod.mk.injEq] at h
          obtain ⟨rfl, rfl⟩ := h
          obtain ⟨c1, _, c2⟩ := hc
          have hLR : LR (CR g hp w) ((r.cells.drop off).take ty.size) ((arr.toList.drop off).take ty.size) := by
            refine ⟨by simp; omega, fun i c hi => ?_⟩
            have hpl : c.pl = true := List.all_eq_true.1 c2 c (List.mem_of_getElem? hi)
            rw [List.getElem?_take] at hi ⊢
            split at hi
            · rename_i hlt
              rw [List.getElem?_drop] at hi ⊢
              obtain ⟨u, f1, f2⟩ := hcells _ c hi
              exact ⟨u, by rw [if_pos hlt]; simpa using f1, f2.cr hpl⟩
            · cases hi
          refine ⟨_, fun W hW => run_loadVar hty hag _ off _ (by simp; omega) (fun j u hj => ?_), _, rfl, hLR⟩
          rw [hW.cell (p := ⟨_, _, none⟩) (Array.getElem?_eq_some_iff.1 ha).1 (fun h => h), cell_of_row _ _ _ _ _ _ ha]
          rw [List.getElem?_take] at hj
          split at hj
          · rw [List.getElem?_drop] at hj
            simpa using hj
          · cases hj
        · rename_i hag
          split at h
          · rename_i k cs hcell
            simp only [Option.some.injEq, Prod.mk.injEq] at h
            obtain ⟨rfl, rfl⟩ := h
            obtain ⟨u, f1, f2⟩ := hcells _ _ hcell
            have hcu : w.cell? ⟨g.γ (.ob id), off, none⟩ = some u := by rw [cell_of_row _ _ _ _ _ _ ha]; exact f1
            refine ⟨u, fun W hW => run_loadOne hty (by simpa using hag) _ _ u ((hW.cell (p := ⟨_, _, none⟩) (Array.getElem?_eq_some_iff.1 ha).1 (fun h => h)).trans hcu), b1, fun r' k' cs' e1 e2 => ?_⟩
            rw [hrow] at e1; cases e1
            rw [hcell] at e2; cases e2
            refine ⟨(Array.getElem?_eq_some_iff.1 ha).1, hcu, ?_⟩
            rcases f2 with ⟨h1, A, h2, _⟩ | ⟨_, n, cp, arr', h2, h3, _⟩
            · rw [h1]; simp; exact ⟨_, _, h2⟩
            · rw [h3, Nat.mul_div_cancel _ hc]; exact ⟨rfl, _, _, h2⟩
          · rename_i c' hno hcell
            simp only [Option.some.injEq, Prod.mk.injEq] at h
            obtain ⟨rfl, rfl⟩ := h
            obtain ⟨u, f1, f2⟩ := hcells _ _ hcell
            have hcu : w.cell? ⟨g.γ (.ob id), off, none⟩ = some u := by rw [cell_of_row _ _ _ _ _ _ ha]; exact f1
            refine ⟨u, fun W hW => run_loadOne hty (by simpa using hag) _ _ u ((hW.cell (p := ⟨_, _, none⟩) (Array.getElem?_eq_some_iff.1 ha).1 (fun h => h)).trans hcu), ?_⟩
            cases c' with
            | o k cs => exact absurd rfl (hno k cs)
            | b _ _ _ => exact f2.elim
            | _ => exact f2
          · cases h
    · cases h
  · rename_i ty cs off hty hev
    rw [hev] at hy
    obtain ⟨b, o', us, b2, b3, b4, b5, b6⟩ := hy
    rw [b2]
    split at h
    · rename_i hag
      simp only [Option.some.injEq, Prod.mk.injEq] at h
      obtain ⟨rfl, rfl⟩ := h
      refine ⟨_, fun W hW => run_loadVar hty hag b (o' + off) ((List.range ty.size).map fun j => us (off + j)) (by simp) (fun j u hj => ?_), (List.range ty.size).map fun j => us (off + j), rfl, by simp; omega, fun i c hi => ?_⟩
      · simp only [List.getElem?_map, Option.map_eq_some_iff] at hj
        obtain ⟨j', h1, rfl⟩ := hj
        have hj' : j' = j ∧ j < ty.size := by
          obtain ⟨hlt, e⟩ := List.getElem?_eq_some_iff.1 h1
          simp at e hlt
          exact ⟨e.symm, hlt⟩
        obtain ⟨rfl, hlt⟩ := hj'
        obtain ⟨t', ht'⟩ : ∃ t', cs[off + j']? = some t' := ⟨_, List.getElem?_eq_getElem (by omega)⟩
        rw [Nat.add_assoc]
        exact (hW.cell (p := ⟨_, _, none⟩) b4 (fun h => h)).trans (b5 _ _ ht')
      · simp only [List.getElem?_map, List.getElem?_take, List.getElem?_drop] at hi ⊢
        split at hi
        · rename_i hlt
          simp only [Option.map_eq_some_iff] at hi
          obtain ⟨t', ht', rfl⟩ := hi
          exact ⟨us (off + i), by simp [hlt], ofTr_cr (b6 _ _ ht')⟩
        · cases hi
    · rename_i hag
      split at h
      · rename_i t' ht'
        simp only [Option.some.injEq, Prod.mk.injEq] at h
        obtain ⟨_, rfl⟩ := h
        exact ⟨us off, fun W hW => run_loadOne hty (by simpa using hag) _ _ _ ((hW.cell (p := ⟨_, _, none⟩) b4 (fun h => h)).trans (b5 _ _ ht')), ofTr_cr (b6 _ _ ht')⟩
      · cases h
  · cases h
theorem lCall_sound (hr : HR g hp w) (hR : ∀ x, AVR (CR g hp w) (ev x) (ρ x)) {cl : Call} {ty : TypeId} (h : lCall P ev hp cl = some (c, x)) (hc : c) :
    ∃ v, (∀ W, Fp (fun _ => False) w W → (do let d ← resolve ρ cl ty; invoke d.target d.args : Sem Next).run P W = .ok (.value v) W) ∧ AVR (CR g hp w) x v := by
  obtain ⟨callee, args, ts⟩ := cl
  unfold lCall at h
  simp only at h
  split at h
  · rename_i y t ha ht
    have ha' : args = #[y] := by apply Array.ext'; simpa using ha
    have ht' : ts = #[t] := by apply Array.ext'; simpa using ht
    subst ha'; subst ht'
    have hy := hR y
    unfold lLen at h
    split at h
    · rename_i yt id j n hty hev
      rw [hev] at hy
      obtain ⟨b1, b2⟩ := hy
      split at h
      · rename_i r hk hrow
        split at h
        · rename_i k cs hcell
          simp only [Option.some.injEq, Prod.mk.injEq] at h
          obtain ⟨_, rfl⟩ := h
          obtain ⟨_, _, _, A, cp, e⟩ := b2 r k cs hrow hcell
          refine ⟨.int .i64 n, fun W _ => ?_, rfl⟩
          simp only [resolve, invoke, builtin, Sem.run_bind, Sem.run_pure, Result.andThen_ok, List.map_toArray, List.map_cons, List.map_nil]
          simp [e, Builtin.len_, run_underlying (tyOf.slice hty hk), goInt]
        · cases h
      · cases h
    · cases h
  · cases h
theorem l_sound (hr : HR g hp w) (hR : ∀ x, AVR (CR g hp w) (ev x) (ρ x)) {o : Oper} (h : lOp P o.op ev hp = some (c, x)) (hc : c) : ∃ v, (∀ W, Fp (fun _ => False) w W → (execOp ρ o).run P W = .ok (.value v) W) ∧ AVR (CR g hp w) x v := by
  obtain ⟨dst, op, ty, pos, af, gd⟩ := o
  simp only at h
  cases op <;> simp only [lOp] at h <;> (try (cases h; done))
  case load t y =>
    obtain ⟨v, h1, h2⟩ := lLoad_sound hr hR h hc
    exact ⟨v, fun W hW => by simp [execOp, h1 W hW], h2⟩
  case call => exact lCall_sound hr hR h hc
end

/-! new objects -/
def nilC (P : Program) (e : TypeId) : Option (Nat × Nat) :=
  match tyOf P e with
  | some y => match y.kind, y.zero with
    | 1, [.slice none 0 0] => (tyOf P y.elem).map fun z => (z.size, y.elem)
    | _, _ => none
  | none => none
def zerosOf (P : Program) (e : TypeId) (y : Ty) : List C :=
  match nilC P e with
  | some k => [.o k []]
  | none => y.zero.map .v
def rep (n : Nat) (cs : List C) : List C :=
  match cs with
  | [c] => List.replicate n c
  | _ => (List.replicate n cs).flatten
def aBox (P : Program) (ev : Operand → AV) (e : TypeId) (x : Operand) : Option (Prop × Ob × (Nat → AV)) :=
  match ev x with
  | .a x => if x.ones && 0 < x.cells.length && x.cells.all C.pl then some (True, .r ⟨e, x.cells.length, false, x.cells⟩, fun id => .a (.c (.p id 0))) else none
  | _ => none
def aAlloc (P : Program) (e : TypeId) : Option (Prop × Ob × (Nat → AV)) :=
  match tyOf P e with
  | some y => if 0 < y.zero.length then some (True, .r ⟨e, y.zero.length, false, y.zero.map .v⟩, fun id => .a (.c (.p id 0))) else none
  | none => none
def aLit (P : Program) (ev : Operand → AV) (t : TypeId) (len : Nat) (parts : Array (Nat × Operand)) : Option (Prop × Ob × (Nat → AV)) :=
  match tyOf P t with
  | some y => match y.kind, tyOf P y.elem with
    | 1, some z => match fillA (fun i => some (i * z.size, z.size)) (List.replicate len (z.zero.map C.v)).flatten (parts.toList.map fun p => (p.1, ev p.2)) with
      | some cs => if 0 < z.size && len ≤ 1000 && z.size ≤ 1000 && z.zero.length == z.size && cs.all C.pl && cs.length == len * z.size then some (True, .r ⟨y.elem, z.size, true, cs⟩, fun id => .a (.c (.s id len))) else none
      | none => none
    | _, _ => none
  | none => none
def sameT : Operand → Operand → Bool
  | .tmp a, .tmp b => a == b
  | _, _ => false
theorem sameT_eq {α : Type} {ρ : Operand → α} {l c : Operand} (h : sameT l c = true) : ρ l = ρ c := by
  unfold sameT at h
  split at h
  · simp at h; rw [h]
  · cases h
def aMake (P : Program) (ev : Operand → AV) (t : TypeId) (l c : Operand) : Option (Prop × Ob × (Nat → AV)) :=
  match tyOf P t with
  | some y => match y.kind, tyOf P y.elem with
    | 1, some z => match ev l, ev c with
      | .a (.c (.v (.int _ n))), .a (.c (.v (.int _ m))) => if 0 < z.size && z.zero.length == z.size then
          some (0 ≤ n ∧ n ≤ m ∧ m * z.bytes ≤ 140737488355328 ∧ m ≤ 140737488355328, .r ⟨y.elem, z.size, sameT l c, rep n.toNat (zerosOf P y.elem z)⟩, fun id => .a (.c (.s id n.toNat))) else none
      | _, _ => none
    | _, _ => none
  | none => none
def aOp (P : Program) (op : Op) (ev : Operand → AV) : Option (Prop × Ob × (Nat → AV)) :=
  match op with
  | .box e x => aBox P ev e x
  | .alloc e => aAlloc P e
  | .buildSlice t len parts => aLit P ev t len parts
  | .makeSlice t l c => aMake P ev t l c
  | .makeMap _ none => some (True, .m [], fun id => .a (.c (.m id)))
  | _ => none
end Go.Proofs.Ytgclmlbaodcccaa
