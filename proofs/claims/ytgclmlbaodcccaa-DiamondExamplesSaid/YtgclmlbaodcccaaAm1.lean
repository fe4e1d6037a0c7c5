/- An abstract machine for walks: trees that stand for frozen slices, objects that stand for a call's own blocks, states, and their relation to frames and worlds. -/
import Derived.Test.YtgclmlbaodcccaaAm0
namespace Go.Proofs.Ytgclmlbaodcccaa
set_option linter.unusedVariables false
set_option linter.unusedSimpArgs false
open Go.RowKit

/-! worlds that differ only in blocks of M -/
structure Fp (M : Nat → Prop) (w w' : World) : Prop where
  os : w'.os = w.os
  tape : w'.tape = w.tape
  output : w'.output = w.output
  size : w.heap.size ≤ w'.heap.size
  block : ∀ k, k < w.heap.size → ¬ M k → w'.heap[k]? = w.heap[k]?
  drawn : w.drawn ≤ w'.drawn
section
variable {M M' : Nat → Prop} {a b c w w' : World}
theorem Fp.refl (M : Nat → Prop) (w : World) : Fp M w w := ⟨rfl, rfl, rfl, Nat.le_refl _, fun _ _ _ => rfl, Nat.le_refl _⟩
theorem Fp.trans (h : Fp M a b) (k : Fp M b c) : Fp M a c :=
  ⟨k.os.trans h.os, k.tape.trans h.tape, k.output.trans h.output, Nat.le_trans h.size k.size,
    fun i hi hm => (k.block i (Nat.lt_of_lt_of_le hi h.size) hm).trans (h.block i hi hm), Nat.le_trans h.drawn k.drawn⟩
theorem Fp.mono (h : Fp M a b) (hs : ∀ k, k < a.heap.size → M k → M' k) : Fp M' a b :=
  ⟨h.os, h.tape, h.output, h.size, fun k hk hm => h.block k hk (fun hin => hm (hs k hk hin)), h.drawn⟩
theorem Fp.alloc (w : World) (o : Obj) (M : Nat → Prop) : Fp M w (w.alloc o) := ⟨rfl, rfl, rfl, by simp, fun k hk _ => Below.heap_alloc _ _ _ hk, Nat.le_refl _⟩
theorem Fp.drew (w : World) (M : Nat → Prop) : Fp M w w.drew := ⟨rfl, rfl, rfl, Nat.le_refl _, fun _ _ _ => rfl, Nat.le_succ _⟩
theorem Fp.setCell {p : Addr} (hp : M p.block) (w : World) (u : Value) : Fp M w (w.setCell p u) :=
  ⟨rfl, rfl, rfl, by simp [World.setCell], fun k _ hm => Below.heap_setCell _ _ _ _ (by rintro rfl; exact hm hp), Nat.le_refl _⟩
theorem Fp.of_fr {L : List Nat} (h : Fr L w w') (hd : w.drawn ≤ w'.drawn) (hs : ∀ k ∈ L, k < w.heap.size → M k) : Fp M w w' :=
  ⟨h.os, h.tape, h.output, h.size, fun k hk hm => h.block k hk (fun hin => hm (hs k hin hk)), hd⟩
theorem Fp.fr {L : List Nat} (h : Fp M w w') (hs : ∀ k, k < w.heap.size → M k → k ∈ L) : Fr L w w' :=
  ⟨h.os, h.tape, h.output, h.size, fun k hk hm => h.block k hk (fun hin => hm (hs k hk hin))⟩
theorem Fp.cell (h : Fp M w w') {p : Addr} (hp : p.block < w.heap.size) (hm : ¬ M p.block) : w'.cell? p = w.cell? p := World.cell?_of_block (h.block p.block hp hm)
end

/-! trees: what a frozen slice reads as; the cells of its elements in a row -/
inductive Tr where
  | v (x : Value)
  | l (k : Nat) (cs : List Tr)

inductive Rd (M : Nat → Prop) (w : World) : Tr → Value → Prop where
  | v (x : Value) (h : x.oneCell' = true) : Rd M w (.v x) x
  | e (k : Nat) (A : Option Addr) (c : Nat) : Rd M w (.l k []) (.slice A 0 c)
  | l (k : Nat) (cs : List Tr) (b off n c : Nat) (us : Nat → Value) (hn : cs.length = n * k) (h0 : 0 < n) (hc : n ≤ c) (hM : ¬ M b) (hb : b < w.heap.size)
      (h1 : ∀ (j : Nat) (t : Tr), cs[j]? = some t → w.cell? ⟨b, off + j, none⟩ = some (us j)) (h2 : ∀ (j : Nat) (t : Tr), cs[j]? = some t → Rd M w t (us j)) :
      Rd M w (.l k cs) (.slice (some ⟨b, off, none⟩) n c)

theorem Rd.keep {M M' : Nat → Prop} {w w' : World} {t : Tr} {v : Value} (h : Rd M w t v) (hz : w.heap.size ≤ w'.heap.size) (hb : ∀ k, k < w.heap.size → ¬ M k → w'.heap[k]? = w.heap[k]?)
    (hm : ∀ k, k < w.heap.size → M' k → M k) : Rd M' w' t v := by
  induction h with
  | v x h => exact .v x h
  | e k A c => exact .e k A c
  | l k cs b off n c us hn h0 hc hM hlt h1 h2 ih =>
    refine .l k cs b off n c us hn h0 hc (fun hin => hM (hm b hlt hin)) (Nat.lt_of_lt_of_le hlt hz) (fun j t hj => ?_) ih
    rw [World.cell?_of_block (hb b hlt hM)]
    exact h1 j t hj
theorem Rd.fp {M : Nat → Prop} {w w' : World} {t : Tr} {v : Value} (h : Rd M w t v) (hf : Fp M w w') : Rd M w' t v := h.keep hf.size hf.block (fun _ _ h => h)
theorem Rd.mono {M M' : Nat → Prop} {w : World} {t : Tr} {v : Value} (h : Rd M w t v) (hm : ∀ k, k < w.heap.size → M' k → M k) : Rd M' w t v := h.keep (Nat.le_refl _) (fun _ _ _ => rfl) hm

/-! cells, values, objects, states -/
/-- a cell: unknown; this value; a frozen slice; the slice of n elements at the head of an object's row; a pointer into an object; a pointer into a frozen slice's cells; (inside rows only) a slice that the row owns; what a load of such one gives; a map; a window (off, n elements of k cells) of an object's row; a function with the objects that it holds -/
inductive C where
  | u
  | v (x : Value)
  | t (k : Nat) (cs : List Tr)
  | s (id n : Nat)
  | p (id off : Nat)
  | q (cs : List Tr) (off : Nat)
  | o (k : Nat × Nat) (cs : List Tr)
  | b (id j n : Nat)
  | m (id : Nat)
  | w (id off n k : Nat)
  | f (fn : FuncId) (ids : List Nat)
inductive A0 where
  | c (x : C)
  | g (xs : List C)
inductive AV where
  | a (x : A0)
  | tup (xs : List A0)
/-- a row: its elements' type, an element's cells, whether it is a slice's row (else a box), its cells -/
structure Row where
  e : TypeId
  k : Nat
  sl : Bool
  cells : List C
inductive Ob where
  | x
  | d
  | r (row : Row)
  | m (kv : List (Value × C))
def Ob.born : Ob → Bool
  | .x => false
  | _ => true
structure ST where
  tm : List (Nat × AV)
  hp : List Ob
  n : Nat
  pin : Nat

def AV.u : AV := .a (.c .u)
def look : List (Nat × AV) → Nat → AV
  | [], _ => .u
  | (k, x) :: r, d => if d = k then x else look r d
def ST.get (st : ST) (d : Nat) : AV := look st.tm d
def ST.put (st : ST) (d : Option Nat) (x : AV) : ST :=
  match d with
  | some d => { st with tm := (d, x) :: st.tm }
  | none => st
def ST.ev (st : ST) : Operand → AV
  | .tmp t => st.get t
  | .const v => .a (.c (.v v))
  | .global _ => .u
  | .func f => .a (.c (.f f []))

inductive Loc where
  | ob (id : Nat)
  | cl (id j : Nat)
  deriving DecidableEq
/-- where the objects lie, and how much room they have -/
structure Gh where
  γ : Loc → Nat
  κ : Nat → Nat
  M : Nat → Prop
def Lv (hp : List Ob) (g : Gh) : Loc → Prop
  | .ob id => (∃ r, hp[id]? = some (.r r) ∧ g.κ id ≠ 0) ∨ (∃ kv, hp[id]? = some (.m kv))
  | .cl id j => ∃ r k cs, hp[id]? = some (.r r) ∧ r.cells[j]? = some (.o k cs) ∧ cs ≠ []
def Bn (hp : List Ob) (id : Nat) : Prop := ∃ o, hp[id]? = some o ∧ o.born = true
/-- the blocks that frozen slices do not lie in: those of the objects, and others' -/
def Ow (hp : List Ob) (g : Gh) (b : Nat) : Prop := g.M b ∨ ∃ ℓ, Lv hp g ℓ ∧ g.γ ℓ = b
theorem Lv.bn {hp : List Ob} {g : Gh} {id : Nat} (h : Lv hp g (.ob id)) : Bn hp id := by
  rcases h with ⟨r, h, _⟩ | ⟨kv, h⟩ <;> exact ⟨_, h, rfl⟩

def clo (g : Gh) (fn : FuncId) (ids : List Nat) : Value := .func (.func fn) #[] (ids.map fun id => Value.pointer (some ⟨g.γ (.ob id), 0, none⟩)).toArray

def CR (g : Gh) (hp : List Ob) (w : World) : C → Value → Prop
  | .u, _ => True
  | .v x, y => y = x
  | .t k cs, y => Rd (Ow hp g) w (.l k cs) y
  | .s id n, y => Bn hp id ∧ n ≤ g.κ id ∧ ∃ A, y = .slice A n (g.κ id) ∧ (g.κ id ≠ 0 → A = some ⟨g.γ (.ob id), 0, none⟩) ∧ ∀ a, A = some a → a.block < w.heap.size
  | .p id off, y => Bn hp id ∧ y = .pointer (some ⟨g.γ (.ob id), off, none⟩)
  | .q cs off, y => ∃ (b o : Nat) (us : Nat → Value), y = .pointer (some ⟨b, o + off, none⟩) ∧ ¬ Ow hp g b ∧ b < w.heap.size ∧ (∀ (j : Nat) (t : Tr), cs[j]? = some t → w.cell? ⟨b, o + j, none⟩ = some (us j)) ∧
      ∀ (j : Nat) (t : Tr), cs[j]? = some t → Rd (Ow hp g) w t (us j)
  | .o _ _, _ => False
  | .b id j n, y => Bn hp id ∧ ∀ (r : Row) (k : Nat × Nat) (cs : List Tr), hp[id]? = some (.r r) → r.cells[j]? = some (.o k cs) → g.γ (.ob id) < w.heap.size ∧ w.cell? ⟨g.γ (.ob id), j, none⟩ = some y ∧ cs.length = n * k.1 ∧ ∃ A c, y = .slice A n c
  | .m id, y => Bn hp id ∧ y = .map (some (g.γ (.ob id)))
  | .w id off n k, y => Bn hp id ∧ off < g.κ id ∧ off + n ≤ g.κ id ∧ y = .slice (some ⟨g.γ (.ob id), off * k, none⟩) n (g.κ id - off)
  | .f fn ids, y => (∀ id ∈ ids, Bn hp id) ∧ y = clo g fn ids

/-- a slice that a row owns, at the row's cell j -/
def OwnR (g : Gh) (hp : List Ob) (w : World) (id j : Nat) (k : Nat × Nat) (cs : List Tr) (y : Value) : Prop :=
  (cs = [] ∧ ∃ A, y = .slice A 0 0 ∧ ∀ a, A = some a → a.block < w.heap.size) ∨ (cs ≠ [] ∧ ∃ (n c : Nat) (arr : Array Value), y = .slice (some ⟨g.γ (.cl id j), 0, none⟩) n c ∧ cs.length = n * k.1 ∧ n ≤ c ∧ c ≤ 9223372036854775807 ∧
    w.heap[g.γ (.cl id j)]? = some (.cells arr k.2 (0, 0)) ∧ arr.size = c * k.1 ∧ ∀ (i : Nat) (t : Tr), cs[i]? = some t → ∃ u, arr[i]? = some u ∧ Rd (Ow hp g) w t u)
def CellR (g : Gh) (hp : List Ob) (w : World) (id j : Nat) : C → Value → Prop
  | .o k cs, y => OwnR g hp w id j k cs y
  | .b _ _ _, _ => False
  | c, y => CR g hp w c y
/-- a row's block; one without room has none -/
def RowR (g : Gh) (hp : List Ob) (w : World) (id : Nat) (r : Row) : Prop :=
  (g.κ id = 0 ∧ r.cells = []) ∨ (g.κ id ≠ 0 ∧ (r.sl = true → r.cells ≠ []) ∧ ∃ (arr : Array Value), w.heap[g.γ (.ob id)]? = some (.cells arr r.e (0, 0)) ∧ r.cells.length ≤ arr.size ∧ arr.size = g.κ id * r.k ∧ g.κ id ≤ 9223372036854775807 ∧
    ∀ (j : Nat) (c : C), r.cells[j]? = some c → ∃ u, arr[j]? = some u ∧ CellR g hp w id j c u)
def MpR (g : Gh) (hp : List Ob) (w : World) (id : Nat) (kv : List (Value × C)) : Prop :=
  ∃ (es : Array MapEntry) (clock : Nat), w.heap[g.γ (.ob id)]? = some (.map es clock) ∧ es.size = kv.length ∧
    ∀ (i : Nat) (p : Value × C), kv[i]? = some p → (∃ e : MapEntry, es[i]? = some e ∧ e.key = p.1 ∧ CellR g hp w id 0 p.2 e.val) ∧ (∀ k cs, p.2 ≠ .o k cs)
structure HR (g : Gh) (hp : List Ob) (w : World) : Prop where
  ml : ∀ b, g.M b → b < w.heap.size
  md : ∀ ℓ, Lv hp g ℓ → ¬ g.M (g.γ ℓ)
  inj : ∀ ℓ ℓ', Lv hp g ℓ → Lv hp g ℓ' → g.γ ℓ = g.γ ℓ' → ℓ = ℓ'
  row : ∀ id r, hp[id]? = some (.r r) → RowR g hp w id r
  mp : ∀ id kv, hp[id]? = some (.m kv) → MpR g hp w id kv
def LR (R : C → Value → Prop) (xs : List C) (us : List Value) : Prop := us.length = xs.length ∧ ∀ (i : Nat) (x : C), xs[i]? = some x → ∃ u, us[i]? = some u ∧ R x u
def A0R (R : C → Value → Prop) : A0 → Value → Prop
  | .c x, y => R x y
  | .g xs, y => ∃ us : List Value, y = .agg us.toArray ∧ LR R xs us
def AVR (R : C → Value → Prop) : AV → Value → Prop
  | .a x, y => A0R R x y
  | .tup xs, y => ∃ us : List Value, y = .tuple us.toArray ∧ us.length = xs.length ∧ ∀ (i : Nat) (x : A0), xs[i]? = some x → ∃ u, us[i]? = some u ∧ A0R R x u

structure RelG (g : Gh) (M0 : Nat → Prop) (w0 : World) (st : ST) (a : Act) (w : World) : Prop where
  hr : HR g st.hp w
  new : ∀ ℓ, Lv st.hp g ℓ → M0 (g.γ ℓ) ∨ w0.heap.size ≤ g.γ ℓ
  tm : ∀ d, AVR (CR g st.hp w) (st.get d) (a.tmps.getD d undef)
  n : a.tmps.size = st.n
  df : a.defers = []
  fp : Fp M0 w0 w
/-- the first n objects lie where they lay -/
def Ext (n : Nat) (g g' : Gh) : Prop := g'.M = g.M ∧ ∀ i, i < n → g'.γ (.ob i) = g.γ (.ob i) ∧ g'.κ i = g.κ i
theorem Ext.refl (n : Nat) (g : Gh) : Ext n g g := ⟨rfl, fun _ _ => ⟨rfl, rfl⟩⟩
theorem Ext.trans {n : Nat} {a b c : Gh} (h : Ext n a b) (k : Ext n b c) : Ext n a c := ⟨k.1.trans h.1, fun i hi => ⟨(k.2 i hi).1.trans (h.2 i hi).1, (k.2 i hi).2.trans (h.2 i hi).2⟩⟩
theorem Ext.le {n m : Nat} {a b : Gh} (h : Ext n a b) (hm : m ≤ n) : Ext m a b := ⟨h.1, fun i hi => h.2 i (Nat.lt_of_lt_of_le hi hm)⟩
/-- what does not change while a function runs -/
structure Fm where
  P : Nat → Prop
  g : Gh
def Rel (M0 : Fm) (w0 : World) (st : ST) (a : Act) (w : World) : Prop := ∃ g, (st.pin ≤ st.hp.length ∧ Ext st.pin M0.g g) ∧ RelG g M0.P w0 st a w

/-! what a change of the world and of the objects must keep -/
structure Mo (g : Gh) (hp : List Ob) (w : World) (g' : Gh) (hp' : List Ob) (w' : World) (S : Nat → Prop) : Prop where
  bn : ∀ id, Bn hp id → Bn hp' id ∧ g'.γ (.ob id) = g.γ (.ob id) ∧ g'.κ id = g.κ id
  ow : ∀ b, b < w.heap.size → Ow hp' g' b → Ow hp g b
  sz : w.heap.size ≤ w'.heap.size
  fx : ∀ b, b < w.heap.size → ¬ Ow hp g b → w'.heap[b]? = w.heap[b]?
  bo : ∀ id, S id → Bn hp id → ∀ (r' : Row) (j : Nat) (k : Nat × Nat) (cs : List Tr), hp'[id]? = some (.r r') → r'.cells[j]? = some (.o k cs) → ∃ r, hp[id]? = some (.r r) ∧ r.cells[j]? = some (.o k cs) ∧
    (g.γ (.ob id) < w.heap.size → w'.cell? ⟨g.γ (.ob id), j, none⟩ = w.cell? ⟨g.γ (.ob id), j, none⟩)
def C.bok (S : Nat → Prop) : C → Prop
  | .b id _ _ => S id
  | _ => True
section
variable {g g' : Gh} {hp hp' : List Ob} {w w' : World} {S : Nat → Prop}
theorem Mo.rd (h : Mo g hp w g' hp' w' S) {t : Tr} {y : Value} (hr : Rd (Ow hp g) w t y) : Rd (Ow hp' g') w' t y := hr.keep h.sz h.fx h.ow
theorem clo_eq {fn : FuncId} {ids : List Nat} (h : ∀ id ∈ ids, g'.γ (.ob id) = g.γ (.ob id)) : clo g' fn ids = clo g fn ids := by
  unfold clo
  rw [List.map_congr_left (fun id hid => by rw [h id hid])]
theorem CR.mo (h : Mo g hp w g' hp' w' S) {c : C} {y : Value} (hS : c.bok S) (hr : CR g hp w c y) : CR g' hp' w' c y := by
  cases c with
  | u => trivial
  | v x => exact hr
  | t k cs => exact h.rd hr
  | s id n => obtain ⟨h1, h0, A, h2, h3, h4⟩ := hr; obtain ⟨b1, b2, b3⟩ := h.bn id h1; exact ⟨b1, by rw [b3]; exact h0, A, by rw [b3]; exact h2, by rw [b2, b3]; exact h3, fun a ha => Nat.lt_of_lt_of_le (h4 a ha) h.sz⟩
  | p id off => obtain ⟨h1, h2⟩ := hr; obtain ⟨b1, b2, b3⟩ := h.bn id h1; exact ⟨b1, by rw [b2]; exact h2⟩
  | q cs off =>
    obtain ⟨b, o, us, h1, h2, h3, h4, h5⟩ := hr
    exact ⟨b, o, us, h1, fun hin => h2 (h.ow b h3 hin), Nat.lt_of_lt_of_le h3 h.sz, fun j t hj => (World.cell?_of_block (h.fx b h3 h2)).trans (h4 j t hj), fun j t hj => h.rd (h5 j t hj)⟩
  | o k cs => exact hr
  | b id j n =>
    obtain ⟨h1, h2⟩ := hr
    obtain ⟨b1, b2, b3⟩ := h.bn id h1
    refine ⟨b1, fun r' k cs hr' hc' => ?_⟩
    obtain ⟨r, e1, e2, e3⟩ := h.bo id hS h1 r' j k cs hr' hc'
    obtain ⟨f1, f2, f3⟩ := h2 r k cs e1 e2
    rw [b2]
    exact ⟨Nat.lt_of_lt_of_le f1 h.sz, (e3 f1).trans f2, f3⟩
  | m id => obtain ⟨h1, h2⟩ := hr; obtain ⟨b1, b2, b3⟩ := h.bn id h1; exact ⟨b1, by rw [b2]; exact h2⟩
  | w id off n k => obtain ⟨h1, h2, h3, h4⟩ := hr; obtain ⟨b1, b2, b3⟩ := h.bn id h1; exact ⟨b1, by rw [b3]; exact h2, by rw [b3]; exact h3, by rw [b2, b3]; exact h4⟩
  | f fn ids =>
    obtain ⟨h1, h2⟩ := hr
    exact ⟨fun id hid => (h.bn id (h1 id hid)).1, by rw [clo_eq (fun id hid => (h.bn id (h1 id hid)).2.1)]; exact h2⟩
theorem LR.imp {R R' : C → Value → Prop} {xs : List C} {us : List Value} (h : LR R xs us) (hi : ∀ x ∈ xs, ∀ u, R x u → R' x u) : LR R' xs us :=
  ⟨h.1, fun i x hx => by obtain ⟨u, h1, h2⟩ := h.2 i x hx; exact ⟨u, h1, hi x (List.mem_of_getElem? hx) u h2⟩⟩
def A0.all (p : C → Prop) : A0 → Prop
  | .c x => p x
  | .g xs => ∀ x ∈ xs, p x
def AV.all (p : C → Prop) : AV → Prop
  | .a x => x.all p
  | .tup xs => ∀ x ∈ xs, x.all p
theorem A0R.imp {R R' : C → Value → Prop} {p : C → Prop} {x : A0} {y : Value} (hp : x.all p) (h : A0R R x y) (hi : ∀ x, p x → ∀ u, R x u → R' x u) : A0R R' x y := by
  cases x with
  | c x => exact hi x hp y h
  | g xs => obtain ⟨us, h1, h2⟩ := h; exact ⟨us, h1, h2.imp fun x hx u hu => hi x (hp x hx) u hu⟩
theorem AVR.imp {R R' : C → Value → Prop} {p : C → Prop} {x : AV} {y : Value} (hp : x.all p) (h : AVR R x y) (hi : ∀ x, p x → ∀ u, R x u → R' x u) : AVR R' x y := by
  cases x with
  | a x => exact A0R.imp hp h hi
  | tup xs =>
    obtain ⟨us, h1, h2, h3⟩ := h
    exact ⟨us, h1, h2, fun i x hx => by obtain ⟨u, e1, e2⟩ := h3 i x hx; exact ⟨u, e1, A0R.imp (hp x (List.mem_of_getElem? hx)) e2 hi⟩⟩
theorem A0.all_true (x : A0) : x.all (C.bok fun _ => True) := by
  have h : ∀ c : C, c.bok fun _ => True := fun c => by cases c <;> trivial
  cases x with
  | c x => exact h x
  | g xs => exact fun x _ => h x
theorem AV.all_true (x : AV) : x.all (C.bok fun _ => True) := by
  cases x with
  | a x => exact x.all_true
  | tup xs => exact fun x _ => x.all_true
theorem A0R.mo (h : Mo g hp w g' hp' w' (fun _ => True)) {x : A0} {y : Value} (hr : A0R (CR g hp w) x y) : A0R (CR g' hp' w') x y := A0R.imp x.all_true hr fun _ hb _ hu => CR.mo h hb hu
theorem AVR.mo (h : Mo g hp w g' hp' w' (fun _ => True)) {x : AV} {y : Value} (hr : AVR (CR g hp w) x y) : AVR (CR g' hp' w') x y := AVR.imp x.all_true hr fun _ hb _ hu => CR.mo h hb hu
/-- a cell of a row that is not touched -/
theorem CellR.mo (h : Mo g hp w g' hp' w' S) {id j : Nat} {c : C} {y : Value} (hr : CellR g hp w id j c y)
    (ho : ∀ k cs, c = .o k cs → cs ≠ [] → g'.γ (.cl id j) = g.γ (.cl id j) ∧ w'.heap[g.γ (.cl id j)]? = w.heap[g.γ (.cl id j)]?) : CellR g' hp' w' id j c y := by
  cases c with
  | o k cs =>
    rcases hr with ⟨h1, A, h2, h3⟩ | ⟨h1, n, c, arr, h2, h3, h4, h5, h6, h7, h8⟩
    · exact .inl ⟨h1, A, h2, fun a ha => Nat.lt_of_lt_of_le (h3 a ha) h.sz⟩
    · obtain ⟨e1, e2⟩ := ho k cs rfl h1
      exact .inr ⟨h1, n, c, arr, by rw [e1]; exact h2, h3, h4, h5, by rw [e1, e2]; exact h6, h7, fun i t hi => by obtain ⟨u, f1, f2⟩ := h8 i t hi; exact ⟨u, f1, h.rd f2⟩⟩
  | b _ _ _ => exact hr
  | u => trivial
  | v x => exact CR.mo h (c := .v x) trivial hr
  | t k cs => exact CR.mo h (c := .t k cs) trivial hr
  | s id n => exact CR.mo h (c := .s id n) trivial hr
  | p id off => exact CR.mo h (c := .p id off) trivial hr
  | q cs off => exact CR.mo h (c := .q cs off) trivial hr
  | m id => exact CR.mo h (c := .m id) trivial hr
  | w id off n k => exact CR.mo h (c := .w id off n k) trivial hr
  | f fn ids => exact CR.mo h (c := .f fn ids) trivial hr
/-- a row that is not touched -/
theorem RowR.mo (h : Mo g hp w g' hp' w' S) {id : Nat} {r : Row} (hb : hp[id]? = some (.r r)) (hr : RowR g hp w id r) (hk : g.κ id ≠ 0 → w'.heap[g.γ (.ob id)]? = w.heap[g.γ (.ob id)]?)
    (ho : ∀ j k cs, r.cells[j]? = some (.o k cs) → cs ≠ [] → g'.γ (.cl id j) = g.γ (.cl id j) ∧ w'.heap[g.γ (.cl id j)]? = w.heap[g.γ (.cl id j)]?) : RowR g' hp' w' id r := by
  obtain ⟨b1, b2, b3⟩ := h.bn id ⟨_, hb, rfl⟩
  rcases hr with ⟨h1, h2⟩ | ⟨h0, ht, arr, h1, h2, h3, h4, h5⟩
  · exact .inl ⟨by rw [b3]; exact h1, h2⟩
  refine .inr ⟨by rw [b3]; exact h0, ht, arr, by rw [b2, hk h0]; exact h1, h2, by rw [b3]; exact h3, by rw [b3]; exact h4, fun j c hj => ?_⟩
  obtain ⟨u, f1, f2⟩ := h5 j c hj
  exact ⟨u, f1, CellR.mo h f2 fun k cs hc hne => ho j k cs (by rw [hj, hc]) hne⟩
theorem MpR.mo (h : Mo g hp w g' hp' w' S) {id : Nat} {kv : List (Value × C)} (hb : hp[id]? = some (.m kv)) (hr : MpR g hp w id kv) (hk : w'.heap[g.γ (.ob id)]? = w.heap[g.γ (.ob id)]?) : MpR g' hp' w' id kv := by
  obtain ⟨es, clock, h1, h2, h3⟩ := hr
  obtain ⟨b1, b2, b3⟩ := h.bn id ⟨_, hb, rfl⟩
  refine ⟨es, clock, by rw [b2, hk]; exact h1, h2, fun i p hp => ?_⟩
  obtain ⟨⟨e, f1, f2, f3⟩, f4⟩ := h3 i p hp
  exact ⟨⟨e, f1, f2, CellR.mo h f3 fun k cs hc => absurd hc (f4 k cs)⟩, f4⟩
/-- live blocks are there -/
theorem HR.lt (h : HR g hp w) {ℓ : Loc} (hl : Lv hp g ℓ) : g.γ ℓ < w.heap.size := by
  cases ℓ with
  | ob id =>
    rcases hl with ⟨r, hr, hk⟩ | ⟨kv, hr⟩
    · rcases h.row id r hr with ⟨h1, _⟩ | ⟨_, _, arr, h1, _⟩
      · exact absurd h1 hk
      · exact (Array.getElem?_eq_some_iff.1 h1).1
    · obtain ⟨es, c, h1, _⟩ := h.mp id kv hr
      exact (Array.getElem?_eq_some_iff.1 h1).1
  | cl id j =>
    obtain ⟨r, k, cs, hr, hc, hne⟩ := hl
    rcases h.row id r hr with ⟨_, h2⟩ | ⟨_, _, arr, _, _, _, _, h5⟩
    · rw [h2] at hc; simp at hc
    · obtain ⟨u, _, f2⟩ := h5 j _ hc
      rcases f2 with ⟨h1, _⟩ | ⟨_, n, c, arr, _, _, _, _, h6, _⟩
      · exact absurd h1 hne
      · exact (Array.getElem?_eq_some_iff.1 h6).1
end

theorem getD_put {a : Act} {d e : Nat} {v : Value} (hd : d < a.tmps.size) : (a.put (some d) v).tmps.getD e undef = if e = d then v else a.tmps.getD e undef := by
  unfold Act.put
  by_cases h : e = d
  · subst h
    simp [hd]
  · simp [h, Array.getElem?_setIfInBounds, Ne.symm h]
theorem look_put (st : ST) (d e : Nat) (x : AV) : (st.put (some d) x).get e = if e = d then x else st.get e := rfl
/-- the operation's result is put down; nothing changed -/
theorem RelG.put {g : Gh} {M0 : Nat → Prop} {w0 w : World} {st : ST} {a : Act} (h : RelG g M0 w0 st a w) {d : Option Nat} {x : AV} {v : Value} (hd : ∀ e, d = some e → e < st.n) (hx : AVR (CR g st.hp w) x v) :
    RelG g M0 w0 (st.put d x) (a.put d v) w := by
  cases d with
  | none => exact h
  | some d =>
    refine ⟨h.hr, h.new, fun e => ?_, by simp [Act.put, ST.put, h.n], h.df, h.fp⟩
    rw [look_put, getD_put (by rw [h.n]; exact hd d rfl)]
    split
    · exact hx
    · exact h.tm e
/-- objects and world change -/
theorem RelG.mo {g g' : Gh} {M0 : Nat → Prop} {w0 w w' : World} {st : ST} {a : Act} {hp' : List Ob} (h : RelG g M0 w0 st a w) (hm : Mo g st.hp w g' hp' w' (fun _ => True))
    (hr : HR g' hp' w') (hn : ∀ ℓ, Lv hp' g' ℓ → M0 (g'.γ ℓ) ∨ w0.heap.size ≤ g'.γ ℓ) (hf : Fp M0 w0 w') : RelG g' M0 w0 { st with hp := hp' } a w' :=
  ⟨hr, hn, fun d => AVR.mo hm (h.tm d), h.n, h.df, hf⟩
theorem RelG.ev {g : Gh} {M0 : Nat → Prop} {w0 w : World} {st : ST} {a : Act} (h : RelG g M0 w0 st a w) (x : Operand) : AVR (CR g st.hp w) (st.ev x) (a.eval x) := by
  cases x with
  | tmp t => exact h.tm t
  | const v => exact rfl
  | global g => trivial
  | func f => exact ⟨by simp, by simp [Act.eval, clo]⟩
end Go.Proofs.Ytgclmlbaodcccaa
