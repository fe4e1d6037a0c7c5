/- Words for memory and frames, over any program: frames that name the blocks that may change, slices that read as lists, owned rows. -/
import Derived.WalkKit
import Derived.WalkSpells
import Derived.WalkLawsBesides
import Derived.BigQuiet
import Derived.Deep.QuietTactic
import Derived.Deep.RegionHeld3
import Derived.Deep.Draws
import Derived.Deep.AppendLies
import Derived.Maps.AppendAt
import Derived.Lib.Hide
import Derived.Outline
namespace Go.Proofs.YtfjfllpcflddmaaGreat
set_option linter.unusedVariables false
set_option linter.unusedSimpArgs false
open Go.RowKit

/-! Frames: of the blocks that were there, only those of M may have changed. -/
structure Fr (M : List Nat) (w w' : World) : Prop where
  os : w'.os = w.os
  tape : w'.tape = w.tape
  output : w'.output = w.output
  size : w.heap.size ≤ w'.heap.size
  block : ∀ k, k < w.heap.size → k ∉ M → w'.heap[k]? = w.heap[k]?

section
variable {M M' : List Nat} {a b c w w' : World}
theorem Fr.refl (M : List Nat) (w : World) : Fr M w w := ⟨rfl, rfl, rfl, Nat.le_refl _, fun _ _ _ => rfl⟩
theorem Fr.trans (h : Fr M a b) (k : Fr M b c) : Fr M a c :=
  ⟨k.os.trans h.os, k.tape.trans h.tape, k.output.trans h.output, Nat.le_trans h.size k.size,
    fun i hi hm => (k.block i (Nat.lt_of_lt_of_le hi h.size) hm).trans (h.block i hi hm)⟩
theorem Fr.mono (h : Fr M a b) (hs : ∀ k ∈ M, k < a.heap.size → k ∈ M') : Fr M' a b :=
  ⟨h.os, h.tape, h.output, h.size, fun k hk hm => h.block k hk (fun hin => hm (hs k hin hk))⟩
theorem Fr.any (h : Fr [] a b) : Fr M a b := h.mono (fun _ hk => by cases hk)
theorem Fr.drop {m : Nat} (h : Fr (m :: M) a b) (hm : a.heap.size ≤ m) : Fr M a b :=
  h.mono (fun k hk hlt => by
    rcases List.mem_cons.1 hk with rfl | hk
    · omega
    · exact hk)
theorem Fr.cons {m : Nat} (h : Fr M a b) : Fr (m :: M) a b := h.mono (fun _ hk _ => List.mem_cons_of_mem _ hk)
theorem Fr.drew (h : Fr M a w) : Fr M a w.drew := ⟨h.os, h.tape, h.output, h.size, h.block⟩
theorem Fr.drewN (h : Fr M a w) (n : Nat) : Fr M a (w.drewN n) := ⟨h.os, h.tape, h.output, h.size, h.block⟩
theorem Fr.alloc (h : Fr M a w) (o : Obj) : Fr M a (w.alloc o) :=
  h.trans ⟨rfl, rfl, rfl, by simp, fun k hk _ => Below.heap_alloc _ _ _ hk⟩
theorem Fr.setCell (h : Fr M a w) {p : Addr} (hp : p.block ∈ M ∨ a.heap.size ≤ p.block) (u : Value) : Fr M a (w.setCell p u) :=
  ⟨h.os, h.tape, h.output, by simpa [World.setCell] using h.size, fun k hk hm => (Below.heap_setCell _ _ _ _ (by
    rintro rfl
    rcases hp with hp | hp
    · exact hm hp
    · omega)).trans (h.block k hk hm)⟩
theorem Fr.grown (h : Fr M a w) {row : Option Nat} (hg : w.grownBy w' row) (hr : ∀ k, row = some k → k ∈ M ∨ a.heap.size ≤ k) : Fr M a w' :=
  ⟨hg.os.trans h.os, hg.tape.trans h.tape, hg.output.trans h.output, Nat.le_trans h.size hg.size,
    fun k hk hm => (hg.block k (Nat.lt_of_lt_of_le hk h.size) (fun e => by
      rcases hr k e.symm with hp | hp
      · exact hm hp
      · omega)).trans (h.block k hk hm)⟩
theorem Fr.of_below (h : Below w.heap.size w w') : Fr M w w' := ⟨h.os, h.tape, h.output, h.size, fun k hk _ => h.block k hk⟩
theorem Fr.below (h : Fr [] w w') : Below w.heap.size w w' := ⟨h.os, h.tape, h.output, h.size, fun k hk => h.block k hk (by simp)⟩
theorem Fr.cell (h : Fr M w w') {p : Addr} (hp : p.block < w.heap.size) (hm : p.block ∉ M) : w'.cell? p = w.cell? p := World.cell?_of_block (h.block p.block hp hm)
theorem Fr.grownBy {m : Nat} (h : Fr [m] a b) : a.grownBy b (some m) := ⟨h.os, h.tape, h.output, h.size, fun k hk hne => h.block k hk (by simpa using fun e => hne (by rw [e]))⟩
end

theorem size_setCell (w : World) (p : Addr) (u : Value) : (w.setCell p u).heap.size = w.heap.size := by simp [World.setCell]

/-! A block that is known whole. -/
def Blk (w : World) (g : Nat) (e : TypeId) (cs : List Value) : Prop := w.heap[g]? = some (.cells cs.toArray e (0, 0))
section
variable {w w' : World} {g : Nat} {e : TypeId} {cs : List Value} {M : List Nat}
theorem Blk.lt (h : Blk w g e cs) : g < w.heap.size := by
  rcases Nat.lt_or_ge g w.heap.size with hlt | hge
  · exact hlt
  · unfold Blk at h; rw [Array.getElem?_eq_none hge] at h; cases h
theorem Blk.cell (h : Blk w g e cs) (i : Nat) : w.cell? ⟨g, i, none⟩ = cs[i]? := by
  rw [cell_of_row w g i _ e (0, 0) h]; simp
theorem Blk.cellS (h : Blk w g e cs) {i : Nat} {u : Value} (hu : cs[i]? = some u) : w.cell? ⟨g, i, none⟩ = some u := (h.cell i).trans hu
theorem Blk.frozen (h : Blk w g e cs) (i : Nat) : w.frozen? ⟨g, i, none⟩ = false := by
  unfold Blk at h; simp [World.frozen?, h]
theorem Blk.new (w : World) (e : TypeId) (cs : List Value) : Blk (w.alloc (.cells cs.toArray e)) w.heap.size e cs := heap_alloc_new w _
theorem Blk.drew (h : Blk w g e cs) : Blk w.drew g e cs := h
theorem Blk.drewN (h : Blk w g e cs) (n : Nat) : Blk (w.drewN n) g e cs := h
theorem Blk.alloc (h : Blk w g e cs) (o : Obj) : Blk (w.alloc o) g e cs := (Below.heap_alloc w o g h.lt).trans h
theorem Blk.set_ (h : Blk w g e cs) (i : Nat) (u : Value) : Blk (w.setCell ⟨g, i, none⟩ u) g e (cs.set i u) := by
  unfold Blk at h ⊢
  simp [World.setCell, Array.getElem?_modify, h]
theorem Blk.far (h : Blk w g e cs) {p : Addr} (hp : g ≠ p.block) (u : Value) : Blk (w.setCell p u) g e cs := (Below.heap_setCell w p u g hp).trans h
theorem Blk.fr (h : Blk w g e cs) (hf : Fr M w w') (hg : g ∉ M) : Blk w' g e cs := (hf.block g h.lt hg).trans h
theorem Blk.ne_ {g' : Nat} {e' : TypeId} {cs' : List Value} (h : Blk w g e cs) (h' : Blk w g' e' cs') (hne : e ≠ e') : g ≠ g' := by
  rintro rfl
  unfold Blk at h h'
  rw [h] at h'
  injection h' with h'
  injection h' with _ ht
  exact hne ht
end

/-! A slice that reads as a list of cells, in blocks that are not in M. -/
structure Sl (M : List Nat) (w : World) (A : Option Addr) (n c k : Nat) (cs : List Value) : Prop where
  len : cs.length = n * k
  cap : n ≤ c
  at_ : 0 < n → ∃ b off, A = some ⟨b, off, none⟩ ∧ b ∉ M ∧ b < w.heap.size ∧ ∀ j u, cs[j]? = some u → w.cell? ⟨b, off + j, none⟩ = some u

section
variable {M M' : List Nat} {w w' : World} {A : Option Addr} {n c k : Nat} {cs : List Value}
theorem Sl.nil (M : List Nat) (w : World) (k : Nat) : Sl M w none 0 0 k [] := ⟨by simp, Nat.le_refl _, fun h => absurd h (by omega)⟩
theorem Sl.empty (h : Sl M w A n c k cs) (hn : n = 0) (M' : List Nat) (w' : World) : Sl M' w' A n c k cs := ⟨h.len, h.cap, fun hp => absurd hp (by omega)⟩
theorem Sl.keep (h : Sl M w A n c k cs) (hf : Fr M w w') : Sl M w' A n c k cs :=
  ⟨h.len, h.cap, fun hn => by
    obtain ⟨b, off, hA, hm, hb, hc⟩ := h.at_ hn
    exact ⟨b, off, hA, hm, Nat.lt_of_lt_of_le hb hf.size, fun j u hu => (hf.cell (p := ⟨b, off + j, none⟩) hb hm).trans (hc j u hu)⟩⟩
theorem Sl.sub (h : Sl M w A n c k cs) (hs : ∀ m ∈ M', m ∈ M) : Sl M' w A n c k cs :=
  ⟨h.len, h.cap, fun hn => by
    obtain ⟨b, off, hA, hm, r⟩ := h.at_ hn
    exact ⟨b, off, hA, fun hin => hm (hs _ hin), r⟩⟩
theorem Sl.plain (h : Sl M w A n c k cs) : Sl [] w A n c k cs := h.sub (fun _ hm => by cases hm)
theorem Sl.new (h : Sl M w A n c k cs) {m : Nat} (hm : w.heap.size ≤ m) : Sl (m :: M) w A n c k cs :=
  ⟨h.len, h.cap, fun hn => by
    obtain ⟨b, off, hA, hm', hb, r⟩ := h.at_ hn
    exact ⟨b, off, hA, by simp only [List.mem_cons, not_or]; exact ⟨by omega, hm'⟩, hb, r⟩⟩
theorem Sl.lit (M : List Nat) (w : World) (e : TypeId) (cs : Array Value) (n c k : Nat) (hl : cs.toList.length = n * k) (hc : n ≤ c) (hM : w.heap.size ∉ M) : Sl M (w.alloc (.cells cs e)) (some ⟨w.heap.size, 0, none⟩) n c k cs.toList :=
  ⟨hl, hc, fun _ => ⟨_, _, rfl, hM, by simp, fun j u hu => by
    rw [cell_of_row _ w.heap.size (0 + j) cs e (0, 0) (heap_alloc_new w _)]
    simpa using hu⟩⟩
/-- .. its block's number spelled otherwise -/
theorem Sl.litg (M : List Nat) (w : World) (e : TypeId) (cs : Array Value) (n c k g : Nat) (hl : cs.toList.length = n * k) (hc : n ≤ c) (hg : w.heap.size = g) (hM : g ∉ M) : Sl M (w.alloc (.cells cs e)) (some ⟨g, 0, none⟩) n c k cs.toList := by
  subst hg; exact Sl.lit M w e cs n c k hl hc hM
/-- a cut of a slice, as the model writes it -/
def cutA (A : Option Addr) (c i k : Nat) : Option Addr := if c = i then A else A.map (·.add (i * k))
theorem Sl.cut (h : Sl M w A n c k cs) {i j : Nat} (hij : i ≤ j) (hj : j ≤ n) (hk : 0 < k) :
    Sl M w (cutA A c i k) (j - i) (c - i) k ((cs.drop (i * k)).take ((j - i) * k)) := by
  unfold cutA
  refine ⟨by rw [List.length_take, List.length_drop, h.len, ← Nat.sub_mul, Nat.min_eq_left]; exact Nat.mul_le_mul_right _ (by omega), by have := h.cap; omega, fun hn => ?_⟩
  obtain ⟨b, off, rfl, hm, hb, hc⟩ := h.at_ (by omega)
  rw [if_neg (by have := h.cap; omega)]
  refine ⟨b, off + i * k, ?_, hm, hb, fun q u hu => ?_⟩
  · simp [Addr.add]
  · rw [List.getElem?_take] at hu
    split at hu
    · rw [List.getElem?_drop] at hu
      rw [Nat.add_assoc]
      exact hc _ u hu
    · cases hu
end

/-! Lists of data as cells. -/
def ci (x : Int) : List Value := [.int .i64 x]
def cb (x : Bool) : List Value := [.bool x]
def cp (x : Int × Int) : List Value := [.int .i64 x.1, .int .i64 x.2]
def cv (x : Value) : List Value := [x]

theorem flat_len {α : Type} (f : α → List Value) (k : Nat) (hf : ∀ x, (f x).length = k) (xs : List α) : (xs.flatMap f).length = xs.length * k := by
  induction xs with
  | nil => simp
  | cons x xs ih => simp only [List.flatMap_cons, List.length_append, hf, ih, List.length_cons, Nat.add_mul, Nat.one_mul]; omega
theorem flat_get {α : Type} (f : α → List Value) (k : Nat) (hf : ∀ x, (f x).length = k) (xs : List α) (i j : Nat) (x : α) (hx : xs[i]? = some x) (hj : j < k) :
    (xs.flatMap f)[i * k + j]? = (f x)[j]? := by
  induction xs generalizing i with
  | nil => simp at hx
  | cons y ys ih =>
    cases i with
    | zero =>
      simp only [List.getElem?_cons_zero, Option.some.injEq] at hx
      subst hx
      simp only [List.flatMap_cons, Nat.zero_mul, Nat.zero_add]
      rw [List.getElem?_append_left (by rw [hf]; exact hj)]
    | succ i =>
      simp only [List.getElem?_cons_succ] at hx
      simp only [List.flatMap_cons]
      rw [List.getElem?_append_right (by rw [hf, Nat.add_mul]; omega), hf]
      rw [← ih i hx]
      congr 1
      rw [Nat.add_mul]; omega
theorem flat_drop {α : Type} (f : α → List Value) (k : Nat) (hf : ∀ x, (f x).length = k) (xs : List α) (i : Nat) : (xs.flatMap f).drop (i * k) = (xs.drop i).flatMap f := by
  induction i generalizing xs with
  | zero => simp
  | succ i ih =>
    cases xs with
    | nil => simp
    | cons x xs =>
      simp only [List.flatMap_cons, List.drop_succ_cons]
      rw [show (i + 1) * k = (f x).length + i * k from by rw [hf, Nat.add_mul]; omega, ← List.drop_drop, List.drop_left, ih]
theorem flat_take {α : Type} (f : α → List Value) (k : Nat) (hf : ∀ x, (f x).length = k) (xs : List α) (i : Nat) : (xs.flatMap f).take (i * k) = (xs.take i).flatMap f := by
  induction i generalizing xs with
  | zero => simp
  | succ i ih =>
    cases xs with
    | nil => simp
    | cons x xs =>
      simp only [List.flatMap_cons, List.take_succ_cons]
      rw [show (i + 1) * k = (f x).length + i * k from by rw [hf, Nat.add_mul]; omega, List.take_length_add_append, ih]

/-- the slice reads as the list xs of elements of k cells -/
structure Ls {α : Type} (f : α → List Value) (k : Nat) (M : List Nat) (w : World) (A : Option Addr) (n c : Nat) (xs : List α) : Prop where
  sl : Sl M w A n c k (xs.flatMap f)
  n_eq : xs.length = n

section
variable {α : Type} {f : α → List Value} {k : Nat} {M M' : List Nat} {w w' : World} {A : Option Addr} {n c : Nat} {xs : List α}
theorem Ls.keep (h : Ls f k M w A n c xs) (hf : Fr M w w') : Ls f k M w' A n c xs := ⟨h.sl.keep hf, h.n_eq⟩
theorem Ls.sub (h : Ls f k M w A n c xs) (hs : ∀ m ∈ M', m ∈ M) : Ls f k M' w A n c xs := ⟨h.sl.sub hs, h.n_eq⟩
theorem Ls.plain (h : Ls f k M w A n c xs) : Ls f k [] w A n c xs := ⟨h.sl.plain, h.n_eq⟩
theorem Ls.new (h : Ls f k M w A n c xs) {m : Nat} (hm : w.heap.size ≤ m) : Ls f k (m :: M) w A n c xs := ⟨h.sl.new hm, h.n_eq⟩
theorem Ls.nil (f : α → List Value) (k : Nat) (M : List Nat) (w : World) : Ls f k M w none 0 0 [] := ⟨Sl.nil _ _ _, rfl⟩
theorem Ls.get (h : Ls f k M w A n c xs) {i : Nat} (hi : i < n) : ∃ b off x, A = some ⟨b, off, none⟩ ∧ b ∉ M ∧ b < w.heap.size ∧ xs[i]? = some x ∧ xs.drop i = x :: xs.drop (i + 1) ∧
    ∀ (hfk : ∀ x, (f x).length = k) j u, j < k → (f x)[j]? = some u → w.cell? ⟨b, off + i * k + j, none⟩ = some u := by
  obtain ⟨b, off, hA, hm, hb, hc⟩ := h.sl.at_ (by omega)
  have hl : i < xs.length := by rw [h.n_eq]; exact hi
  refine ⟨b, off, xs[i], hA, hm, hb, List.getElem?_eq_getElem hl, List.drop_eq_getElem_cons hl, fun hfk j u hj hu => ?_⟩
  rw [Nat.add_assoc]
  refine hc _ u ?_
  rw [flat_get f k hfk xs i j xs[i] (List.getElem?_eq_getElem hl) hj]
  exact hu
theorem Ls.cut (h : Ls f k M w A n c xs) (hfk : ∀ x, (f x).length = k) {i j : Nat} (hij : i ≤ j) (hj : j ≤ n) (hk : 0 < k) :
    Ls f k M w (cutA A c i k) (j - i) (c - i) ((xs.drop i).take (j - i)) := by
  refine ⟨?_, by rw [List.length_take, List.length_drop, h.n_eq]; omega⟩
  have := h.sl.cut hij hj hk
  rw [flat_drop f k hfk, flat_take f k hfk] at this
  exact this
theorem Ls.pre (h : Ls f k M w A n c xs) (hfk : ∀ x, (f x).length = k) {j : Nat} (hj : j ≤ n) : Ls f k M w A j c (xs.take j) := by
  refine ⟨⟨?_, by have := h.sl.cap; omega, fun hn => ?_⟩, by rw [List.length_take, h.n_eq]; omega⟩
  · rw [flat_len f k hfk, List.length_take, h.n_eq, Nat.min_eq_left hj]
  · obtain ⟨b, off, rfl, hm, hb, hc⟩ := h.sl.at_ (by omega)
    refine ⟨b, off, rfl, hm, hb, fun q u hu => hc q u ?_⟩
    rw [← flat_take f k hfk, List.getElem?_take] at hu
    split at hu
    · exact hu
    · cases hu
theorem Ls.suf (h : Ls f k M w A n c xs) (hfk : ∀ x, (f x).length = k) (hk : 0 < k) {i : Nat} (hi : i ≤ n) : Ls f k M w (cutA A c i k) (n - i) (c - i) (xs.drop i) := by
  have := h.cut hfk hi (Nat.le_refl n) hk
  rwa [List.take_of_length_le (by rw [List.length_drop, h.n_eq]; exact Nat.le_refl _)] at this
theorem Ls.of_blk {e : TypeId} {g : Nat} (hfk : ∀ x, (f x).length = k) (h : Blk w g e (xs.flatMap f)) (hg : g ∉ M) : Ls f k M w (some ⟨g, 0, none⟩) xs.length xs.length xs :=
  ⟨⟨flat_len f k hfk xs, Nat.le_refl _, fun _ => ⟨g, 0, rfl, hg, h.lt, fun j u hu => by rw [Nat.zero_add]; exact h.cellS hu⟩⟩, rfl⟩
end

abbrev Ints := Ls ci 1
abbrev Bools := Ls cb 1
abbrev Pairs := Ls cp 2

section
variable {M : List Nat} {w : World} {A : Option Addr} {n c : Nat}
theorem Ls.geti {xs : List Int} (h : Ints M w A n c xs) {i : Nat} (hi : i < n) : ∃ b off x, A = some ⟨b, off, none⟩ ∧ b ∉ M ∧ b < w.heap.size ∧ xs[i]? = some x ∧ xs.drop i = x :: xs.drop (i + 1) ∧
    w.cell? ⟨b, off + i, none⟩ = some (.int .i64 x) := by
  obtain ⟨b, off, x, h1, h2, h3, h4, h5, h6⟩ := h.get hi
  exact ⟨b, off, x, h1, h2, h3, h4, h5, by simpa using h6 (fun _ => rfl) 0 _ (by omega) rfl⟩
theorem Ls.getb {xs : List Bool} (h : Bools M w A n c xs) {i : Nat} (hi : i < n) : ∃ b off x, A = some ⟨b, off, none⟩ ∧ b ∉ M ∧ b < w.heap.size ∧ xs[i]? = some x ∧ xs.drop i = x :: xs.drop (i + 1) ∧
    w.cell? ⟨b, off + i, none⟩ = some (.bool x) := by
  obtain ⟨b, off, x, h1, h2, h3, h4, h5, h6⟩ := h.get hi
  exact ⟨b, off, x, h1, h2, h3, h4, h5, by simpa using h6 (fun _ => rfl) 0 _ (by omega) rfl⟩
theorem Ls.getp {xs : List (Int × Int)} (h : Pairs M w A n c xs) {i : Nat} (hi : i < n) : ∃ b off x y, A = some ⟨b, off, none⟩ ∧ b ∉ M ∧ b < w.heap.size ∧ xs[i]? = some (x, y) ∧ xs.drop i = (x, y) :: xs.drop (i + 1) ∧
    w.cell? ⟨b, off + i * 2, none⟩ = some (.int .i64 x) ∧ w.cell? ⟨b, off + i * 2 + 1, none⟩ = some (.int .i64 y) := by
  obtain ⟨b, off, ⟨x, y⟩, h1, h2, h3, h4, h5, h6⟩ := h.get hi
  exact ⟨b, off, x, y, h1, h2, h3, h4, h5, by simpa using h6 (fun _ => rfl) 0 _ (by omega) rfl, by simpa using h6 (fun _ => rfl) 1 _ (by omega) rfl⟩
end

/-! Slices of slices. -/
/-- the value is a slice that reads as xs -/
def LsV {α : Type} (f : α → List Value) (k : Nat) (M : List Nat) (w : World) (v : Value) (xs : List α) : Prop := ∃ A n c, v = .slice A n c ∧ Ls f k M w A n c xs
def LRel {β α : Type} (R : β → α → Prop) (vs : List β) (rs : List α) : Prop := vs.length = rs.length ∧ ∀ (i : Nat) (v : β) (r : α), vs[i]? = some v → rs[i]? = some r → R v r

structure Ll {α : Type} (f : α → List Value) (k : Nat) (M : List Nat) (w : World) (A : Option Addr) (n c : Nat) (rs : List (List α)) : Prop where
  ex : ∃ vs, Ls cv 1 M w A n c vs ∧ LRel (LsV f k M w) vs rs

section
variable {α : Type} {f : α → List Value} {k : Nat} {M M' : List Nat} {w w' : World} {A : Option Addr} {n c : Nat} {rs : List (List α)}
theorem LsV.keep {v : Value} {xs : List α} (h : LsV f k M w v xs) (hf : Fr M w w') : LsV f k M w' v xs := by
  obtain ⟨A, n, c, hv, h⟩ := h; exact ⟨A, n, c, hv, h.keep hf⟩
theorem LsV.sub {v : Value} {xs : List α} (h : LsV f k M w v xs) (hs : ∀ m ∈ M', m ∈ M) : LsV f k M' w v xs := by
  obtain ⟨A, n, c, hv, h⟩ := h; exact ⟨A, n, c, hv, h.sub hs⟩
theorem LsV.new {v : Value} {xs : List α} (h : LsV f k M w v xs) {m : Nat} (hm : w.heap.size ≤ m) : LsV f k (m :: M) w v xs := by
  obtain ⟨A, n, c, hv, h⟩ := h; exact ⟨A, n, c, hv, h.new hm⟩
theorem LRel.imp {β γ : Type} {R R' : β → γ → Prop} {vs : List β} {rs : List γ} (h : LRel R vs rs) (hi : ∀ v r, R v r → R' v r) : LRel R' vs rs := ⟨h.1, fun i v r hv hr => hi v r (h.2 i v r hv hr)⟩
theorem LRel.nil {β γ : Type} {R : β → γ → Prop} : LRel R ([] : List β) ([] : List γ) := ⟨rfl, fun i v r hv _ => by simp at hv⟩
theorem LRel.snoc {β γ : Type} {R : β → γ → Prop} {vs : List β} {rs : List γ} (h : LRel R vs rs) {v : β} {r : γ} (hv : R v r) : LRel R (vs ++ [v]) (rs ++ [r]) := by
  refine ⟨by simp [h.1], fun i v' r' h1 h2 => ?_⟩
  by_cases hi : i < vs.length
  · rw [List.getElem?_append_left hi] at h1
    rw [List.getElem?_append_left (by rw [← h.1]; exact hi)] at h2
    exact h.2 i v' r' h1 h2
  · rw [List.getElem?_append_right (by omega)] at h1
    rw [List.getElem?_append_right (by rw [← h.1]; omega), ← h.1] at h2
    by_cases h0 : i - vs.length = 0
    · rw [h0] at h1 h2
      simp at h1 h2
      subst h1; subst h2
      exact hv
    · obtain ⟨q, hq⟩ : ∃ q, i - vs.length = q + 1 := ⟨i - vs.length - 1, by omega⟩
      rw [hq] at h1
      simp at h1
theorem LRel.set {β γ : Type} {R : β → γ → Prop} {vs : List β} {rs : List γ} (h : LRel R vs rs) (s : Nat) {v : β} {r : γ} (hv : R v r) : LRel R (vs.set s v) (rs.set s r) := by
  refine ⟨by simp [h.1], fun i v' r' h1 h2 => ?_⟩
  rw [List.getElem?_set] at h1 h2
  rw [← h.1] at h2
  split at h1
  · split at h1
    · rename_i hlt
      simp_all
    · cases h1
  · split at h2
    · contradiction
    · exact h.2 i v' r' h1 h2
theorem LRel.rep {β γ : Type} {R : β → γ → Prop} {v : β} {r : γ} (hv : R v r) (n : Nat) : LRel R (List.replicate n v) (List.replicate n r) :=
  ⟨by simp, fun i v' r' h1 h2 => by
    rw [List.getElem?_replicate] at h1 h2
    split at h1
    · simp_all
    · cases h1⟩
theorem LRel.get {β γ : Type} {R : β → γ → Prop} {vs : List β} {rs : List γ} (h : LRel R vs rs) {i : Nat} {v : β} (hv : vs[i]? = some v) : ∃ r, rs[i]? = some r ∧ R v r := by
  have hlt : i < vs.length := (List.getElem?_eq_some_iff.1 hv).1
  have hr : rs[i]? = some (rs[i]'(by rw [← h.1]; exact hlt)) := List.getElem?_eq_getElem _
  exact ⟨_, hr, h.2 i v _ hv hr⟩
theorem LRel.get' {β γ : Type} {R : β → γ → Prop} {vs : List β} {rs : List γ} (h : LRel R vs rs) {i : Nat} {r : γ} (hr : rs[i]? = some r) : ∃ v, vs[i]? = some v ∧ R v r := by
  have hlt : i < rs.length := (List.getElem?_eq_some_iff.1 hr).1
  have hv : vs[i]? = some (vs[i]'(by rw [h.1]; exact hlt)) := List.getElem?_eq_getElem _
  exact ⟨_, hv, h.2 i _ r hv hr⟩
theorem Ll.keep (h : Ll f k M w A n c rs) (hf : Fr M w w') : Ll f k M w' A n c rs := by
  obtain ⟨vs, h1, h2⟩ := h.ex
  exact ⟨vs, h1.keep hf, h2.imp fun _ _ hr => hr.keep hf⟩
theorem Ll.sub (h : Ll f k M w A n c rs) (hs : ∀ m ∈ M', m ∈ M) : Ll f k M' w A n c rs := by
  obtain ⟨vs, h1, h2⟩ := h.ex
  exact ⟨vs, h1.sub hs, h2.imp fun _ _ hr => hr.sub hs⟩
theorem Ll.plain (h : Ll f k M w A n c rs) : Ll f k [] w A n c rs := h.sub (fun _ hm => by cases hm)
theorem Ll.new (h : Ll f k M w A n c rs) {m : Nat} (hm : w.heap.size ≤ m) : Ll f k (m :: M) w A n c rs := by
  obtain ⟨vs, h1, h2⟩ := h.ex
  exact ⟨vs, h1.new hm, h2.imp fun _ _ hr => hr.new hm⟩
theorem Ll.n_eq (h : Ll f k M w A n c rs) : rs.length = n := by
  obtain ⟨vs, h1, h2⟩ := h.ex
  rw [← h2.1]; exact h1.n_eq
theorem Ll.nil (f : α → List Value) (k : Nat) (M : List Nat) (w : World) : Ll f k M w none 0 0 [] := ⟨[], Ls.nil _ _ _ _, LRel.nil⟩
theorem Ll.get (h : Ll f k M w A n c rs) {i : Nat} (hi : i < n) : ∃ b off B m d r, A = some ⟨b, off, none⟩ ∧ b ∉ M ∧ b < w.heap.size ∧ rs[i]? = some r ∧ rs.drop i = r :: rs.drop (i + 1) ∧
    w.cell? ⟨b, off + i, none⟩ = some (.slice B m d) ∧ Ls f k M w B m d r := by
  obtain ⟨vs, h1, h2⟩ := h.ex
  obtain ⟨b, off, v, hA, hm, hb, hv, _, hcell⟩ := h1.get hi
  obtain ⟨r, hr, B, m, d, rfl, hL⟩ := h2.get hv
  have hlt : i < rs.length := (List.getElem?_eq_some_iff.1 hr).1
  refine ⟨b, off, B, m, d, r, hA, hm, hb, hr, ?_, by simpa using hcell (fun _ => rfl) 0 _ (by omega) rfl, hL⟩
  rw [List.drop_eq_getElem_cons hlt]
  congr 1
  rw [List.getElem?_eq_getElem hlt] at hr
  exact Option.some.inj hr
end

/-! boxes: blocks that stand at the beginning of a walk -/
section
variable {M : List Nat} {w wr : World} {o : Obj} {cs cs' : Array Value} {e e' : TypeId}
theorem Fr.box (hF : Fr M (w.alloc o) wr) : Fr M w wr := ((Fr.refl M w).alloc o).trans hF
theorem Fr.box2 {o' : Obj} (hF : Fr M ((w.alloc o).alloc o') wr) : Fr M w wr := hF.box.box
theorem Fr.lt (hF : Fr M (w.alloc o) wr) : w.heap.size < wr.heap.size := by have := hF.size; simp at this; omega
theorem Fr.lt2 {o' : Obj} (hF : Fr M ((w.alloc o).alloc o') wr) : w.heap.size + 1 < wr.heap.size := by have := hF.size; simp at this; omega
theorem Fr.at1 (hF : Fr M (w.alloc (.cells cs e)) wr) (hM : w.heap.size ∉ M) (i : Nat) : wr.cell? ⟨w.heap.size, i, none⟩ = cs[i]? := by
  rw [hF.cell (by simp) hM]; exact cell_of_row _ _ _ _ _ _ (heap_alloc_new w _)
theorem Fr.at2a (hF : Fr M ((w.alloc (.cells cs e)).alloc o) wr) (hM : w.heap.size ∉ M) (i : Nat) : wr.cell? ⟨w.heap.size, i, none⟩ = cs[i]? := (Fr.box hF).at1 hM i
theorem Fr.at2b (hF : Fr M ((w.alloc o).alloc (.cells cs e)) wr) (hM : w.heap.size + 1 ∉ M) (i : Nat) : wr.cell? ⟨w.heap.size + 1, i, none⟩ = cs[i]? := by
  have h := Fr.at1 (w := w.alloc o) hF (by simpa using hM) i
  simpa using h
end

/-! Owned rows as lists, and the law of append for them. -/
structure ET (P : Program) (t e : TypeId) (k bytes : Nat) : Prop where
  ht : P.underlying t = some (.slice e)
  hi : ∃ i z, P.info? e = some i ∧ i.zero = some z ∧ i.size = k ∧ i.bytes = bytes ∧ z.cells.size = k
  hk : 0 < k

section
variable {P : Program} {α : Type} {f : α → List Value} {M : List Nat} {w w' : World} {A : Option Addr} {n m c k bytes : Nat} {B : Nat} {t e : TypeId} {v : Value} {cs news : List Value} {xs : List α}
/-- the value is the call's own row (or a full row, to which an append makes a new one), in a block from B on -/
def Own (w : World) (B : Nat) (e : TypeId) (k : Nat) (v : Value) (n : Nat) (cs : List Value) : Prop :=
  w.ownsRow B e k v n cs ∨ ∃ A, v = .slice A n n ∧ Sl [] w A n n k cs ∧ ∀ a, A = some a → B ≤ a.block ∧ a.block < w.heap.size
theorem Own.nil (w : World) (B : Nat) (e : TypeId) (k : Nat) : Own w B e k (.slice none 0 0) 0 [] := .inl (World.ownsRow_nil _ _ _ _)
theorem Own.lit0 (w : World) (B : Nat) (e : TypeId) (k : Nat) (b off : Nat) (h1 : B ≤ b) (h2 : b < w.heap.size) : Own w B e k (.slice (some ⟨b, off, none⟩) 0 0) 0 [] :=
  .inr ⟨_, rfl, ⟨by simp, Nat.le_refl _, fun h => absurd h (by omega)⟩, fun a ha => by cases ha; exact ⟨h1, h2⟩⟩
theorem Own.full {A : Option Addr} (h : Sl [] w A n n k cs) (hA : ∀ a, A = some a → B ≤ a.block ∧ a.block < w.heap.size) : Own w B e k (.slice A n n) n cs := .inr ⟨A, rfl, h, hA⟩
theorem Own.form (h : Own w B e k v n cs) : ∃ A c, v = .slice A n c ∧ n ≤ c := by
  rcases h with ⟨_, ⟨rfl, rfl⟩ | ⟨g, cap, cur, rfl, _, _, hn, _⟩⟩ | ⟨A, rfl, _⟩
  · exact ⟨_, _, rfl, Nat.le_refl _⟩
  · exact ⟨_, _, rfl, hn⟩
  · exact ⟨_, _, rfl, Nat.le_refl _⟩
theorem Own.len (h : Own w B e k v n cs) : cs.length = n * k := by
  rcases h with h | ⟨A, _, h, _⟩
  · exact h.1
  · exact h.len
theorem Own.sl {A : Option Addr} (h : Own w B e k (.slice A n c) n cs) (hM : ∀ m ∈ M, m < B) : Sl M w A n c k cs := by
  rcases h with h | ⟨A', hv, h, hb⟩
  · refine ⟨h.1, ?_, fun hn => ?_⟩
    · rcases h.2 with ⟨h1, h2⟩ | ⟨g, cap, cur, h1, _, _, hn, _⟩
      · omega
      · injection h1 with _ _ h1; omega
    · rcases h.2 with ⟨_, h2⟩ | ⟨g, cap, cur, h1, hg, hh, _, _, _, ht⟩
      · omega
      · injection h1 with h1
        subst h1
        refine ⟨g, 0, rfl, fun hin => by have := hM g hin; omega, (Array.getElem?_eq_some_iff.1 hh).1, fun j u hu => ?_⟩
        rw [Nat.zero_add, cell_of_row w g j cur e (0, 0) hh]
        rw [← ht, List.getElem?_take] at hu
        split at hu
        · simpa using hu
        · cases hu
  · injection hv with e1 e2 e3
    subst e1; subst e3
    refine ⟨h.len, h.cap, fun hn => ?_⟩
    obtain ⟨b, off, hA, _, hlt, hc⟩ := h.at_ hn
    have hB := (hb _ hA).1
    exact ⟨b, off, hA, fun hin => by have := hM b hin; simp at hB; omega, hlt, hc⟩
theorem Own.ls (h : Own w B e k v n (xs.flatMap f)) (hn : xs.length = n) (hM : ∀ m ∈ M, m < B) : ∃ A c, v = .slice A n c ∧ Ls f k M w A n c xs := by
  obtain ⟨A, c, rfl, _⟩ := h.form
  exact ⟨A, c, rfl, h.sl hM, hn⟩
theorem Own.fr (h : Own w B e k v n cs) (hf : Fr M w w') (hM : ∀ m ∈ M, m < B) : Own w' B e k v n cs := by
  rcases h with h | ⟨A, rfl, h, hb⟩
  · left
    refine ⟨h.1, ?_⟩
    rcases h.2 with hn | ⟨g, cap, cur, rfl, hb, hgg, rest⟩
    · exact .inl hn
    · refine .inr ⟨g, cap, cur, rfl, hb, ?_, rest⟩
      rw [hf.block g (Array.getElem?_eq_some_iff.1 hgg).1 (fun hin => by have := hM g hin; omega)]
      exact hgg
  · right
    refine ⟨A, rfl, ⟨h.len, h.cap, fun hn => ?_⟩, fun a ha => ⟨(hb a ha).1, Nat.lt_of_lt_of_le (hb a ha).2 hf.size⟩⟩
    obtain ⟨b, off, hA, _, hlt, hc⟩ := h.at_ hn
    have hB := (hb _ hA).1
    simp at hB
    exact ⟨b, off, hA, by simp, Nat.lt_of_lt_of_le hlt hf.size, fun j u hu => (hf.cell (p := ⟨b, off + j, none⟩) hlt (fun hin => by have := hM b hin; omega)).trans (hc j u hu)⟩
theorem Own.blk2 (h : Own w B e k v n cs) (g : Nat) (hg : v.ownBlock = some g) : B ≤ g ∧ g < w.heap.size := by
  rcases h with h | ⟨A, rfl, h, hb⟩
  · exact h.lt g hg
  · cases A with
    | none => cases hg
    | some a =>
      simp only [Value.ownBlock, Option.some.injEq] at hg
      subst hg
      exact hb a rfl
/-- an owned value is kept where its block is not written -/
theorem Own.keep (h : Own w B e k v n cs) (hf : Fr M w w') (hd : ∀ b, v.ownBlock = some b → b ∉ M) : Own w' B e k v n cs := by
  rcases h with ho | ⟨A', rfl, ho, hA'⟩
  · left
    refine ⟨ho.1, ?_⟩
    rcases ho.2 with h0 | ⟨g, cap, cur, rfl, hg, hh, rest⟩
    · exact .inl h0
    · refine .inr ⟨g, cap, cur, rfl, hg, ?_, rest⟩
      rw [hf.block g (Array.getElem?_eq_some_iff.1 hh).1 (hd g rfl)]
      exact hh
  · right
    refine ⟨A', rfl, ⟨ho.len, ho.cap, fun hn => ?_⟩, fun a ha => ⟨(hA' a ha).1, Nat.lt_of_lt_of_le (hA' a ha).2 hf.size⟩⟩
    obtain ⟨b, off, hA, _, hlt, hc⟩ := ho.at_ hn
    subst hA
    exact ⟨b, off, rfl, by simp, Nat.lt_of_lt_of_le hlt hf.size, fun j u hu => (hf.cell (p := ⟨b, off + j, none⟩) hlt (hd b rfl)).trans (hc j u hu)⟩
/-- the one block that an append may write -/
theorem run_app (E : ET P t e k bytes) (w : World) (ty : TypeId) (hown : Own w B e k v n cs) (hr : Sl M w A m c k news) (h1 : ∀ u ∈ news, u.oneCell' = true)
    (hb : (n + m) * bytes ≤ 140737488355328) (hmax : n + m ≤ 140737488355328) (hB : B ≤ w.heap.size) :
    ∃ v' w', (Builtin.append_ #[t, t] ty #[v, .slice A m c]).run P w = .ok v' w' ∧ Own w' B e k v' (n + m) (cs ++ news) ∧
      (w.grownBy w' v.ownBlock ∧ (v'.ownBlock = v.ownBlock ∨ v'.ownBlock = some w.heap.size)) := by
  obtain ⟨ht, ⟨i, z, hi, hz, hs, hby, hzs⟩, hk⟩ := E
  by_cases h0 : m = 0
  · subst h0
    have hn : news = [] := List.eq_nil_of_length_eq_zero (by simpa using hr.len)
    subst hn
    have hrun : ∀ A c, (Builtin.append_ #[t, t] ty #[v, .slice A 0 c]).run P w = .ok v w := by
      intro A c
      obtain ⟨A', c', rfl, hnc⟩ := hown.form
      cases A' with
      | none =>
        have hn0 : n = 0 := by
          rcases Nat.eq_zero_or_pos n with h | h
          · exact h
          · obtain ⟨b, off, hA, _⟩ := (hown.sl (M := []) (fun _ hm => by cases hm)).at_ h
            cases hA
        subst hn0
        cases A <;> simp [Builtin.append_, run_underlying ht, sizeOf, typeInfo, hi, Builtin.lenOf, Builtin.firstCells, loadCells, loadCellsFrom]
      | some a' => cases A <;> simp [Builtin.append_, run_underlying ht, sizeOf, typeInfo, hi, Builtin.lenOf, Builtin.firstCells, hnc, storeCells, loadCells, loadCellsFrom]
    exact ⟨v, w, hrun A c, by simpa using hown, World.grownBy.refl w _, .inl rfl⟩
  · obtain ⟨b, off, rfl, _, _, hc⟩ := hr.at_ (by omega)
    have hnews : ∀ j u, news[j]? = some u → w.cell? ((⟨b, off, none⟩ : Addr).add j) = some u := fun j u hu => by
      have := hc j u hu
      unfold Addr.add
      split
      · simp_all
      · exact this
    rcases hown with hown | ⟨A', rfl, hsl, hbB⟩
    · obtain ⟨v', w', r1, r2, r3, _, r5⟩ := run_append_own_at (P := P) w B t ty e i z k bytes ht hi hz hs hby hzs hk v n cs hown ⟨b, off, none⟩ m c news hr.len
        hnews h1 (by simp only [maxLen]; omega) hb hB
      exact ⟨v', w', r1, .inl r2, r3, r5⟩
    · cases A' with
      | none =>
        have hn0 : n = 0 := by
          rcases Nat.eq_zero_or_pos n with h | h
          · exact h
          · obtain ⟨b', off', hA, _⟩ := hsl.at_ h
            cases hA
        subst hn0
        have hcs : cs = [] := List.eq_nil_of_length_eq_zero (by simpa using hsl.len)
        subst hcs
        obtain ⟨v', w', r1, r2, r3, _, r5⟩ := run_append_own_at (P := P) w B t ty e i z k bytes ht hi hz hs hby hzs hk (.slice none 0 0) 0 [] (World.ownsRow_nil _ _ _ _) ⟨b, off, none⟩ m c news hr.len
          hnews h1 (by simp only [maxLen]; omega) hb hB
        exact ⟨v', w', r1, .inl r2, r3, r5⟩
      | some a' =>
        have holds : ∀ j u, cs[j]? = some u → w.cell? (a'.add j) = some u := fun j u hu => by
          have hn : 0 < n := by
            rcases Nat.eq_zero_or_pos n with h | h
            · have : cs = [] := List.eq_nil_of_length_eq_zero (by rw [hsl.len, h]; simp)
              rw [this] at hu; cases hu
            · exact h
          obtain ⟨b', off', hA, _, _, hc'⟩ := hsl.at_ hn
          injection hA with hA
          subst hA
          have := hc' j u hu
          unfold Addr.add
          split
          · simp_all
          · exact this
        subst hs; subst hby
        have hr2 := run_append_grow (P := P) w t ty e i z ht hi hz a' n n cs hsl.len holds ⟨b, off, none⟩ m c news hr.len hnews (by omega) (by omega) (growslice_fits (by omega) hb)
        have hge := grownCap_ge w (n + m) n e
        have hcm : grownCap w (n + m) n e ≤ maxLen := grownCap_le_maxLen w (n + m) n e (by simp only [maxLen]; omega)
        have hlen : (cs ++ news).length = (n + m) * i.size := by rw [List.length_append, hsl.len, hr.len, Nat.add_mul]
        refine ⟨_, _, hr2, .inl ⟨hlen, .inr ⟨w.heap.size, _, _, rfl, hB, heap_alloc_new w.drew _, hge, hcm, ?_, ?_⟩⟩, ⟨rfl, rfl, rfl, by simp, fun q hq _ => Below.heap_alloc w.drew _ q (by simpa using hq)⟩, .inr rfl⟩
        · simp only [Array.size_append, List.size_toArray, size_zeroCells, hzs, hsl.len, hr.len, ← Nat.add_mul]
          congr 1
          omega
        · simp only [Array.toList_append, List.append_assoc]
          rw [← List.append_assoc, ← hlen]
          exact List.take_left
theorem wp_app {o : Oper} {a : Act} {K : Act → World → Prop} {Q : Exit → Act → World → Prop} {s x : Operand}
    (ho : o.op = .call { callee := .builtin .append, args := #[s, x], argTypes := #[t, t] }) (E : ET P t e k bytes) (hown : Own w B e k v n cs)
    (hr : Sl M w A m c k news) (hs : a.eval s = v) (hx : a.eval x = .slice A m c) (h1 : ∀ u ∈ news, u.oneCell' = true)
    (hb : (n + m) * bytes ≤ 140737488355328) (hmax : n + m ≤ 140737488355328) (hB : B ≤ w.heap.size)
    (h : ∀ v' w', Own w' B e k v' (n + m) (cs ++ news) → w.grownBy w' v.ownBlock → (v'.ownBlock = v.ownBlock ∨ v'.ownBlock = some w.heap.size) → K (a.put o.dst v') w') : o.wp P a w K Q := by
  obtain ⟨v', w', hrun, h2, h3, h4⟩ := run_app E w o.type hown hr h1 hb hmax hB
  unfold Oper.wp execOp
  simp only [ho, resolve, invoke, builtin, Sem.run_bind, Sem.run_pure, Result.andThen_ok, List.map_toArray, List.map_cons, List.map_nil, hs, hx, hrun]
  exact h v' w' h2 h3 h4
/-- append to a row of the call's own: the source is any slice that reads -/
theorem app_own {ops : Array Oper} {rest : List Oper} {o : Oper} {a : Act} {Q : Exit → Act → World → Prop} {s x : Operand} (hgd : o.guard = none)
    (ho : o.op = .call { callee := .builtin .append, args := #[s, x], argTypes := #[t, t] }) (E : ET P t e k bytes) (hown : Own w B e k v n cs)
    (hr : Sl M w A m c k news) (hs : a.eval s = v) (hx : a.eval x = .slice A m c) (h1 : ∀ u ∈ news, u.oneCell' = true)
    (hb : (n + m) * bytes ≤ 140737488355328) (hmax : n + m ≤ 140737488355328) (hB : B ≤ w.heap.size)
    (h : ∀ v' w', Own w' B e k v' (n + m) (cs ++ news) → (∀ M a0, Fr M a0 w → a0.heap.size ≤ B → Fr M a0 w') → wpList P ops Q rest (a.put o.dst v') w') : wpList P ops Q (o :: rest) a w :=
  wpList_plain hgd fun _ hK => wp_app ho E hown hr hs hx h1 hb hmax hB fun v' w' h2 h3 _ => hK _ _ (h v' w' h2 (fun M a0 hf hB => hf.grown h3 (fun g hg => .inr (by have := (hown.blk2 g hg).1; omega))))
/-- the blocks of an owned value -/
def bl (v : Value) : List Nat := v.ownBlock.toList
theorem Own.blt (h : Own w B e k v n cs) : ∀ g ∈ bl v, B ≤ g ∧ g < w.heap.size := fun g hg => h.blk2 g (by simpa [bl] using hg)
/-- append to a row of the call's own, with its block -/
theorem app_blk {ops : Array Oper} {rest : List Oper} {o : Oper} {a : Act} {Q : Exit → Act → World → Prop} {s x : Operand} (hgd : o.guard = none)
    (ho : o.op = .call { callee := .builtin .append, args := #[s, x], argTypes := #[t, t] }) (E : ET P t e k bytes) (hown : Own w B e k v n cs)
    (hr : Sl M w A m c k news) (hs : a.eval s = v) (hx : a.eval x = .slice A m c) (h1 : ∀ u ∈ news, u.oneCell' = true)
    (hb : (n + m) * bytes ≤ 140737488355328) (hmax : n + m ≤ 140737488355328) (hB : B ≤ w.heap.size)
    (h : ∀ v' w', Own w' B e k v' (n + m) (cs ++ news) → Fr (bl v) w w' → (v'.ownBlock = v.ownBlock ∨ v'.ownBlock = some w.heap.size) → wpList P ops Q rest (a.put o.dst v') w') : wpList P ops Q (o :: rest) a w :=
  wpList_plain hgd fun _ hK => wp_app ho E hown hr hs hx h1 hb hmax hB fun v' w' h2 h3 h4 => hK _ _ (h v' w' h2 ((Fr.refl _ w).grown h3 (fun g hg => .inl (by simp [bl, hg]))) h4)
/-- what avoids the blocks of an owned value avoids them behind its append, too -/
theorem Sl.app {v v' : Value} (h : Sl M w A n c k cs) (hv : ∀ b ∈ bl v, b ∈ M) (hf : Fr (bl v) w w') (hv' : v'.ownBlock = v.ownBlock ∨ v'.ownBlock = some w.heap.size) : Sl (bl v' ++ M) w' A n c k cs := by
  have h1 : Sl M w' A n c k cs := h.keep (hf.mono (fun b hb _ => hv b hb))
  refine ⟨h.len, h.cap, fun hn => ?_⟩
  obtain ⟨b, off, hA, hm, hb, hc⟩ := h.at_ hn
  obtain ⟨b', off', hA', hm', hb', hc'⟩ := h1.at_ hn
  rw [hA] at hA'
  injection hA' with hA'
  injection hA' with e1 e2
  subst e1; subst e2
  refine ⟨b, off, hA, ?_, hb', hc'⟩
  simp only [List.mem_append, not_or]
  refine ⟨fun hin => ?_, hm⟩
  rcases hv' with e | e
  · exact hm (hv b (by simpa [bl, e] using hin))
  · simp [bl, e] at hin; omega
theorem Ls.app {v v' : Value} (h : Ls f k M w A n c xs) (hv : ∀ b ∈ bl v, b ∈ M) (hf : Fr (bl v) w w') (hv' : v'.ownBlock = v.ownBlock ∨ v'.ownBlock = some w.heap.size) : Ls f k (bl v' ++ M) w' A n c xs := ⟨h.sl.app hv hf hv', h.n_eq⟩
theorem LsV.app {v v' u : Value} (h : LsV f k M w u xs) (hv : ∀ b ∈ bl v, b ∈ M) (hf : Fr (bl v) w w') (hv' : v'.ownBlock = v.ownBlock ∨ v'.ownBlock = some w.heap.size) : LsV f k (bl v' ++ M) w' u xs := by
  obtain ⟨A, n, c, hu, h⟩ := h; exact ⟨A, n, c, hu, h.app hv hf hv'⟩
theorem Ll.app {v v' : Value} {rs : List (List α)} (h : Ll f k M w A n c rs) (hv : ∀ b ∈ bl v, b ∈ M) (hf : Fr (bl v) w w') (hv' : v'.ownBlock = v.ownBlock ∨ v'.ownBlock = some w.heap.size) : Ll f k (bl v' ++ M) w' A n c rs := by
  obtain ⟨vs, h1, h2⟩ := h.ex; exact ⟨vs, h1.app hv hf hv', h2.imp fun _ _ hr => hr.app hv hf hv'⟩
/-! cuts and makes: what the walk's operation gives, in every world -/
theorem ET.elem (E : ET P t e k bytes) : P.underlying t = some (.slice (P.elem t)) ∧ P.elem t = e := by
  have h := E.ht
  have he : P.elem t = e := by unfold Program.elem; rw [h]
  exact ⟨by rw [he]; exact h, he⟩
theorem ET.sizeOf (E : ET P t e k bytes) (w : World) : (Go.sizeOf e).run P w = .ok k w := by
  obtain ⟨i, z, hi, _, hs, _⟩ := E.hi
  simp [Go.sizeOf, typeInfo, hi, hs]
theorem run_cut_lh (E : ET P t e k bytes) (A : Option Addr) (n c lo hi : Nat) (h1 : lo ≤ hi) (h2 : hi ≤ c) (w : World) :
    (Instr.slice t (.slice A n c) (some (.int .i64 (lo : Int))) (some (.int .i64 (hi : Int))) none).run P w = .ok (.slice (cutA A c lo k) (hi - lo) (c - lo)) w := by
  obtain ⟨e1, e2⟩ := E.elem
  rw [run_slice_lh w t A n c e1 .i64 .i64 lo hi (by omega) (by omega) (by omega), e2, E.sizeOf]
  simp [sliced, cutA, Result.andThen]
theorem run_cut_h (E : ET P t e k bytes) (A : Option Addr) (n c hi : Nat) (h2 : hi ≤ c) (w : World) :
    (Instr.slice t (.slice A n c) none (some (.int .i64 (hi : Int))) none).run P w = .ok (.slice A hi c) w := by
  obtain ⟨e1, e2⟩ := E.elem
  rw [run_slice_h w t A n c e1 .i64 hi (by omega) (by omega), e2, E.sizeOf]
  have : ∀ A : Option Addr, A.map (·.add 0) = A := by intro A; cases A <;> simp [Addr.add]
  simp [sliced, Result.andThen, this]
theorem run_cut_l (E : ET P t e k bytes) (A : Option Addr) (n c lo : Nat) (h1 : lo ≤ n) (w : World) :
    (Instr.slice t (.slice A n c) (some (.int .i64 (lo : Int))) none none).run P w = .ok (.slice (cutA A c lo k) (n - lo) (c - lo)) w := by
  obtain ⟨e1, e2⟩ := E.elem
  rw [run_slice_l w t A n c e1 .i64 lo (by omega) (by omega), e2, E.sizeOf]
  simp [sliced, cutA, Result.andThen]
theorem madeCells_one (z : Value) (n : Nat) : madeCells #[z] n = (List.replicate n z).toArray := by
  apply Array.ext
  · simp [madeCells]
  · intro i h1 h2
    simp [madeCells, Nat.mod_one]
/-- 'make([]T, n)', T of one cell -/
theorem run_mk1 {z : Value} (ht : P.underlying t = some (.slice e)) (hi : (P.info? e).map (fun i => (i.zero, i.size, i.bytes)) = some (some z, 1, bytes)) (hz : z.cells = #[z]) (n : Nat) (hb : bytes * n ≤ 281474976710656) (hn : n ≤ 281474976710656) (w : World) :
    (Instr.makeSlice t (.int .i64 (n : Int)) (.int .i64 (n : Int))).run P w = .ok (.slice (some ⟨w.heap.size, 0, none⟩) n n) (w.alloc (.cells (List.replicate n z).toArray e)) := by
  obtain ⟨i, hi, h1, h2, h3⟩ := info_parts hi
  have hb' : (i.bytes : Int) * (n : Int) ≤ 281474976710656 := by
    have h : ((i.bytes * n : Nat) : Int) ≤ 281474976710656 := by rw [h3]; omega
    rwa [Int.natCast_mul] at h
  have hr := run_make (P := P) w t e i z ht hi h1 .i64 .i64 n n (by omega) (by omega) hb' (by omega)
  simp only [Int.toNat_natCast, h2, Nat.mul_one, hz, madeCells_one] at hr
  exact hr
end
theorem one_ci (xs : List Int) : ∀ u ∈ xs.flatMap ci, u.oneCell' = true := by
  intro u hu; simp only [List.mem_flatMap, ci, List.mem_singleton] at hu; obtain ⟨x, _, rfl⟩ := hu; rfl
theorem one_cb (xs : List Bool) : ∀ u ∈ xs.flatMap cb, u.oneCell' = true := by
  intro u hu; simp only [List.mem_flatMap, cb, List.mem_singleton] at hu; obtain ⟨x, _, rfl⟩ := hu; rfl
theorem one_cp (xs : List (Int × Int)) : ∀ u ∈ xs.flatMap cp, u.oneCell' = true := by
  intro u hu; simp only [List.mem_flatMap, cp, List.mem_cons, List.not_mem_nil, or_false] at hu; obtain ⟨x, _, rfl | rfl⟩ := hu <;> rfl
end Go.Proofs.YtfjfllpcflddmaaGreat
