/- Plain words of arcs: their order, rows, systems. -/
import Derived.Test.YtglchakimolfdaaDoorMF
namespace Go.Proofs.YtglchakimolfdaaDoor
set_option linter.unusedVariables false
set_option linter.unusedSimpArgs false

abbrev Ar := Int × Int
def ltA (a b : Ar) : Bool := decide (a.1 < b.1) || (a.1 == b.1 && decide (a.2 < b.2))
theorem ltA_iff {a b : Ar} : ltA a b = true ↔ a.1 < b.1 ∨ (a.1 = b.1 ∧ a.2 < b.2) := by simp [ltA]
theorem ltA_irr (a : Ar) : ltA a a = false := by simp [ltA]
theorem ltA_trans {a b c : Ar} (h1 : ltA a b = true) (h2 : ltA b c = true) : ltA a c = true := by
 rw [ltA_iff] at *; omega
theorem ltA_tri (a b : Ar) : ltA a b = true ∨ a = b ∨ ltA b a = true := by
 rw [ltA_iff, ltA_iff]
 obtain ⟨a1, a2⟩ := a
 obtain ⟨b1, b2⟩ := b
 simp only [Prod.mk.injEq]
 omega
def insA (x : Ar) : List Ar → List Ar
 | [] => [x]
 | y :: ys => if ltA y x then y :: insA x ys else if y = x then y :: ys else x :: y :: ys
theorem mem_insA (x a : Ar) (l : List Ar) : a ∈ insA x l ↔ a = x ∨ a ∈ l := by
 induction l with
 | nil => simp [insA]
 | cons y ys ih =>
  simp only [insA]
  split
  ·simp [ih]; constructor <;> (intro h; rcases h with h | h | h <;> simp [h])
  ·split
   ·rename_i h; subst h; simp
   ·simp
theorem insA_len (x : Ar) (l : List Ar) : (insA x l).length ≤ l.length + 1 := by
 induction l with
 | nil => simp [insA]
 | cons y ys ih =>
  simp only [insA]
  split
  ·simp; omega
  ·split <;> simp
def SortA (l : List Ar) : Prop := l.Pairwise fun a b => ltA a b = true
theorem insA_sort {x : Ar} {l : List Ar} (h : SortA l) : SortA (insA x l) := by
 unfold SortA at *
 induction l with
 | nil => simp [insA]
 | cons y ys ih =>
  rw [List.pairwise_cons] at h
  simp only [insA]
  split
  ·rename_i hl
   rw [List.pairwise_cons]
   refine ⟨fun a ha => ?_, ih h.2⟩
   rcases (mem_insA x a ys).1 ha with rfl | ha
   ·exact hl
   ·exact h.1 a ha
  ·split
   ·exact List.pairwise_cons.2 h
   ·rename_i hl hne
    have hxy : ltA x y = true := by
     rcases ltA_tri x y with h | h | h
     ·exact h
     ·exact absurd h.symm hne
     ·exact absurd h hl
    rw [List.pairwise_cons]
    refine ⟨fun a ha => ?_, List.pairwise_cons.2 h⟩
    rcases List.mem_cons.1 ha with rfl | ha
    ·exact hxy
    ·exact ltA_trans hxy (h.1 a ha)
def OkRow (k m : Nat) (r : List Ar) : Prop := SortA r ∧ r.length ≤ k ∧ ∀ a ∈ r, 0 ≤ a.1 ∧ a.1 ≤ 1025 ∧ 0 ≤ a.2 ∧ a.2 < m
def OkSys (k m : Nat) (R : List (List Ar)) : Prop := R.length = m ∧ ∀ r ∈ R, OkRow k m r
theorem OkRow.le {k k' m : Nat} {r : List Ar} (h : OkRow k m r) (hk : k ≤ k') : OkRow k' m r := ⟨h.1, Nat.le_trans h.2.1 hk, h.2.2⟩
theorem OkSys.le {k k' m : Nat} {R : List (List Ar)} (h : OkSys k m R) (hk : k ≤ k') : OkSys k' m R := ⟨h.1, fun r hr => (h.2 r hr).le hk⟩
theorem OkSys.set {k m : Nat} {R : List (List Ar)} (h : OkSys k m R) {r : List Ar} (hr : OkRow k m r) (s : Nat) : OkSys k m (R.set s r) :=
 ⟨by simp [h.1], fun q hq => by
  rcases List.mem_or_eq_of_mem_set hq with hq | rfl
  ·exact h.2 q hq
  ·exact hr⟩

/-! trees and cells -/
open Go.RowKit
def cArcs (xs : List Ar) : List C := xs.flatMap fun a => [C.v (.int .i64 a.1), C.v (.int .i64 a.2)]
def cRows (R : List (List Ar)) : List C := R.map fun r => C.t 2 (tArcs r)
theorem cArcs_len (xs : List Ar) : (cArcs xs).length = xs.length * 2 := by
 induction xs with
 | nil => rfl
 | cons x r ih =>
  have : cArcs (x :: r) = [C.v (.int .i64 x.1), C.v (.int .i64 x.2)] ++ cArcs r := rfl
  rw [this, List.length_append, ih, List.length_cons]; simp; omega
theorem cArcs_app (xs ys : List Ar) : cArcs xs ++ cArcs ys = cArcs (xs ++ ys) := by simp [cArcs]
theorem cArcs_snoc (xs : List Ar) (x y : Int) : cArcs xs ++ [.v (.int .i64 x), .v (.int .i64 y)] = cArcs (xs ++ [(x, y)]) := by simp [cArcs]
theorem cArcs_one (xs : List Ar) : (cArcs xs).all C.one = true := by simp [cArcs, C.one]
theorem tArcs_c (xs : List Ar) : (tArcs xs).map C.ofTr = cArcs xs := by simp [tArcs, cArcs, List.map_flatMap, C.ofTr]
theorem flatA_take {α β : Type} (f : α → List β) (hf : ∀ a, (f a).length = 2) : ∀ (xs : List α) (n : Nat), (xs.flatMap f).take (n * 2) = (xs.take n).flatMap f
 | [], n => by simp
 | x :: r, 0 => by simp
 | x :: r, n + 1 => by
  simp only [List.flatMap_cons, List.take_succ_cons]
  rw [show (n + 1) * 2 = (f x).length + n * 2 by rw [hf]; omega, List.take_length_add_append, flatA_take f hf r n]
theorem flatA_drop {α β : Type} (f : α → List β) (hf : ∀ a, (f a).length = 2) : ∀ (xs : List α) (n : Nat), (xs.flatMap f).drop (n * 2) = (xs.drop n).flatMap f
 | [], n => by simp
 | x :: r, 0 => by simp
 | x :: r, n + 1 => by
  simp only [List.flatMap_cons, List.drop_succ_cons]
  rw [show (n + 1) * 2 = (f x).length + n * 2 by rw [hf]; omega, List.drop_length_add_append, flatA_drop f hf r n]
theorem tArcs_take (xs : List Ar) (n : Nat) : (tArcs xs).take (n * 2) = tArcs (xs.take n) := flatA_take _ (fun _ => rfl) xs n
theorem tArcs_drop (xs : List Ar) (n : Nat) : (tArcs xs).drop (n * 2) = tArcs (xs.drop n) := flatA_drop _ (fun _ => rfl) xs n
theorem cArcs_take (xs : List Ar) (n : Nat) : (cArcs xs).take (n * 2) = cArcs (xs.take n) := flatA_take _ (fun _ => rfl) xs n
theorem tArcs_at {xs : List Ar} {i : Nat} (h : i < xs.length) : (((tArcs xs).drop (i * 2)).take 2) = [.v (.int .i64 xs[i].1), .v (.int .i64 xs[i].2)] := by
 rw [tArcs_drop]
 have e : xs.drop i = xs[i] :: xs.drop (i + 1) := List.drop_eq_getElem_cons h
 rw [e]
 rfl
theorem fz_ca (L : List Ar) : Fz (cArcs L) (tArcs L) := by
 unfold cArcs tArcs
 exact Fz.flatMap fun x _ => ⟨.inl rfl, .inl rfl, trivial⟩
theorem cRows_len (xs : List (List Ar)) : (cRows xs).length = xs.length := by simp [cRows]
theorem cRows_ren (f : List Nat) (L : List (List Ar)) : (cRows L).map (C.ren f) = cRows L := by simp [cRows, C.ren, Function.comp_def]
theorem fz_cr (L : List (List Ar)) : Fz (cRows L) (tRows L) := by unfold cRows tRows; exact Fz.map fun x _ => .inl rfl
end Go.Proofs.YtglchakimolfdaaDoor
