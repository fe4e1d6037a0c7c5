/- Plain words of arcs: their order, rows, systems. -/
import Derived.Test.YthlckclbjknldaaGreatMF
namespace Go.Proofs.YthlckclbjknldaaGreat
set_option linter.unusedVariables false
set_option linter.unusedSimpArgs false

abbrev Ar := Int × Int
def ltA (a b : Ar) : Bool := decide (a.1 < b.1) || (a.1 == b.1 && decide (a.2 < b.2))
theorem ltA_iff {a b : Ar} : ltA a b = true ↔ a.1 < b.1 ∨ (a.1 = b.1 ∧ a.2 < b.2) := by simp [ltA]
theorem ltA_irr (a : Ar) : ltA a a = false := by simp [ltA]
theorem ltA_trans {a b c : Ar} (h1 : ltA a b = true) (h2 : ltA b c = true) : ltA a c = true := by
  rw [ltA_iff] at *; omega
theorem ltA_tri (a b : Ar) : ltA a b = true ∨ a = b ∨ ltA b a = true := by
  rw [ltA_iff, ltA_iff]
  obtain ⟨a1, a2⟩ := a
  obtain ⟨b1, b2⟩ := b
  simp only [Prod.mk.injEq]
  omega
def insA (x : Ar) : List Ar → List Ar
  | [] => [x]
  | y :: ys => if ltA y x then y :: insA x ys else if y = x then y :: ys else x :: y :: ys
theorem mem_insA (x a : Ar) (l : List Ar) : a ∈ insA x l ↔ a = x ∨ a ∈ l := by
  induction l with
  | nil => simp [insA]
  | cons y ys ih =>
    simp only [insA]
    split
    · simp [ih]; constructor <;> (intro h; rcases h with h | h | h <;> simp [h])
    · split
      · rename_i h; subst h; simp
      · simp
theorem insA_len (x : Ar) (l : List Ar) : (insA x l).length ≤ l.length + 1 := by
  induction l with
  | nil => simp [insA]
  | cons y ys ih =>
    simp only [insA]
    split
    · simp; omega
    · split <;> simp
def SortA (l : List Ar) : Prop := l.Pairwise fun a b => ltA a b = true
theorem insA_sort {x : Ar} {l : List Ar} (h : SortA l) : SortA (insA x l) := by
  unfold SortA at *
  induction l with
  | nil => simp [insA]
  | cons y ys ih =>
    rw [List.pairwise_cons] at h
    simp only [insA]
    split
    · rename_i hl
      rw [List.pairwise_cons]
      refine ⟨fun a ha => ?_, ih h.2⟩
      rcases (mem_insA x a ys).1 ha with rfl | ha
      · exact hl
      · exact h.1 a ha
    · split
      · exact List.pairwise_cons.2 h
      · rename_i hl hne
        have hxy : ltA x y = true := by
          rcases ltA_tri x y with h | h | h
          · exact h
          · exact absurd h.symm hne
          · exact absurd h hl
        rw [List.pairwise_cons]
        refine ⟨fun a ha => ?_, List.pairwise_cons.2 h⟩
        rcases List.mem_cons.1 ha with rfl | ha
        · exact hxy
        · exact ltA_trans hxy (h.1 a ha)
theorem insA_at {x : Ar} : ∀ {xs : List Ar} {k : Nat}, k ≤ xs.length → (∀ i y, i < k → xs[i]? = some y → ltA y x = true) → (∀ y, xs[k]? = some y → ltA y x = false ∧ y ≠ x) → insA x xs = xs.take k ++ x :: xs.drop k
  | [], k, hk, _, _ => by simp at hk; subst hk; rfl
  | y :: ys, 0, _, _, h2 => by
    obtain ⟨h3, h4⟩ := h2 y rfl
    simp only [insA, List.take_zero, List.drop_zero, List.nil_append]
    rw [if_neg (by rw [h3]; simp), if_neg h4]
  | y :: ys, k + 1, hk, h1, h2 => by
    have := h1 0 y (by omega) rfl
    simp only [insA, List.take_succ_cons, List.drop_succ_cons, List.cons_append]
    rw [if_pos this, insA_at (by simpa using hk) (fun i z hi hz => h1 (i + 1) z (by omega) hz) (fun z hz => h2 z hz)]
theorem insA_has {x : Ar} : ∀ {xs : List Ar} {k : Nat}, (∀ i y, i < k → xs[i]? = some y → ltA y x = true) → xs[k]? = some x → insA x xs = xs
  | [], k, _, h => by simp at h
  | y :: ys, 0, _, h => by simp at h; subst h; simp [insA, ltA_irr]
  | y :: ys, k + 1, h1, h => by
    have := h1 0 y (by omega) rfl
    simp only [insA]
    rw [if_pos this, insA_has (fun i z hi hz => h1 (i + 1) z (by omega) hz) h]
/-- a row of a system with m states: ascending arcs, at most k of them -/
def OkRow (k m : Nat) (r : List Ar) : Prop := SortA r ∧ r.length ≤ k ∧ ∀ a ∈ r, 0 ≤ a.1 ∧ a.1 ≤ 1025 ∧ 0 ≤ a.2 ∧ a.2 < m
def OkSys (k m : Nat) (R : List (List Ar)) : Prop := R.length = m ∧ ∀ r ∈ R, OkRow k m r
theorem OkRow.ins {k m : Nat} {r : List Ar} (h : OkRow k m r) {x : Ar} (hx : 0 ≤ x.1 ∧ x.1 ≤ 1025 ∧ 0 ≤ x.2 ∧ x.2 < m) : OkRow (k + 1) m (insA x r) :=
  ⟨insA_sort h.1, Nat.le_trans (insA_len x r) (by have := h.2.1; omega), fun a ha => by
    rcases (mem_insA x a r).1 ha with rfl | ha
    · exact hx
    · exact h.2.2 a ha⟩
theorem OkRow.le {k k' m : Nat} {r : List Ar} (h : OkRow k m r) (hk : k ≤ k') : OkRow k' m r := ⟨h.1, Nat.le_trans h.2.1 hk, h.2.2⟩
theorem OkSys.le {k k' m : Nat} {R : List (List Ar)} (h : OkSys k m R) (hk : k ≤ k') : OkSys k' m R := ⟨h.1, fun r hr => (h.2 r hr).le hk⟩
theorem OkSys.set {k m : Nat} {R : List (List Ar)} (h : OkSys k m R) {r : List Ar} (hr : OkRow k m r) (s : Nat) : OkSys k m (R.set s r) :=
  ⟨by simp [h.1], fun q hq => by
    rcases List.mem_or_eq_of_mem_set hq with hq | rfl
    · exact h.2 q hq
    · exact hr⟩

/-! trees and cells -/
open Go.RowKit
def cArcs (xs : List Ar) : List C := xs.flatMap fun a => [C.v (.int .i64 a.1), C.v (.int .i64 a.2)]
def cRows (R : List (List Ar)) : List C := R.map fun r => C.t 2 (tArcs r)
theorem cArcs_len (xs : List Ar) : (cArcs xs).length = xs.length * 2 := by
  induction xs with
  | nil => rfl
  | cons x r ih =>
    have : cArcs (x :: r) = [C.v (.int .i64 x.1), C.v (.int .i64 x.2)] ++ cArcs r := rfl
    rw [this, List.length_append, ih, List.length_cons]; simp; omega
theorem cArcs_app (xs ys : List Ar) : cArcs xs ++ cArcs ys = cArcs (xs ++ ys) := by simp [cArcs]
theorem cArcs_snoc (xs : List Ar) (x y : Int) : cArcs xs ++ [.v (.int .i64 x), .v (.int .i64 y)] = cArcs (xs ++ [(x, y)]) := by simp [cArcs]
theorem cArcs_one (xs : List Ar) : (cArcs xs).all C.one = true := by simp [cArcs, C.one]
theorem tArcs_c (xs : List Ar) : (tArcs xs).map C.ofTr = cArcs xs := by simp [tArcs, cArcs, List.map_flatMap, C.ofTr]
theorem flatA_take {α β : Type} (f : α → List β) (hf : ∀ a, (f a).length = 2) : ∀ (xs : List α) (n : Nat), (xs.flatMap f).take (n * 2) = (xs.take n).flatMap f
  | [], n => by simp
  | x :: r, 0 => by simp
  | x :: r, n + 1 => by
    simp only [List.flatMap_cons, List.take_succ_cons]
    rw [show (n + 1) * 2 = (f x).length + n * 2 by rw [hf]; omega, List.take_length_add_append, flatA_take f hf r n]
theorem flatA_drop {α β : Type} (f : α → List β) (hf : ∀ a, (f a).length = 2) : ∀ (xs : List α) (n : Nat), (xs.flatMap f).drop (n * 2) = (xs.drop n).flatMap f
  | [], n => by simp
  | x :: r, 0 => by simp
  | x :: r, n + 1 => by
    simp only [List.flatMap_cons, List.drop_succ_cons]
    rw [show (n + 1) * 2 = (f x).length + n * 2 by rw [hf]; omega, List.drop_length_add_append, flatA_drop f hf r n]
theorem tArcs_take (xs : List Ar) (n : Nat) : (tArcs xs).take (n * 2) = tArcs (xs.take n) := flatA_take _ (fun _ => rfl) xs n
theorem tArcs_drop (xs : List Ar) (n : Nat) : (tArcs xs).drop (n * 2) = tArcs (xs.drop n) := flatA_drop _ (fun _ => rfl) xs n
theorem cArcs_take (xs : List Ar) (n : Nat) : (cArcs xs).take (n * 2) = cArcs (xs.take n) := flatA_take _ (fun _ => rfl) xs n
theorem tArcs_at {xs : List Ar} {i : Nat} (h : i < xs.length) : (((tArcs xs).drop (i * 2)).take 2) = [.v (.int .i64 xs[i].1), .v (.int .i64 xs[i].2)] := by
  rw [tArcs_drop]
  have e : xs.drop i = xs[i] :: xs.drop (i + 1) := List.drop_eq_getElem_cons h
  rw [e]
  rfl
theorem fz_ca (L : List Ar) : Fz (cArcs L) (tArcs L) := by
  unfold cArcs tArcs
  exact Fz.flatMap fun x _ => ⟨.inl rfl, .inl rfl, trivial⟩
theorem cRows_len (xs : List (List Ar)) : (cRows xs).length = xs.length := by simp [cRows]
theorem cRows_get {xs : List (List Ar)} {i : Nat} {x : List Ar} (h : xs[i]? = some x) : (cRows xs)[i]? = some (.t 2 (tArcs x)) := by simp [cRows, h]
theorem cRows_set (xs : List (List Ar)) (i : Nat) (x : List Ar) : (cRows xs).set i (.t 2 (tArcs x)) = cRows (xs.set i x) := by simp [cRows, List.map_set]
theorem cRows_up (f : Nat → Nat) (L : List (List Ar)) : (cRows L).map (C.up f) = cRows L := by simp [cRows, C.up, Function.comp_def]
theorem fz_cr (L : List (List Ar)) : Fz (cRows L) (tRows L) := by unfold cRows tRows; exact Fz.map fun x _ => .inl rfl
end Go.Proofs.YthlckclbjknldaaGreat
