/- Data as trees; slices.Clone, Index, Contains, IndexFunc, ContainsFunc. slices.Index, Contains, IndexFunc, ContainsFunc at []int. ascending, subset, cmp.Compare, slices.Compare, slices.Equal. Plain words of arcs: their order, rows, systems. cmp.Compare; small words. Plain words: compared pairs, ascending rows, valid systems, orders. Canonical forms, as plain functions. Numbering by first occurrence, and rounds of refinement, plain. The tape, by the machine: New, Next; Add. -/
import Derived.Test.YtahnebicgbjonaaZk
import Derived.Test.YtahnebicgbjonaaTy
import Derived.Test.YtahnebicgbjonaaME
import Derived.Test.YtahnebicgbjonaaTs1
import Derived.Test.YtahnebicgbjonaaMD
namespace Go.Proofs.Ytahnebicgbjonaa
set_option linter.unusedVariables false
set_option linter.unusedSimpArgs false
open Go.RowKit

def tInts (xs : List Int) : List Tr := xs.map fun x => .v (.int .i64 x)
def aInts (xs : List Int) : AV := .a (.c (.t 1 (tInts xs)))
def tSets (L : List (List Int)) : List Tr := L.map fun r => .l 1 (tInts r)
def aSets (L : List (List Int)) : AV := .a (.c (.t 1 (tSets L)))
def tArcs (xs : List (Int × Int)) : List Tr := xs.flatMap fun a => [.v (.int .i64 a.1), .v (.int .i64 a.2)]
def aArcs (xs : List (Int × Int)) : AV := .a (.c (.t 2 (tArcs xs)))
def tRows (R : List (List (Int × Int))) : List Tr := R.map fun r => .l 2 (tArcs r)
def aLts (R : List (List (Int × Int))) : AV := .a (.g [.t 1 (tRows R)])
theorem tInts_len (xs : List Int) : (tInts xs).length = xs.length := by simp [tInts]
theorem tSets_len (xs : List (List Int)) : (tSets xs).length = xs.length := by simp [tSets]
theorem tRows_len (xs : List (List (Int × Int))) : (tRows xs).length = xs.length := by simp [tRows]
theorem tArcs_len (xs : List (Int × Int)) : (tArcs xs).length = xs.length * 2 := by
 induction xs with
 | nil => rfl
 | cons x r ih => simp only [tArcs, List.flatMap_cons, List.length_append, List.length_cons, List.length_nil] at ih ⊢; omega
theorem tInts_get {xs : List Int} {i : Nat} {x : Int} (h : xs[i]? = some x) : (tInts xs)[i]? = some (.v (.int .i64 x)) := by simp [tInts, h]
theorem tSets_get {xs : List (List Int)} {i : Nat} {x : List Int} (h : xs[i]? = some x) : (tSets xs)[i]? = some (.l 1 (tInts x)) := by simp [tSets, h]
theorem tRows_get {xs : List (List (Int × Int))} {i : Nat} {x : List (Int × Int)} (h : xs[i]? = some x) : (tRows xs)[i]? = some (.l 2 (tArcs x)) := by simp [tRows, h]
theorem tInts_of (xs : List Int) : (tInts xs).map C.ofTr = xs.map fun x => .v (.int .i64 x) := by simp [tInts, C.ofTr, Function.comp_def]
theorem ofTr_ren (ρ : List Nat) (ts : List Tr) : (ts.map C.ofTr).map (C.ren ρ) = ts.map C.ofTr := by
 simp only [List.map_map]
 exact List.map_congr_left fun t _ => by cases t <;> rfl
theorem ofTr_up (f : Nat → Nat) (ts : List Tr) : (ts.map C.ofTr).map (C.up f) = ts.map C.ofTr := by
 simp only [List.map_map]
 exact List.map_congr_left fun t _ => by cases t <;> rfl
attribute [go_sem] ofTr_ren ofTr_up
set_option maxRecDepth 100000 in
theorem clone_arcs (ts : List Tr) (hn : ts.length ≤ 100000000) : FC Try.prog 45 [.a (.c (.t 2 ts))] [] (fun r o => r = .a (.c (.s 0 (ts.length / 2))) ∧ o = [.r ⟨42, 2, true, ts.map C.ofTr⟩]) := by
 refine fc_intro Try.func45 rfl (by rw [Try.ntmps45]; simp) ?_
 rw [Try.ntmps45]
 simp only [enum]
 (refine wk0 ?_;(repeat clear hK K);repeat refine kq fun K hK=>?_)
 refine lst_cons rfl ?_; intro K1 hK1
 refine stp_nil rfl rfl Try.underlying38 (.inl rfl) (.inl ⟨2, ts, by simp only [go_sem], ?_⟩)
 intro b hb
 simp only [go_sem]
 refine hK1 _ ?_; clear hK1 K1
 (refine wk0 ?_;(repeat clear hK K);repeat refine kq fun K hK=>?_)
 (refine aw_cnd ?_; intro X Y hX hY; simp only [go_sem])
 refine ⟨fun h => hX ?_, fun h => hY ?_⟩
 ·have hts := hb h
  subst hts
  (refine wk0 ?_;(repeat clear hK K);repeat refine kq fun K hK=>?_)
  refine aw_ret ?_
  simp only [ThenA]
  refine ret_le (le_nil 2 42 2 ?_) ?_
  ·simp only [go_sem]
  exact rqc0 Try.results45
 ·clear hX hY X Y
  (refine wk0 ?_;(repeat clear hK K);repeat refine kq fun K hK=>?_)
  refine aw_ret ?_
  refine ret_le (le_pick [1] rfl rfl) ?_
  (try simp only [List.set_nil, List.take_nil, List.take_zero, List.map_append, go_sem])
  exact rqc0 Try.results45
end Go.Proofs.Ytahnebicgbjonaa
namespace Go.Proofs.Ytahnebicgbjonaa
set_option linter.unusedVariables false
set_option linter.unusedSimpArgs false
open Go.RowKit
set_option maxRecDepth 100000


end Go.Proofs.Ytahnebicgbjonaa
namespace Go.Proofs.Ytahnebicgbjonaa
set_option linter.unusedVariables false
set_option linter.unusedSimpArgs false
open Go.RowKit
set_option maxRecDepth 100000

end Go.Proofs.Ytahnebicgbjonaa
namespace Go.Proofs.Ytahnebicgbjonaa
set_option linter.unusedVariables false
set_option linter.unusedSimpArgs false

abbrev Ar := Int × Int
def ltA (a b : Ar) : Bool := decide (a.1 < b.1) || (a.1 == b.1 && decide (a.2 < b.2))
theorem ltA_iff {a b : Ar} : ltA a b = true ↔ a.1 < b.1 ∨ (a.1 = b.1 ∧ a.2 < b.2) := by simp [ltA]
theorem ltA_irr (a : Ar) : ltA a a = false := by simp [ltA]
theorem ltA_trans {a b c : Ar} (h1 : ltA a b = true) (h2 : ltA b c = true) : ltA a c = true := by
 rw [ltA_iff] at *; omega
theorem ltA_tri (a b : Ar) : ltA a b = true ∨ a = b ∨ ltA b a = true := by
 rw [ltA_iff, ltA_iff]
 obtain ⟨a1, a2⟩ := a
 obtain ⟨b1, b2⟩ := b
 simp only [Prod.mk.injEq]
 omega
def insA (x : Ar) : List Ar → List Ar
 | [] => [x]
 | y :: ys => if ltA y x then y :: insA x ys else if y = x then y :: ys else x :: y :: ys
theorem mem_insA (x a : Ar) (l : List Ar) : a ∈ insA x l ↔ a = x ∨ a ∈ l := by
 induction l with
 | nil => simp [insA]
 | cons y ys ih =>
  simp only [insA]
  split
  ·simp [ih]; constructor <;> (intro h; rcases h with h | h | h <;> simp [h])
  ·split
   ·rename_i h; subst h; simp
   ·simp
theorem insA_len (x : Ar) (l : List Ar) : (insA x l).length ≤ l.length + 1 := by
 induction l with
 | nil => simp [insA]
 | cons y ys ih =>
  simp only [insA]
  split
  ·simp; omega
  ·split <;> simp
def SortA (l : List Ar) : Prop := l.Pairwise fun a b => ltA a b = true
theorem insA_sort {x : Ar} {l : List Ar} (h : SortA l) : SortA (insA x l) := by
 unfold SortA at *
 induction l with
 | nil => simp [insA]
 | cons y ys ih =>
  rw [List.pairwise_cons] at h
  simp only [insA]
  split
  ·rename_i hl
   rw [List.pairwise_cons]
   refine ⟨fun a ha => ?_, ih h.2⟩
   rcases (mem_insA x a ys).1 ha with rfl | ha
   ·exact hl
   ·exact h.1 a ha
  ·split
   ·exact List.pairwise_cons.2 h
   ·rename_i hl hne
    have hxy : ltA x y = true := by
     rcases ltA_tri x y with h | h | h
     ·exact h
     ·exact absurd h.symm hne
     ·exact absurd h hl
    rw [List.pairwise_cons]
    refine ⟨fun a ha => ?_, List.pairwise_cons.2 h⟩
    rcases List.mem_cons.1 ha with rfl | ha
    ·exact hxy
    ·exact ltA_trans hxy (h.1 a ha)
theorem insA_at {x : Ar} : ∀ {xs : List Ar} {k : Nat}, k ≤ xs.length → (∀ i y, i < k → xs[i]? = some y → ltA y x = true) → (∀ y, xs[k]? = some y → ltA y x = false ∧ y ≠ x) → insA x xs = xs.take k ++ x :: xs.drop k
 | [], k, hk, _, _ => by simp at hk; subst hk; rfl
 | y :: ys, 0, _, _, h2 => by
  obtain ⟨h3, h4⟩ := h2 y rfl
  simp only [insA, List.take_zero, List.drop_zero, List.nil_append]
  rw [if_neg (by rw [h3]; simp), if_neg h4]
 | y :: ys, k + 1, hk, h1, h2 => by
  have := h1 0 y (by omega) rfl
  simp only [insA, List.take_succ_cons, List.drop_succ_cons, List.cons_append]
  rw [if_pos this, insA_at (by simpa using hk) (fun i z hi hz => h1 (i + 1) z (by omega) hz) (fun z hz => h2 z hz)]
theorem insA_has {x : Ar} : ∀ {xs : List Ar} {k : Nat}, (∀ i y, i < k → xs[i]? = some y → ltA y x = true) → xs[k]? = some x → insA x xs = xs
 | [], k, _, h => by simp at h
 | y :: ys, 0, _, h => by simp at h; subst h; simp [insA, ltA_irr]
 | y :: ys, k + 1, h1, h => by
  have := h1 0 y (by omega) rfl
  simp only [insA]
  rw [if_pos this, insA_has (fun i z hi hz => h1 (i + 1) z (by omega) hz) h]
def OkRow (k m : Nat) (r : List Ar) : Prop := SortA r ∧ r.length ≤ k ∧ ∀ a ∈ r, 0 ≤ a.1 ∧ a.1 ≤ 1025 ∧ 0 ≤ a.2 ∧ a.2 < m
def OkSys (k m : Nat) (R : List (List Ar)) : Prop := R.length = m ∧ ∀ r ∈ R, OkRow k m r
theorem OkRow.ins {k m : Nat} {r : List Ar} (h : OkRow k m r) {x : Ar} (hx : 0 ≤ x.1 ∧ x.1 ≤ 1025 ∧ 0 ≤ x.2 ∧ x.2 < m) : OkRow (k + 1) m (insA x r) :=
 ⟨insA_sort h.1, Nat.le_trans (insA_len x r) (by have := h.2.1; omega), fun a ha => by
  rcases (mem_insA x a r).1 ha with rfl | ha
  ·exact hx
  ·exact h.2.2 a ha⟩
theorem OkRow.le {k k' m : Nat} {r : List Ar} (h : OkRow k m r) (hk : k ≤ k') : OkRow k' m r := ⟨h.1, Nat.le_trans h.2.1 hk, h.2.2⟩
theorem OkSys.le {k k' m : Nat} {R : List (List Ar)} (h : OkSys k m R) (hk : k ≤ k') : OkSys k' m R := ⟨h.1, fun r hr => (h.2 r hr).le hk⟩
theorem OkSys.set {k m : Nat} {R : List (List Ar)} (h : OkSys k m R) {r : List Ar} (hr : OkRow k m r) (s : Nat) : OkSys k m (R.set s r) :=
 ⟨by simp [h.1], fun q hq => by
  rcases List.mem_or_eq_of_mem_set hq with hq | rfl
  ·exact h.2 q hq
  ·exact hr⟩

/-! trees and cells -/
open Go.RowKit
def cArcs (xs : List Ar) : List C := xs.flatMap fun a => [C.v (.int .i64 a.1), C.v (.int .i64 a.2)]
def cRows (R : List (List Ar)) : List C := R.map fun r => C.t 2 (tArcs r)
theorem cArcs_len (xs : List Ar) : (cArcs xs).length = xs.length * 2 := by
 induction xs with
 | nil => rfl
 | cons x r ih =>
  have : cArcs (x :: r) = [C.v (.int .i64 x.1), C.v (.int .i64 x.2)] ++ cArcs r := rfl
  rw [this, List.length_append, ih, List.length_cons]; simp; omega
theorem cArcs_app (xs ys : List Ar) : cArcs xs ++ cArcs ys = cArcs (xs ++ ys) := by simp [cArcs]
theorem cArcs_snoc (xs : List Ar) (x y : Int) : cArcs xs ++ [.v (.int .i64 x), .v (.int .i64 y)] = cArcs (xs ++ [(x, y)]) := by simp [cArcs]
theorem cArcs_one (xs : List Ar) : (cArcs xs).all C.one = true := by simp [cArcs, C.one]
theorem tArcs_c (xs : List Ar) : (tArcs xs).map C.ofTr = cArcs xs := by simp [tArcs, cArcs, List.map_flatMap, C.ofTr]
theorem flatA_take {α β : Type} (f : α → List β) (hf : ∀ a, (f a).length = 2) : ∀ (xs : List α) (n : Nat), (xs.flatMap f).take (n * 2) = (xs.take n).flatMap f
 | [], n => by simp
 | x :: r, 0 => by simp
 | x :: r, n + 1 => by
  simp only [List.flatMap_cons, List.take_succ_cons]
  rw [show (n + 1) * 2 = (f x).length + n * 2 by rw [hf]; omega, List.take_length_add_append, flatA_take f hf r n]
theorem flatA_drop {α β : Type} (f : α → List β) (hf : ∀ a, (f a).length = 2) : ∀ (xs : List α) (n : Nat), (xs.flatMap f).drop (n * 2) = (xs.drop n).flatMap f
 | [], n => by simp
 | x :: r, 0 => by simp
 | x :: r, n + 1 => by
  simp only [List.flatMap_cons, List.drop_succ_cons]
  rw [show (n + 1) * 2 = (f x).length + n * 2 by rw [hf]; omega, List.drop_length_add_append, flatA_drop f hf r n]
theorem tArcs_take (xs : List Ar) (n : Nat) : (tArcs xs).take (n * 2) = tArcs (xs.take n) := flatA_take _ (fun _ => rfl) xs n
theorem tArcs_drop (xs : List Ar) (n : Nat) : (tArcs xs).drop (n * 2) = tArcs (xs.drop n) := flatA_drop _ (fun _ => rfl) xs n
theorem cArcs_take (xs : List Ar) (n : Nat) : (cArcs xs).take (n * 2) = cArcs (xs.take n) := flatA_take _ (fun _ => rfl) xs n
theorem tArcs_at {xs : List Ar} {i : Nat} (h : i < xs.length) : (((tArcs xs).drop (i * 2)).take 2) = [.v (.int .i64 xs[i].1), .v (.int .i64 xs[i].2)] := by
 rw [tArcs_drop]
 have e : xs.drop i = xs[i] :: xs.drop (i + 1) := List.drop_eq_getElem_cons h
 rw [e]
 rfl
theorem fz_ca (L : List Ar) : Fz (cArcs L) (tArcs L) := by
 unfold cArcs tArcs
 exact Fz.flatMap fun x _ => ⟨.inl rfl, .inl rfl, trivial⟩
theorem cRows_len (xs : List (List Ar)) : (cRows xs).length = xs.length := by simp [cRows]
theorem cRows_get {xs : List (List Ar)} {i : Nat} {x : List Ar} (h : xs[i]? = some x) : (cRows xs)[i]? = some (.t 2 (tArcs x)) := by simp [cRows, h]
theorem cRows_set (xs : List (List Ar)) (i : Nat) (x : List Ar) : (cRows xs).set i (.t 2 (tArcs x)) = cRows (xs.set i x) := by simp [cRows, List.map_set]
theorem cRows_ren (f : List Nat) (L : List (List Ar)) : (cRows L).map (C.ren f) = cRows L := by simp [cRows, C.ren, Function.comp_def]
theorem cRows_up (f : Nat → Nat) (L : List (List Ar)) : (cRows L).map (C.up f) = cRows L := by simp [cRows, C.up, Function.comp_def]
theorem fz_cr (L : List (List Ar)) : Fz (cRows L) (tRows L) := by unfold cRows tRows; exact Fz.map fun x _ => .inl rfl
open Go.RowKit
set_option maxRecDepth 100000
theorem isNaN_fc (x : Int) : FC Try.prog 49 [.i x] [] (fun r o => o = [] ∧ r = .b false) := by
 refine fc_intro Try.func49 rfl (by rw [Try.ntmps49]; simp) ?_
 rw [Try.ntmps49]
 simp only [enum]
 (repeat (first | (refine aw_seq ?_; intro K hK) | refine aw_block ?_ | refine aw_region ?_ | (refine lst_x rfl rfl ?_; intro K1 hK1; simp only [go_sem, bne_self_eq_false]; (first | refine hK1 _ ?_ | refine andk (hK1 _ ?_)); clear hK1 K1) | ((first | refine lst_nil ?_ | refine aw_skip ?_); refine hK _ ?_; clear hK K)))
 exact rqc0 Try.results49
def cmpI (a b : Int) : Int := if a < b then -1 else if a > b then 1 else 0
theorem cmp_fc (x y : Int) : FC Try.prog 36 [.i x, .i y] [] (fun r o => o = [] ∧ r = .i (cmpI x y)) := by
 refine fc_intro Try.func36 rfl (by rw [Try.ntmps36]; simp) ?_
 rw [Try.ntmps36]
 simp only [enum]
 (refine wk0 ?_;(repeat clear hK K);repeat refine kq fun K hK=>?_)
 (refine ckz (isNaN_fc x) ?_; intro K1 hK1)
 rintro _ _ ⟨rfl, rfl⟩
 (refine bkz ?_; clear hK1 K1)
 (refine wk0 ?_;(repeat clear hK K);repeat refine kq fun K hK=>?_)
 (refine ckz (isNaN_fc y) ?_; intro K1 hK1)
 rintro _ _ ⟨rfl, rfl⟩
 (refine bkz ?_; clear hK1 K1)
 (refine wk0 ?_;(repeat clear hK K);repeat refine kq fun K hK=>?_)
 (refine aw_cnd ?_; intro X Y hX hY; simp only [go_sem])
 refine hY ?_; clear hX hY X Y
 (refine wk0 ?_;(repeat clear hK K);repeat refine kq fun K hK=>?_)
 (refine aw_cnd ?_; intro X Y hX hY; simp only [go_sem])
 refine hY ?_; clear hX hY X Y
 (refine wk0 ?_;(repeat clear hK K);repeat refine kq fun K hK=>?_)
 (refine aw_cnd ?_; intro X Y hX hY; simp only [go_sem])
 refine ⟨fun h => hX ?_, fun h => hY ?_⟩
 ·clear hX hY X Y
  (refine wk0 ?_;(repeat clear hK K);repeat refine kq fun K hK=>?_)
  refine rq0 Try.results36 ?_
  have : x < y := by simpa using h
  simp [cmpI, this]
 ·clear hX hY X Y
  have h1 : ¬ x < y := by simpa using h
  clear h
  (refine wk0 ?_;(repeat clear hK K);repeat refine kq fun K hK=>?_)
  (refine aw_cnd ?_; intro X Y hX hY; simp only [go_sem])
  refine ⟨fun h => hX ?_, fun h => hY ?_⟩
  ·clear hX hY X Y
   (refine wk0 ?_;(repeat clear hK K);repeat refine kq fun K hK=>?_)
   refine rq0 Try.results36 ?_
   have : y < x := by simpa using h
   simp [cmpI, this, h1]
  ·clear hX hY X Y
   (refine wk0 ?_;(repeat clear hK K);repeat refine kq fun K hK=>?_)
   refine rq0 Try.results36 ?_
   have : ¬ y < x := by simpa using h
   simp [cmpI, this, h1]
theorem drop_get {α : Type} {xs : List α} {k : Nat} (h : k < xs.length) : xs.drop k = xs[k] :: xs.drop (k + 1) := List.drop_eq_getElem_cons h
theorem lst_le {P : Program} {ops : Array Oper} {l : List Oper} {st t : ST} {K : ST → Prop} (h : Le st t) (k : Lst P ops l t K) : Lst P ops l st K := fun M0 w0 a w Q hR hN => k M0 w0 a w Q (h M0 w0 a w hR) hN
def cmpR (a b : Ar) : Int := if cmpI a.1 b.1 ≠ 0 then cmpI a.1 b.1 else cmpI a.2 b.2
theorem cmpI_eq (a b : Int) : (a < b ∧ cmpI a b = -1) ∨ (a = b ∧ cmpI a b = 0) ∨ (b < a ∧ cmpI a b = 1) := by
 unfold cmpI
 rcases Int.lt_trichotomy a b with h | h | h
 ·exact .inl ⟨h, by simp [h]⟩
 ·exact .inr (.inl ⟨h, by simp [h]⟩)
 ·exact .inr (.inr ⟨h, by rw [if_neg (by omega), if_pos h]⟩)
theorem cmpR_lt (a b : Ar) : decide (cmpR a b < 0) = ltA a b := by
 rw [Bool.eq_iff_iff, decide_eq_true_iff, ltA_iff]
 unfold cmpR
 rcases cmpI_eq a.1 b.1 with ⟨h, e⟩ | ⟨h, e⟩ | ⟨h, e⟩ <;> rw [e]
 ·simp; omega
 ·rcases cmpI_eq a.2 b.2 with ⟨h2, e2⟩ | ⟨h2, e2⟩ | ⟨h2, e2⟩ <;> rw [e2] <;> simp <;> omega
 ·simp; omega
theorem cmpR_ge (a b : Ar) : decide (cmpR a b ≥ 0) = !ltA a b := by
 rw [← cmpR_lt, Bool.eq_iff_iff, decide_eq_true_iff, Bool.not_eq_true', decide_eq_false_iff_not]
 omega
instance decSortA (l : List Ar) : Decidable (SortA l) := inferInstanceAs (Decidable (List.Pairwise (fun a b => ltA a b = true) l))
theorem sortA_get {xs : List Ar} (h : ∀ i a b, xs[i]? = some a → xs[i + 1]? = some b → ltA a b = true) : SortA xs := by
 unfold SortA
 induction xs with
 | nil => exact .nil
 | cons a r ih =>
  have h2 := ih fun i x y hx hy => h (i + 1) x y (by simpa using hx) (by simpa using hy)
  rw [List.pairwise_cons]
  refine ⟨fun b hb => ?_, h2⟩
  cases r with
  | nil => simp at hb
  | cons c q =>
   have h1 := h 0 a c rfl rfl
   rcases List.mem_cons.1 hb with rfl | hb
   ·exact h1
   ·exact ltA_trans h1 ((List.pairwise_cons.1 h2).1 b hb)
theorem SortA.at {xs : List Ar} (h : SortA xs) {i j : Nat} {a b : Ar} (hij : i < j) (ha : xs[i]? = some a) (hb : xs[j]? = some b) : ltA a b = true := by
 have h1 := List.getElem?_eq_some_iff.1 ha
 have h2 := List.getElem?_eq_some_iff.1 hb
 have := List.pairwise_iff_getElem.1 h i j h1.1 h2.1 hij
 rwa [h1.2, h2.2] at this
theorem sortA_not {xs : List Ar} {i : Nat} {a b : Ar} (ha : xs[i]? = some a) (hb : xs[i + 1]? = some b) (h : ltA a b = false) : ¬ SortA xs := fun hs => by
 have := hs.at (by omega) ha hb
 rw [h] at this; cases this
def chanP (x : Int) : Prop := 2 ≤ x ∧ x ≤ 1025
instance decChanP (x : Int) : Decidable (chanP x) := inferInstanceAs (Decidable (_ ∧ _))
theorem tArcs_c0 {xs : List Ar} {i : Nat} (h : i < xs.length) : (tArcs xs)[i * 2]? = some (.v (.int .i64 xs[i].1)) := by
 have := tArcs_at h
 have e : ((tArcs xs).drop (i * 2))[0]? = some (.v (.int .i64 xs[i].1)) := by
  rw [← List.getElem?_take_of_lt (show 0 < 2 by omega), this]; rfl
 simpa using e
theorem tArcs_c1 {xs : List Ar} {i : Nat} (h : i < xs.length) : (tArcs xs)[i * 2 + 1]? = some (.v (.int .i64 xs[i].2)) := by
 have := tArcs_at h
 have e : ((tArcs xs).drop (i * 2))[1]? = some (.v (.int .i64 xs[i].2)) := by
  rw [← List.getElem?_take_of_lt (show 1 < 2 by omega), this]; rfl
 simpa using e
def OrdP (o : List Ar) : Prop := SortA o ∧ (∀ a ∈ o, chanP a.1 ∧ chanP a.2 ∧ a.1 ≠ a.2) ∧ ∀ x ∈ o, ∀ y ∈ o, y.1 = x.2 → (x.1, y.2) ∈ o
instance decOrdP (o : List Ar) : Decidable (OrdP o) := inferInstanceAs (Decidable (_ ∧ _ ∧ _))
def totA (R : List (List Ar)) : Nat := (R.map List.length).sum
theorem totA_snoc (R : List (List Ar)) (r : List Ar) : totA (R ++ [r]) = totA R + r.length := by simp [totA]
theorem totA_take {R : List (List Ar)} {k : Nat} (h : k < R.length) : totA (R.take (k + 1)) = totA (R.take k) + R[k].length := by
 rw [List.take_succ_eq_append_getElem h, totA_snoc]
theorem totA_le (R : List (List Ar)) (k : Nat) : totA (R.take k) ≤ totA R := by
 have : totA R = totA (R.take k) + totA (R.drop k) := by
  unfold totA
  rw [← List.sum_append, ← List.map_append, List.take_append_drop]
 omega
def maxS : Nat := 16384
def maxA : Nat := 262144
def LooP (R : List (List Ar)) : Prop := 1 ≤ R.length ∧ R.length ≤ maxS ∧ totA R ≤ maxA ∧ ∀ r ∈ R, ∀ a ∈ r, 0 ≤ a.1 ∧ a.1 ≤ 1025 ∧ 0 ≤ a.2 ∧ a.2 < (R.length : Int)
instance decLooP (R : List (List Ar)) : Decidable (LooP R) := inferInstanceAs (Decidable (_ ∧ _ ∧ _ ∧ _))
def looB (R : List (List Ar)) : Bool := decide (LooP R)
def valB (R : List (List Ar)) : Bool := decide (LooP R ∧ ∀ r ∈ R, SortA r)
theorem valB_no {R : List (List Ar)} (h : looB R = false) : valB R = false := by
 rw [looB, decide_eq_false_iff_not] at h
 rw [valB, decide_eq_false_iff_not]
 exact fun h2 => h h2.1
def rowOf (r : List Ar) : List Ar := r.foldl (fun acc a => insA a acc) []
def numOne (num old : List Int) (t : Int) : List Int × List Int := if num.getD t.toNat 0 < 0 then (num.set t.toNat old.length, old ++ [t]) else (num, old)
def rowGo : List Ar → List Int → List Int → List Ar → List Int × List Int × List Ar
 | [], num, old, nxt => (num, old, nxt)
 | a :: tl, num, old, nxt => rowGo tl (numOne num old a.2).1 (numOne num old a.2).2 (insA (a.1, (numOne num old a.2).1.getD a.2.toNat 0) nxt)
def canGo (rows : List (List Ar)) : Nat → Nat → List Int → List Int → List (List Ar) → List (List Ar) × List Int
 | 0, _, _, old, out => (out, old)
 | f + 1, i, num, old, out => match old[i]? with
  | none => (out, old)
  | some s => canGo rows f (i + 1) (rowGo (rowOf (rows.getD s.toNat [])) num old []).1 (rowGo (rowOf (rows.getD s.toNat [])) num old []).2.1 (out ++ [(rowGo (rowOf (rows.getD s.toNat [])) num old []).2.2])
def canonR (rows : List (List Ar)) : List (List Ar) × List Int := canGo rows rows.length 0 ((List.replicate rows.length (-1)).set 0 0) [0] []

theorem mem_foldl_ins (r acc : List Ar) (a : Ar) : a ∈ r.foldl (fun acc a => insA a acc) acc ↔ a ∈ acc ∨ a ∈ r := by
 induction r generalizing acc with
 | nil => simp
 | cons x xs ih => rw [List.foldl_cons, ih, mem_insA, List.mem_cons, or_comm (a := a = x), or_assoc]
theorem mem_rowOf (r : List Ar) (a : Ar) : a ∈ rowOf r ↔ a ∈ r := by unfold rowOf; rw [mem_foldl_ins]; simp
theorem len_foldl_ins (r acc : List Ar) : (r.foldl (fun acc a => insA a acc) acc).length ≤ acc.length + r.length := by
 induction r generalizing acc with
 | nil => simp
 | cons x xs ih => rw [List.foldl_cons, List.length_cons]; have := ih (insA x acc); have := insA_len x acc; omega
theorem len_rowOf (r : List Ar) : (rowOf r).length ≤ r.length := by have := len_foldl_ins r []; simpa [rowOf] using this

structure NumOk (n : Nat) (num old : List Int) : Prop where
 len : num.length = n
 rng : ∀ x ∈ num, -1 ≤ x ∧ x < n
 st : ∀ s ∈ old, 0 ≤ s ∧ s < n
 cnt : old.length + num.countP (fun x => decide (x < 0)) = n
theorem countP_set {p : Int → Bool} {l : List Int} {i : Nat} {x y : Int} (h : l[i]? = some x) (hx : p x = true) (hy : p y = false) : (l.set i y).countP p + 1 = l.countP p := by
 induction l generalizing i with
 | nil => simp at h
 | cons z zs ih =>
  cases i with
  | zero => simp at h; subst h; simp [List.countP_cons, hx, hy]
  | succ i =>
   simp only [List.getElem?_cons_succ] at h
   have := ih h
   simp only [List.set_cons_succ, List.countP_cons]
   omega
theorem NumOk.le {n : Nat} {num old : List Int} (h : NumOk n num old) : old.length ≤ n := by have := h.cnt; omega
theorem NumOk.get {n : Nat} {num old : List Int} (h : NumOk n num old) {t : Int} (h0 : 0 ≤ t) (h1 : t < n) : ∃ x, num[t.toNat]? = some x ∧ num.getD t.toNat 0 = x ∧ -1 ≤ x ∧ x < n := by
 have hl : t.toNat < num.length := by rw [h.len]; omega
 exact ⟨num[t.toNat], List.getElem?_eq_getElem hl, by simp [hl], h.rng _ (List.getElem_mem hl)⟩
theorem NumOk.one {n : Nat} {num old : List Int} (h : NumOk n num old) {t : Int} (h0 : 0 ≤ t) (h1 : t < n) : NumOk n (numOne num old t).1 (numOne num old t).2 := by
 obtain ⟨x, hx, hd, hb⟩ := h.get h0 h1
 unfold numOne
 rw [hd]
 split
 ·rename_i hneg
  have hc := countP_set (p := fun x => decide (x < 0)) (y := (old.length : Int)) hx (by simpa using hneg) (by simp)
  have hcnt := h.cnt
  refine ⟨by simp [h.len], fun y hy => ?_, fun s hs => ?_, by simp; omega⟩
  ·rcases List.mem_or_eq_of_mem_set hy with hy | hy
   ·exact h.rng y hy
   ·subst hy; omega
  ·rcases List.mem_append.1 hs with hs | hs
   ·exact h.st s hs
   ·simp at hs; subst hs; exact ⟨h0, h1⟩
 ·exact h
theorem NumOk.go {n : Nat} : ∀ (r : List Ar) {num old : List Int} (nxt : List Ar), NumOk n num old → (∀ a ∈ r, 0 ≤ a.2 ∧ a.2 < n) → NumOk n (rowGo r num old nxt).1 (rowGo r num old nxt).2.1
 | [], _, _, _, h, _ => h
 | a :: tl, _, _, nxt, h, hr => NumOk.go tl _ (h.one (hr a (by simp)).1 (hr a (by simp)).2) (fun b hb => hr b (List.mem_cons_of_mem _ hb))
theorem NumOk.start {n : Nat} (hn : 0 < n) : NumOk n ((List.replicate n (-1)).set 0 0) [0] := by
 obtain ⟨k, rfl⟩ : ∃ k, n = k + 1 := ⟨n - 1, by omega⟩
 refine ⟨by simp, fun x hx => ?_, fun s hs => ?_, ?_⟩
 ·rcases List.mem_or_eq_of_mem_set hx with h | h
  ·rw [(List.mem_replicate.1 h).2]; omega
  ·subst h; omega
 ·simp at hs; subst hs; omega
 ·simp [List.replicate_succ, List.countP_replicate]; omega


theorem canGo_stop {rows : List (List Ar)} {f i : Nat} {num old : List Int} {out : List (List Ar)} (h : old.length ≤ i) : canGo rows f i num old out = (out, old) := by
 cases f with
 | zero => rfl
 | succ f => simp [canGo, List.getElem?_eq_none h]
theorem canGo_step {rows : List (List Ar)} {n i : Nat} {num old : List Int} {out : List (List Ar)} {s : Int} {r : List Ar} (hi : i < n) (hs : old[i]? = some s) (hr : rows[s.toNat]? = some r) {row : List Ar} (hrow : row = rowOf r) :
  canGo rows (n - i) i num old out = canGo rows (n - (i + 1)) (i + 1) (rowGo row num old []).1 (rowGo row num old []).2.1 (out ++ [(rowGo row num old []).2.2]) := by
 obtain ⟨m, hm⟩ : ∃ m, n - i = m + 1 := ⟨n - i - 1, by omega⟩
 have hm' : n - (i + 1) = m := by omega
 rw [hm, hm', canGo, hs, hrow]
 have : rows.getD s.toNat [] = r := by simp [List.getD, hr]
 simp only [this]

def compGo (p : Ar) : List Ar → List Ar
 | [] => []
 | y :: ys => if y = p then compGo p ys else y :: compGo y ys
def compL : List Ar → List Ar
 | [] => []
 | x :: xs => x :: compGo x xs


theorem sorted_ext : ∀ {l m : List Ar}, SortA l → SortA m → (∀ a, a ∈ l ↔ a ∈ m) → l = m
 | [], [], _, _, _ => rfl
 | [], b :: m, _, _, h => by have := (h b).2 (by simp); simp at this
 | a :: l, [], _, _, h => by have := (h a).1 (by simp); simp at this
 | a :: l, b :: m, hl, hm, h => by
  have hl' := List.pairwise_cons.1 hl
  have hm' := List.pairwise_cons.1 hm
  have hab : a = b := by
   rcases List.mem_cons.1 ((h a).1 (by simp)) with e | e
   ·exact e
   ·rcases List.mem_cons.1 ((h b).2 (by simp)) with e' | e'
    ·exact e'.symm
    ·have h1 := hm'.1 a e
     have h2 := hl'.1 b e'
     rw [ltA_iff] at h1 h2; omega
  subst hab
  congr 1
  refine sorted_ext hl'.2 hm'.2 fun c => ⟨fun hc => ?_, fun hc => ?_⟩
  ·rcases List.mem_cons.1 ((h c).1 (List.mem_cons_of_mem _ hc)) with e | e
   ·subst e; have := hl'.1 c hc; rw [ltA_irr] at this; cases this
   ·exact e
  ·rcases List.mem_cons.1 ((h c).2 (List.mem_cons_of_mem _ hc)) with e | e
   ·subst e; have := hm'.1 c hc; rw [ltA_irr] at this; cases this
   ·exact e
def LeA (a b : Ar) : Prop := ltA b a = false
theorem compGo_mem (p : Ar) (l : List Ar) (a : Ar) : a ∈ p :: compGo p l ↔ a ∈ p :: l := by
 induction l generalizing p with
 | nil => simp [compGo]
 | cons y ys ih =>
  unfold compGo
  split
  ·rename_i h; subst h; rw [ih]; simp
  ·have := ih y
   simp only [List.mem_cons] at this ⊢
   rw [this]
theorem compGo_sorted (p : Ar) (l : List Ar) (h : (p :: l).Pairwise LeA) : SortA (p :: compGo p l) := by
 induction l generalizing p with
 | nil => simp [compGo, SortA]
 | cons y ys ih =>
  have h1 := List.pairwise_cons.1 h
  have h2 := List.pairwise_cons.1 h1.2
  unfold compGo
  split
  ·rename_i e; subst e
   exact ih _ (List.pairwise_cons.2 ⟨fun a ha => h2.1 a ha, h2.2⟩)
  ·rename_i e
   have hy := ih y h1.2
   refine List.pairwise_cons.2 ⟨fun a ha => ?_, hy⟩
   have hpy : ltA p y = true := by
    have := h1.1 y (by simp)
    rcases ltA_tri p y with h | h | h
    ·exact h
    ·exact absurd h.symm e
    ·unfold LeA at this; rw [h] at this; cases this
   rcases List.mem_cons.1 ha with rfl | ha
   ·exact hpy
   ·exact ltA_trans hpy ((List.pairwise_cons.1 hy).1 a ha)
theorem rowOf_sorted (r : List Ar) : SortA (rowOf r) := by
 unfold rowOf
 have : ∀ (l acc : List Ar), SortA acc → SortA (l.foldl (fun acc a => insA a acc) acc) := by
  intro l
  induction l with
  | nil => intro acc h; exact h
  | cons x xs ih => intro acc h; exact ih _ (insA_sort h)
 exact this r [] List.Pairwise.nil
theorem comp_sort {r q : List Ar} (hp : q.Perm r) (h : q.Pairwise LeA) : compL q = rowOf r := by
 refine sorted_ext ?_ (rowOf_sorted r) fun a => ?_
 ·cases q with
  | nil => exact List.Pairwise.nil
  | cons x xs => exact compGo_sorted x xs h
 ·rw [mem_rowOf, ← hp.mem_iff]
  cases q with
  | nil => simp [compL]
  | cons x xs => exact compGo_mem x xs a
theorem sort_nodup {r q : List Ar} (h : r.Nodup) (hp : q.Perm r) (h1 : q.Pairwise LeA) : q = rowOf r := by
 refine sorted_ext ?_ (rowOf_sorted r) fun a => by rw [mem_rowOf, hp.mem_iff]
 have h2 := hp.symm.nodup h
 refine (List.pairwise_iff_forall_sublist.2 ?_)
 intro a b hab
 have hle := List.pairwise_iff_forall_sublist.1 h1 hab
 have hne := List.pairwise_iff_forall_sublist.1 h2 hab
 rcases ltA_tri a b with h | h | h
 ·exact h
 ·exact absurd h hne
 ·unfold LeA at hle; rw [h] at hle; cases hle
def numL : List Ar → List Int → List Int → List Int × List Int × List Ar
 | [], num, old => (num, old, [])
 | a :: tl, num, old =>
  ((numL tl (numOne num old a.2).1 (numOne num old a.2).2).1, (numL tl (numOne num old a.2).1 (numOne num old a.2).2).2.1,
   (a.1, (numOne num old a.2).1.getD a.2.toNat 0) :: (numL tl (numOne num old a.2).1 (numOne num old a.2).2).2.2)
theorem rowGo_numL (r : List Ar) (num old : List Int) (nxt : List Ar) :
  rowGo r num old nxt = ((numL r num old).1, (numL r num old).2.1, (numL r num old).2.2.foldl (fun acc a => insA a acc) nxt) := by
 induction r generalizing num old nxt with
 | nil => rfl
 | cons a tl ih => simp only [rowGo, numL, ih, List.foldl_cons]
structure NumInj (num old : List Int) : Prop where
 inj : ∀ (t : Nat) (x : Int), num[t]? = some x → 0 ≤ x → old[x.toNat]? = some (t : Int)
theorem NumInj.one {num old : List Int} (h : NumInj num old) {t : Int} (h0 : 0 ≤ t) (h1 : t < num.length) : NumInj (numOne num old t).1 (numOne num old t).2 := by
 unfold numOne
 split
 ·refine ⟨fun s x hx hp => ?_⟩
  rw [List.getElem?_set] at hx
  split at hx
  ·rename_i hs
   rw [if_pos (by omega)] at hx
   injection hx with hx
   subst hx
   simp
   omega
  ·have := h.inj s x hx hp
   rw [List.getElem?_append_left (List.getElem?_eq_some_iff.1 this).1]
   exact this
 ·exact h
theorem numOne_len (num old : List Int) (t : Int) : (numOne num old t).1.length = num.length := by unfold numOne; split <;> simp
theorem numOne_keep {num old : List Int} {t : Int} {s : Nat} {x : Int} (h0 : 0 ≤ t) (hx : num[s]? = some x) (hp : 0 ≤ x) : (numOne num old t).1[s]? = some x := by
 unfold numOne
 split
 ·rename_i hneg
  simp only [List.getElem?_set]
  split
  ·rename_i hs
   subst hs
   simp [List.getD, hx] at hneg
   omega
  ·exact hx
 ·exact hx
theorem numOne_at {num old : List Int} {t : Int} (h0 : 0 ≤ t) (h1 : t < num.length) : ∃ x, (numOne num old t).1[t.toNat]? = some x ∧ 0 ≤ x := by
 unfold numOne
 split
 ·exact ⟨_, by rw [List.getElem?_set, if_pos rfl, if_pos (by omega)], by omega⟩
 ·rename_i hneg
  have hl : t.toNat < num.length := by omega
  refine ⟨num[t.toNat], List.getElem?_eq_getElem hl, ?_⟩
  simpa [List.getD, List.getElem?_eq_getElem hl] using hneg
theorem numL_keep (r : List Ar) {num old : List Int} (hr : ∀ a ∈ r, 0 ≤ a.2) {s : Nat} {x : Int} (hx : num[s]? = some x) (hp : 0 ≤ x) : (numL r num old).1[s]? = some x := by
 induction r generalizing num old with
 | nil => exact hx
 | cons a tl ih => exact ih (fun b hb => hr b (by simp [hb])) (numOne_keep (hr a (by simp)) hx hp)
theorem numL_inj (r : List Ar) {num old : List Int} (hr : ∀ a ∈ r, 0 ≤ a.2 ∧ a.2 < num.length) (h : NumInj num old) : NumInj (numL r num old).1 (numL r num old).2.1 := by
 induction r generalizing num old with
 | nil => exact h
 | cons a tl ih =>
  have ha := hr a (by simp)
  exact ih (fun b hb => by rw [numOne_len]; exact hr b (by simp [hb])) (h.one ha.1 ha.2)
theorem numL_map (r : List Ar) {num old : List Int} (hr : ∀ a ∈ r, 0 ≤ a.2 ∧ a.2 < num.length) :
  (numL r num old).2.2 = r.map (fun a => (a.1, (numL r num old).1.getD a.2.toNat 0)) ∧ ∀ a ∈ r, ∃ x, (numL r num old).1[a.2.toNat]? = some x ∧ 0 ≤ x := by
 induction r generalizing num old with
 | nil => exact ⟨rfl, by simp⟩
 | cons a tl ih =>
  have ha := hr a (by simp)
  obtain ⟨i1, i2⟩ := ih (num := (numOne num old a.2).1) (old := (numOne num old a.2).2) (fun b hb => by rw [numOne_len]; exact hr b (by simp [hb]))
  obtain ⟨x, hx, hp⟩ := numOne_at (old := old) ha.1 ha.2
  have hk := numL_keep (old := (numOne num old a.2).2) tl (fun b hb => (hr b (by simp [hb])).1) hx hp
  refine ⟨?_, fun b hb => ?_⟩
  ·simp only [numL, List.map_cons]
   congr 1
   simp [List.getD, hx, hk]
  ·rcases List.mem_cons.1 hb with rfl | hb
   ·exact ⟨x, hk, hp⟩
   ·exact i2 b hb
theorem numL_nodup (r : List Ar) {num old : List Int} (hs : SortA r) (hr : ∀ a ∈ r, 0 ≤ a.2 ∧ a.2 < num.length) (h : NumInj num old) : (numL r num old).2.2.Nodup := by
 obtain ⟨h1, h2⟩ := numL_map (old := old) r hr
 have hi := numL_inj r hr h
 rw [h1, List.Nodup, List.pairwise_map]
 have hnd : r.Pairwise (· ≠ ·) := hs.imp (fun {a b} hab e => by subst e; rw [ltA_irr] at hab; cases hab)
 refine hnd.imp_of_mem (fun {a b} ha hb hne e => hne ?_)
 obtain ⟨x, hx, hxp⟩ := h2 a ha
 obtain ⟨y, hy, hyp⟩ := h2 b hb
 have ha' := hr a ha
 have hb' := hr b hb
 simp only [Prod.mk.injEq, List.getD, hx, hy, Option.getD_some] at e
 obtain ⟨e1, e2⟩ := e
 subst e2
 have q1 := hi.inj _ _ hx hxp
 have q2 := hi.inj _ _ hy hxp
 rw [q1] at q2
 injection q2 with q2
 rcases a with ⟨a1, a2⟩
 rcases b with ⟨b1, b2⟩
 simp only at *
 have : a2 = b2 := by omega
 rw [e1, this]
theorem NumInj.start {n : Nat} (hn : 0 < n) : NumInj ((List.replicate n (-1)).set 0 0) [0] := ⟨fun t x hx hp => by
 rw [List.getElem?_set] at hx
 split at hx
 ·rename_i h
  subst h
  simp [hn] at hx
  subst hx; rfl
 ·rw [List.getElem?_replicate] at hx
  split at hx
  ·cases hx; omega
  ·cases hx⟩

theorem numL_neg {tl : List Ar} {num old : List Int} {e x : Int} {tn L : Nat} (hx : num[tn]? = some x) (hneg : x < 0) (hL : old.length = L) :
  numL ((e, (tn : Int)) :: tl) num old = ((numL tl (num.set tn L) (old ++ [(tn : Int)])).1, (numL tl (num.set tn L) (old ++ [(tn : Int)])).2.1, (e, (L : Int)) :: (numL tl (num.set tn L) (old ++ [(tn : Int)])).2.2) := by
 have hl : tn < num.length := (List.getElem?_eq_some_iff.1 hx).1
 have h1 : numOne num old (tn : Int) = (num.set tn L, old ++ [(tn : Int)]) := by
  simp only [numOne, Int.toNat_natCast, List.getD, hx, Option.getD_some, if_pos hneg, hL]
 simp only [numL, h1, Int.toNat_natCast]
 simp [List.getD, hl]
theorem numL_pos {tl : List Ar} {num old : List Int} {e x : Int} {tn : Nat} (hx : num[tn]? = some x) (hpos : ¬ x < 0) :
  numL ((e, (tn : Int)) :: tl) num old = ((numL tl num old).1, (numL tl num old).2.1, (e, x) :: (numL tl num old).2.2) := by
 have h1 : numOne num old (tn : Int) = (num, old) := by
  simp only [numOne, Int.toNat_natCast, List.getD, hx, Option.getD_some, if_neg hpos]
 simp only [numL, h1, Int.toNat_natCast, List.getD, hx, Option.getD_some]
def NL (R : List Int × List Int × List Ar) (ya q : List Ar) (k : Nat) (num old : List Int) : Prop :=
 ya.take k ++ (numL (q.drop k) num old).2.2 = R.2.2 ∧ (numL (q.drop k) num old).1 = R.1 ∧ (numL (q.drop k) num old).2.1 = R.2.1 ∧ ya.drop k = q.drop k
theorem NL.neg {R : List Int × List Int × List Ar} {ya q : List Ar} {k : Nat} {num old : List Int} {e x : Int} {tn L : Nat} (h : NL R ya q k num old) (hk : ya[k]? = some (e, (tn : Int))) (hx : num[tn]? = some x) (hneg : x < 0) (hL : old.length = L) :
  NL R (ya.set k (e, (L : Int))) q (k + 1) (num.set tn L) (old ++ [(tn : Int)]) := by
 obtain ⟨h1, h2, h3, h4⟩ := h
 have hl := (List.getElem?_eq_some_iff.1 hk).1
 have hd : q.drop k = (e, (tn : Int)) :: q.drop (k + 1) := by
  have h5 : ya.drop k = (e, (tn : Int)) :: ya.drop (k + 1) := by
   rw [List.drop_eq_getElem_cons hl]; congr 1
   rw [List.getElem?_eq_getElem hl] at hk; exact Option.some.inj hk
  have h6 := congrArg (List.drop 1) h4
  rw [List.drop_drop, List.drop_drop] at h6
  rw [← h4, h5, h6]
 rw [hd, numL_neg hx hneg hL] at h1 h2 h3
 refine ⟨?_, h2, h3, ?_⟩
 ·rw [← h1, List.take_add_one, List.take_set_of_le (Nat.le_refl k)]
  simp [List.getElem?_set, hl]
 ·rw [List.drop_set, if_pos (by omega)]
  have h6 := congrArg (List.drop 1) h4
  rwa [List.drop_drop, List.drop_drop] at h6
theorem NL.pos {R : List Int × List Int × List Ar} {ya q : List Ar} {k : Nat} {num old : List Int} {e x : Int} {tn : Nat} (h : NL R ya q k num old) (hk : ya[k]? = some (e, (tn : Int))) (hx : num[tn]? = some x) (hpos : ¬ x < 0) :
  NL R (ya.set k (e, x)) q (k + 1) num old := by
 obtain ⟨h1, h2, h3, h4⟩ := h
 have hl := (List.getElem?_eq_some_iff.1 hk).1
 have hd : q.drop k = (e, (tn : Int)) :: q.drop (k + 1) := by
  have h5 : ya.drop k = (e, (tn : Int)) :: ya.drop (k + 1) := by
   rw [List.drop_eq_getElem_cons hl]; congr 1
   rw [List.getElem?_eq_getElem hl] at hk; exact Option.some.inj hk
  have h6 := congrArg (List.drop 1) h4
  rw [List.drop_drop, List.drop_drop] at h6
  rw [← h4, h5, h6]
 rw [hd, numL_pos hx hpos] at h1 h2 h3
 refine ⟨?_, h2, h3, ?_⟩
 ·rw [← h1, List.take_add_one, List.take_set_of_le (Nat.le_refl k)]
  simp [List.getElem?_set, hl]
 ·rw [List.drop_set, if_pos (by omega)]
  have h6 := congrArg (List.drop 1) h4
  rwa [List.drop_drop, List.drop_drop] at h6


section
variable {α β : Type} [DecidableEq α] [DecidableEq β]
def nmG (f : Nat → α) : Nat → List Int × Nat
 | 0 => ([], 0)
 | k + 1 => match (List.range k).find? (fun t => decide (f t = f k)) with
  | some t => ((nmG f k).1 ++ [(nmG f k).1.getD t 0], (nmG f k).2)
  | none => ((nmG f k).1 ++ [((nmG f k).2 : Int)], (nmG f k).2 + 1)
theorem nmG_some {f : Nat → α} {k t : Nat} (h : (List.range k).find? (fun t => decide (f t = f k)) = some t) : nmG f (k + 1) = ((nmG f k).1 ++ [(nmG f k).1.getD t 0], (nmG f k).2) := by rw [nmG, h]
theorem nmG_none {f : Nat → α} {k : Nat} (h : (List.range k).find? (fun t => decide (f t = f k)) = none) : nmG f (k + 1) = ((nmG f k).1 ++ [((nmG f k).2 : Int)], (nmG f k).2 + 1) := by rw [nmG, h]
theorem nm_find_some {f : Nat → α} {k t : Nat} (ht : t < k) (h : f t = f k) (hn : ∀ u, u < t → f u ≠ f k) : (List.range k).find? (fun t => decide (f t = f k)) = some t := by
 rw [List.find?_range_eq_some]
 exact ⟨by simpa using h, by simpa using ht, fun j hj => by simpa using hn j hj⟩
theorem nm_find_none {f : Nat → α} {k : Nat} (hn : ∀ u, u < k → f u ≠ f k) : (List.range k).find? (fun t => decide (f t = f k)) = none := by
 rw [List.find?_range_eq_none]
 exact fun j hj => by simpa using hn j hj
theorem nm_cases (f : Nat → α) (k : Nat) : (∃ t, t < k ∧ f t = f k ∧ (∀ u, u < t → f u ≠ f k) ∧ nmG f (k + 1) = ((nmG f k).1 ++ [(nmG f k).1.getD t 0], (nmG f k).2)) ∨ ((∀ u, u < k → f u ≠ f k) ∧ nmG f (k + 1) = ((nmG f k).1 ++ [((nmG f k).2 : Int)], (nmG f k).2 + 1)) := by
 cases h : (List.range k).find? (fun t => decide (f t = f k)) with
 | some t =>
  have h2 := List.find?_range_eq_some.1 h
  exact .inl ⟨t, by simpa using h2.2.1, by simpa using h2.1, fun u hu => by simpa using h2.2.2 u hu, nmG_some h⟩
 | none =>
  have h2 := List.find?_range_eq_none.1 h
  exact .inr ⟨fun u hu => by simpa using h2 u hu, nmG_none h⟩
structure NmOk (f : Nat → α) (k : Nat) (p : List Int × Nat) : Prop where
 len : p.1.length = k
 eq : ∀ s t, s < k → t < k → (p.1.getD s 0 = p.1.getD t 0 ↔ f s = f t)
 rng : ∀ s, s < k → 0 ≤ p.1.getD s 0 ∧ p.1.getD s 0 < (p.2 : Int)
 cnt : p.2 ≤ k
theorem getD_snoc_lt {l : List Int} {x : Int} {s : Nat} (h : s < l.length) : (l ++ [x]).getD s 0 = l.getD s 0 := by
 rw [List.getD_eq_getElem?_getD, List.getElem?_append_left h, ← List.getD_eq_getElem?_getD]
theorem getD_snoc_eq {l : List Int} {x : Int} {s : Nat} (h : s = l.length) : (l ++ [x]).getD s 0 = x := by
 subst h
 rw [List.getD_eq_getElem?_getD, List.getElem?_append_right (Nat.le_refl _), Nat.sub_self]; rfl
theorem nmG_ok (f : Nat → α) (k : Nat) : NmOk f k (nmG f k) := by
 induction k with
 | zero => exact ⟨rfl, fun s t h => by omega, fun s h => by omega, Nat.le_refl _⟩
 | succ k ih =>
  have hl := ih.len
  rcases nm_cases f k with ⟨t, h1, h2, h3, h4⟩ | ⟨h3, h4⟩
  ·rw [h4]
   generalize nmG f k = p at *
   have g1 : ∀ s, s < k → (p.1 ++ [p.1.getD t 0]).getD s 0 = p.1.getD s 0 := fun s hs => getD_snoc_lt (by omega)
   have g2 : (p.1 ++ [p.1.getD t 0]).getD k 0 = p.1.getD t 0 := getD_snoc_eq hl.symm
   refine ⟨by simp [hl], fun s u hs hu => ?_, fun s hs => ?_, by have := ih.cnt; simp only; omega⟩
   ·simp only
    rcases Nat.lt_or_ge s k with a | a <;> rcases Nat.lt_or_ge u k with b | b
    ·rw [g1 s a, g1 u b]; exact ih.eq s u a b
    ·have : u = k := by omega
     subst this
     rw [g1 s a, g2, ih.eq s t a h1, h2]
    ·have : s = k := by omega
     subst this
     rw [g1 u b, g2, ih.eq t u h1 b, h2]
    ·have e1 : s = k := by omega
     have e2 : u = k := by omega
     subst e1; subst e2; simp
   ·simp only
    rcases Nat.lt_or_ge s k with a | a
    ·rw [g1 s a]; exact ih.rng s a
    ·have : s = k := by omega
     subst this; rw [g2]; exact ih.rng t h1
  ·rw [h4]
   generalize nmG f k = p at *
   have g1 : ∀ s, s < k → (p.1 ++ [(p.2 : Int)]).getD s 0 = p.1.getD s 0 := fun s hs => getD_snoc_lt (by omega)
   have g2 : (p.1 ++ [(p.2 : Int)]).getD k 0 = p.2 := getD_snoc_eq hl.symm
   refine ⟨by simp [hl], fun s u hs hu => ?_, fun s hs => ?_, by have := ih.cnt; simp only; omega⟩
   ·simp only
    rcases Nat.lt_or_ge s k with a | a <;> rcases Nat.lt_or_ge u k with b | b
    ·rw [g1 s a, g1 u b]; exact ih.eq s u a b
    ·have : u = k := by omega
     subst this
     rw [g1 s a, g2]
     have := ih.rng s a
     exact ⟨fun e => by omega, fun e => absurd e (h3 s a)⟩
    ·have : s = k := by omega
     subst this
     rw [g1 u b, g2]
     have := ih.rng u b
     exact ⟨fun e => by omega, fun e => absurd e.symm (h3 u b)⟩
    ·have e1 : s = k := by omega
     have e2 : u = k := by omega
     subst e1; subst e2; simp
   ·simp only
    rcases Nat.lt_or_ge s k with a | a
    ·rw [g1 s a]; have := ih.rng s a; omega
    ·have : s = k := by omega
     subst this; rw [g2]; omega
theorem nmG_ext {f : Nat → α} {g : Nat → β} : ∀ k, (∀ s t, s < k → t < k → (f s = f t ↔ g s = g t)) → nmG f k = nmG g k := by
 intro k
 induction k with
 | zero => intro _; rfl
 | succ k ih =>
  intro h
  have ih2 := ih fun s t hs ht => h s t (by omega) (by omega)
  rcases nm_cases f k with ⟨t, h1, h2, h3, h4⟩ | ⟨h3, h4⟩
  ·rw [h4, nmG_some (f := g) (nm_find_some h1 ((h t k (by omega) (by omega)).1 h2) fun u hu e => h3 u hu ((h u k (by omega) (by omega)).2 e)), ih2]
  ·rw [h4, nmG_none (f := g) (nm_find_none fun u hu e => h3 u hu ((h u k (by omega) (by omega)).2 e)), ih2]
theorem nmG_norm (f : Nat → α) (n : Nat) : nmG (fun s => (nmG f n).1.getD s 0) n = nmG f n := nmG_ext n fun s t hs ht => (nmG_ok f n).eq s t hs ht
def fstB (f : Nat → α) (k : Nat) : Bool := (List.range k).all fun t => !decide (f t = f k)
theorem fstB_iff {f : Nat → α} {k : Nat} : fstB f k = true ↔ ∀ t, t < k → f t ≠ f k := by simp [fstB]
theorem nm_count (f : Nat → α) (k : Nat) : (nmG f k).2 = (List.range k).countP (fstB f) := by
 induction k with
 | zero => rfl
 | succ k ih =>
  rw [List.range_succ, List.countP_append, ← ih]
  rcases nm_cases f k with ⟨t, h1, h2, h3, h4⟩ | ⟨h3, h4⟩
  ·have : fstB f k = false := by
    rw [← Bool.not_eq_true, fstB_iff]
    exact fun h => h t h1 h2
   rw [h4]; simp [this]
  ·have : fstB f k = true := fstB_iff.2 h3
   rw [h4]; simp [this]
theorem countP_eq_imp {γ : Type} {p q : γ → Bool} : ∀ {l : List γ}, (∀ x ∈ l, p x = true → q x = true) → l.countP p = l.countP q → ∀ x ∈ l, q x = true → p x = true
 | [], _, _, x, hx, _ => by simp at hx
 | a :: r, h, e, x, hx, hq => by
  have hle := List.countP_mono_left (p := p) (q := q) (l := r) fun y hy => h y (List.mem_cons_of_mem _ hy)
  rw [List.countP_cons, List.countP_cons] at e
  have ha := h a (by simp)
  rcases List.mem_cons.1 hx with rfl | hx
  ·cases hp : p x with
   | true => rfl
   | false => rw [hp, hq] at e; simp at e; omega
  ·refine countP_eq_imp (fun y hy => h y (List.mem_cons_of_mem _ hy)) ?_ x hx hq
   cases hp : p a with
   | true => rw [hp, ha hp] at e; simp at e; exact e
   | false =>
    rw [hp] at e
    cases hqa : q a with
    | true => rw [hqa] at e; simp at e; omega
    | false => rw [hqa] at e; simpa using e
theorem nm_first {f : Nat → α} (s : Nat) : ∃ t, t ≤ s ∧ f t = f s ∧ fstB f t = true := by
 induction s using Nat.strongRecOn with
 | _ s ih =>
  cases h : fstB f s with
  | true => exact ⟨s, Nat.le_refl _, rfl, h⟩
  | false =>
   have : ¬ ∀ t, t < s → f t ≠ f s := fun q => by rw [fstB_iff.2 q] at h; cases h
   obtain ⟨t, ht, e⟩ : ∃ t, t < s ∧ f t = f s := Classical.byContradiction fun q => this fun t ht e => q ⟨t, ht, e⟩
   obtain ⟨u, h1, h2, h3⟩ := ih t ht
   exact ⟨u, by omega, h2.trans e, h3⟩
theorem nm_refine {f : Nat → α} {g : Nat → β} {n : Nat} (h : ∀ s t, s < n → t < n → g s = g t → f s = f t) : (nmG f n).2 ≤ (nmG g n).2 ∧ ((nmG f n).2 = (nmG g n).2 → nmG f n = nmG g n) := by
 have hsub : ∀ k ∈ List.range n, fstB f k = true → fstB g k = true := fun k hk hf => by
  rw [List.mem_range] at hk
  rw [fstB_iff] at hf ⊢
  exact fun t ht e => hf t ht (h t k (by omega) hk e)
 rw [nm_count, nm_count]
 refine ⟨List.countP_mono_left hsub, fun e => nmG_ext n fun s t hs ht => ⟨fun hf => ?_, h s t hs ht⟩⟩
 have hback := countP_eq_imp hsub e
 obtain ⟨s1, a1, a2, a3⟩ := nm_first (f := g) s
 obtain ⟨t1, b1, b2, b3⟩ := nm_first (f := g) t
 have c1 := fstB_iff.1 (hback s1 (List.mem_range.2 (by omega)) a3)
 have c2 := fstB_iff.1 (hback t1 (List.mem_range.2 (by omega)) b3)
 have d1 : f s1 = f s := h s1 s (by omega) hs a2
 have d2 : f t1 = f t := h t1 t (by omega) ht b2
 have e3 : f s1 = f t1 := by rw [d1, d2, hf]
 have e4 : s1 = t1 := by
  rcases Nat.lt_trichotomy s1 t1 with q | q | q
  ·exact absurd e3 (c2 s1 q)
  ·exact q
  ·exact absurd e3.symm (c1 t1 q)
 rw [← a2, ← b2, e4]
end
def imR (S : List (List Ar)) (c : List Int) (s : Nat) : List Ar := rowOf ((S.getD s []).map fun a => (a.1, c.getD a.2.toNat 0))
theorem mem_imR {S : List (List Ar)} {c : List Int} {s : Nat} {x : Ar} : x ∈ imR S c s ↔ ∃ a ∈ S.getD s [], x = (a.1, c.getD a.2.toNat 0) := by
 unfold imR
 rw [mem_rowOf, List.mem_map]
 exact ⟨fun ⟨a, h1, h2⟩ => ⟨a, h1, h2.symm⟩, fun ⟨a, h1, h2⟩ => ⟨a, h1, h2.symm⟩⟩
def hasB (c : List Int) (row : List Ar) (e x : Int) : Bool := row.any fun a => a.1 == e && c.getD a.2.toNat 0 == x
def covB (c : List Int) (a b : List Ar) : Bool := a.all fun x => hasB c b x.1 (c.getD x.2.toNat 0)
theorem cov_iff {S : List (List Ar)} {c : List Int} {s t : Nat} : imR S c s = imR S c t ↔ covB c (S.getD s []) (S.getD t []) = true ∧ covB c (S.getD t []) (S.getD s []) = true := by
 have key : ∀ s t, covB c (S.getD s []) (S.getD t []) = true ↔ ∀ x ∈ imR S c s, x ∈ imR S c t := by
  intro s t
  simp only [covB, hasB, List.all_eq_true, List.any_eq_true, Bool.and_eq_true, beq_iff_eq]
  constructor
  ·intro h x hx
   obtain ⟨a, ha, rfl⟩ := mem_imR.1 hx
   obtain ⟨b, hb, h1, h2⟩ := h a ha
   exact mem_imR.2 ⟨b, hb, by rw [h1, h2]⟩
  ·intro h a ha
   obtain ⟨b, hb, e⟩ := mem_imR.1 (h _ (mem_imR.2 ⟨a, ha, rfl⟩))
   injection e with e1 e2
   exact ⟨b, hb, e1.symm, e2.symm⟩
 rw [key, key]
 constructor
 ·intro h; rw [h]; exact ⟨fun _ h => h, fun _ h => h⟩
 ·rintro ⟨h1, h2⟩
  exact sorted_ext (rowOf_sorted _) (rowOf_sorted _) fun x => ⟨h1 x, h2 x⟩
def ftS (S : List (List Ar)) (c : List Int) (s : Nat) : Int × List Ar := (c.getD s 0, imR S c s)
def nxS (S : List (List Ar)) (c : List Int) : List Int := (nmG (ftS S c) S.length).1
def itS (S : List (List Ar)) (c : List Int) : Nat → List Int
 | 0 => c
 | k + 1 => nxS S (itS S c k)
def FxS (S : List (List Ar)) (c d : List Int) : Prop := ∃ k, d = itS S c k ∧ nxS S d = d
theorem FxS.stay {S : List (List Ar)} {c : List Int} {k j : Nat} (h : nxS S (itS S c k) = itS S c k) (hj : k ≤ j) : itS S c j = itS S c k := by
 induction j with
 | zero =>
  have : k = 0 := by omega
  subst this; rfl
 | succ j ih =>
  by_cases e : k = j + 1
  ·subst e; rfl
  ·rw [itS, ih (by omega), h]
theorem FxS.uniq {S : List (List Ar)} {c d e : List Int} (h1 : FxS S c d) (h2 : FxS S c e) : d = e := by
 obtain ⟨k, rfl, hk⟩ := h1
 obtain ⟨j, rfl, hj⟩ := h2
 rcases Nat.le_total k j with h | h
 ·exact (FxS.stay hk h).symm
 ·exact FxS.stay hj h
def Nrm (n : Nat) (c : List Int) : Prop := (nmG (fun s => c.getD s 0) n).1 = c
def cntC (n : Nat) (c : List Int) : Nat := (nmG (fun s => c.getD s 0) n).2
theorem nrm_nm {α : Type} [DecidableEq α] (f : Nat → α) (n : Nat) : Nrm n (nmG f n).1 := by unfold Nrm; rw [nmG_norm]
theorem cnt_nm {α : Type} [DecidableEq α] (f : Nat → α) (n : Nat) : cntC n (nmG f n).1 = (nmG f n).2 := by unfold cntC; rw [nmG_norm]
theorem Nrm.len {n : Nat} {c : List Int} (h : Nrm n c) : c.length = n := by rw [← h]; exact (nmG_ok _ n).len
theorem Nrm.rng {n : Nat} {c : List Int} (h : Nrm n c) : ∀ x ∈ c, 0 ≤ x ∧ x < (n : Int) := fun x hx => by
 obtain ⟨i, hi, rfl⟩ := List.getElem_of_mem hx
 have hl := h.len
 have h1 := (nmG_ok (fun s => c.getD s 0) n).rng i (by omega)
 have h2 := (nmG_ok (fun s => c.getD s 0) n).cnt
 unfold Nrm at h
 rw [h, List.getD_eq_getElem?_getD, List.getElem?_eq_getElem hi, Option.getD_some] at h1
 omega
theorem nx_nrm (S : List (List Ar)) (c : List Int) : Nrm S.length (nxS S c) := nrm_nm _ _
theorem nx_lt {S : List (List Ar)} {c : List Int} (h : Nrm S.length c) (hne : nxS S c ≠ c) : cntC S.length c < cntC S.length (nxS S c) := by
 have hr := nm_refine (f := fun s => c.getD s 0) (g := ftS S c) (n := S.length) fun s t _ _ e => by
  have := congrArg Prod.fst e
  exact this
 have e1 : cntC S.length (nxS S c) = (nmG (ftS S c) S.length).2 := cnt_nm _ _
 rw [e1]
 unfold cntC
 rcases Nat.lt_or_eq_of_le hr.1 with q | q
 ·exact q
 ·exfalso
  apply hne
  have := hr.2 q
  unfold nxS
  rw [← this]
  exact h
theorem cnt_le (n : Nat) (c : List Int) : cntC n c ≤ n := (nmG_ok _ n).cnt
theorem tmod_b (v n : Int) (hn : 1 ≤ n) : -n < v.tmod n ∧ v.tmod n < n := by
 by_cases h : 0 ≤ v
 ·rw [Int.tmod_eq_emod_of_nonneg h]
  have h1 := Int.emod_nonneg v (show n ≠ 0 by omega)
  exact ⟨by omega, Int.emod_lt_of_pos _ (by omega)⟩
 ·have h1 : v.tmod n = -((-v).tmod n) := by rw [Int.neg_tmod]; omega
  have h2 := Int.emod_nonneg (-v) (show n ≠ 0 by omega)
  have h3 := Int.emod_lt_of_pos (-v) (show 0 < n by omega)
  rw [h1, Int.tmod_eq_emod_of_nonneg (show 0 ≤ -v by omega)]
  omega

def tape (T : List Int) (a : Nat) : Ob := .r ⟨37, 2, false, [.t 1 (tInts T), .v (.int .i64 a)]⟩
structure TpOk (T : List Int) : Prop where
 len : T.length ≤ 9223372036854775807
 in_ : ∀ x ∈ T, in64 x
theorem new_fc (T : List Int) : FC Try.prog 4 [aInts T] [] (fun r o => r = .a (.c (.p 0 0)) ∧ o = [tape T 0]) := by
 refine fc_intro Try.func4 rfl (by rw [Try.ntmps4]; simp) ?_
 rw [Try.ntmps4]
 simp only [enum, aInts]
 (refine wk1 (an @List.set_cons_zero.{0} @List.set_cons_succ.{0}) ?_;(repeat clear hK K);repeat refine kq fun K hK=>?_)
 refine rq0 Try.results4 ?_
 rfl

theorem next_fc (T : List Int) (a : Nat) (n : Int) (hT : TpOk T) (ha : a ≤ 1000000000) (hn : n ≤ 1000000000) :
  FC Try.prog 20 [.a (.c (.p 0 0)), .i n] [tape T a] (fun r o => o = [tape T (a + 1)] ∧ ∃ v : Nat, r = .i v ∧ ((v : Int) < n ∨ v = 0)) := by
 refine fc_intro Try.func20 rfl (by rw [Try.ntmps20]; simp) ?_
 rw [Try.ntmps20]
 simp only [enum, tape]
 have hl := hT.len
 (refine wk0 ?_;(repeat clear hK K);repeat refine kq fun K hK=>?_)
 (refine aw_regionU 9 [(0, 0), (1, 0), (2, 0), (3, 1), (4, 0), (5, 0), (6, 0), (7, 1), (8, 0), (9, 2)] (by kernel_rfl) (by kernel_rfl) (by intro c st h; simp [ThenA, InBl, Ret] at h) ?_)
 (refine uk1 @tInts_len ?_; repeat clear hK K)
 (refine aw_cnd ?_; intro X Y hX hY; simp only [go_sem])
 refine ⟨fun h => hX ?_, fun h => hY ?_⟩
 ·have hlt : a < T.length := by simpa using h
  have hv := hT.in_ _ (List.getElem_mem hlt)
  simp only [in64] at hv
  clear hX hY X Y h
  (refine aw_regionU 10 [(0, 0), (1, 0), (2, 0), (3, 1), (4, 0), (5, 0), (6, 0), (7, 1), (8, 0), (9, 1), (10, 2)] (by kernel_rfl) (by kernel_rfl) (by intro c st h; simp [ThenA, InBl, Ret] at h) ?_)
  (refine uk1 (an @tInts_len (tInts_get (List.getElem?_eq_getElem hlt))) ?_; repeat clear hK K)
  (refine wk1 (an @List.set_cons_zero.{0} @List.set_cons_succ.{0}) ?_;(repeat clear hK K);repeat refine kq fun K hK=>?_)
  (refine aw_cnd ?_; intro X Y hX hY; simp only [go_sem])
  refine ⟨fun h => hX ?_, fun h => hY ?_⟩
  ·clear hX hY X Y
   (refine wk0 ?_;(repeat clear hK K);repeat refine kq fun K hK=>?_)
   refine rq0 Try.results20 ?_
   exact ⟨rfl, 0, rfl, .inr rfl⟩
  ·have hn1 : 1 ≤ n := by simp at h; omega
   have hb := tmod_b (T[a]) n hn1
   clear hX hY X Y
   (refine wk0 ?_;(repeat clear hK K);repeat refine kq fun K hK=>?_)
   (refine aw_cnd ?_; intro X Y hX hY; simp only [go_sem])
   refine ⟨fun h => hX ?_, fun h => hY ?_⟩
   ·clear hX hY X Y
    have h1 : Int.tmod (T[a]) n < 0 := by simpa using h
    (refine wk0 ?_;(repeat clear hK K);repeat refine kq fun K hK=>?_)
    refine rq0 Try.results20 ?_
    exact ⟨rfl, (Int.tmod (T[a]) n + n).toNat, by rw [Int.toNat_of_nonneg (by omega)], .inl (by omega)⟩
   ·clear hX hY X Y
    have h1 : 0 ≤ Int.tmod (T[a]) n := by simpa using h
    (refine wk0 ?_;(repeat clear hK K);repeat refine kq fun K hK=>?_)
    refine rq0 Try.results20 ?_
    exact ⟨rfl, (Int.tmod (T[a]) n).toNat, by rw [Int.toNat_of_nonneg (by omega)], .inl (by omega)⟩
 ·clear hX hY X Y h
  (refine wk1 (an @List.set_cons_zero.{0} @List.set_cons_succ.{0}) ?_;(repeat clear hK K);repeat refine kq fun K hK=>?_)
  (refine aw_cnd ?_; intro X Y hX hY; simp only [go_sem])
  refine ⟨fun h => hX ?_, fun h => hY ?_⟩
  ·clear hX hY X Y
   (refine wk0 ?_;(repeat clear hK K);repeat refine kq fun K hK=>?_)
   refine rq0 Try.results20 ?_
   exact ⟨rfl, 0, rfl, .inr rfl⟩
  ·have hn1 : 1 ≤ n := by simp at h; omega
   have hb := tmod_b (5 * (a : Int) + 3) n hn1
   clear hX hY X Y
   (refine wk0 ?_;(repeat clear hK K);repeat refine kq fun K hK=>?_)
   (refine aw_cnd ?_; intro X Y hX hY; simp only [go_sem])
   refine ⟨fun h => hX ?_, fun h => hY ?_⟩
   ·clear hX hY X Y
    have h1 : Int.tmod (5 * (a : Int) + 3) n < 0 := by simpa using h
    (refine wk0 ?_;(repeat clear hK K);repeat refine kq fun K hK=>?_)
    refine rq0 Try.results20 ?_
    exact ⟨rfl, (Int.tmod (5 * (a : Int) + 3) n + n).toNat, by rw [Int.toNat_of_nonneg (by omega)], .inl (by omega)⟩
   ·clear hX hY X Y
    have h1 : 0 ≤ Int.tmod (5 * (a : Int) + 3) n := by simpa using h
    (refine wk0 ?_;(repeat clear hK K);repeat refine kq fun K hK=>?_)
    refine rq0 Try.results20 ?_
    exact ⟨rfl, (Int.tmod (5 * (a : Int) + 3) n).toNat, by rw [Int.toNat_of_nonneg (by omega)], .inl (by omega)⟩

/-! rows of numbers -/
def cInts (xs : List Int) : List C := xs.map fun x => C.v (.int .i64 x)
def rInts (xs : List Int) : Ob := .r ⟨3, 1, true, cInts xs⟩
theorem cInts_len (xs : List Int) : (cInts xs).length = xs.length := by simp [cInts]
theorem cInts_get {xs : List Int} {i : Nat} {x : Int} (h : xs[i]? = some x) : (cInts xs)[i]? = some (.v (.int .i64 x)) := by simp [cInts, h]
theorem cInts_take (xs : List Int) (n : Nat) : (cInts xs).take n = cInts (xs.take n) := by simp [cInts, List.map_take]
theorem cInts_drop (xs : List Int) (n : Nat) : (cInts xs).drop n = cInts (xs.drop n) := by simp [cInts, List.map_drop]
theorem cInts_app (xs ys : List Int) : cInts xs ++ cInts ys = cInts (xs ++ ys) := by simp [cInts]
theorem cInts_one (xs : List Int) : (cInts xs).all C.one = true := by simp [cInts, C.one]
theorem cInts_snoc (xs : List Int) (x : Int) : cInts xs ++ [.v (.int .i64 x)] = cInts (xs ++ [x]) := by simp [cInts]
theorem cInts_ren (f : List Nat) (L : List Int) : (cInts L).map (C.ren f) = cInts L := by simp [cInts, C.ren, Function.comp_def]
theorem cInts_up (f : Nat → Nat) (L : List Int) : (cInts L).map (C.up f) = cInts L := by simp [cInts, C.up, Function.comp_def]
theorem tInts_take (xs : List Int) (n : Nat) : (tInts xs).take n = tInts (xs.take n) := by simp [tInts, List.map_take]
theorem tInts_drop (xs : List Int) (n : Nat) : (tInts xs).drop n = tInts (xs.drop n) := by simp [tInts, List.map_drop]
theorem tInts_c (xs : List Int) : (tInts xs).map C.ofTr = cInts xs := tInts_of xs
theorem fz_c (L : List Int) : Fz (cInts L) (tInts L) := by unfold cInts tInts; exact Fz.map fun x _ => .inl rfl
end Go.Proofs.Ytahnebicgbjonaa
