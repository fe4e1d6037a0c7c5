/- Arcs: Less and Insert, by the machine; numbers, events and sets drawn from the tape. cmp.Compare; small words. Plain words: compared pairs, ascending rows, valid systems, orders. graph: Min of a window, closeComponent, arcs. slices.Repeat of one number. Compared arcs: cmp.Or, the three compares. Loose and valid systems: rows.loose, rows.Valid, the reference's Loose, Valid. -/
import Derived.Test.YtglchakimolfdaaDoorMF
import Derived.Test.YtglchakimolfdaaDoorPl1
import Derived.Test.YtglchakimolfdaaDoorMfl
import Derived.Test.YtglchakimolfdaaDoorZk
import Derived.Test.YtglchakimolfdaaDoorShlf
namespace Go.Proofs.YtglchakimolfdaaDoor
set_option linter.unusedVariables false
set_option linter.unusedSimpArgs false
open Go.RowKit
set_option maxRecDepth 100000

theorem arcAe : AeOk Tryd.prog 23 2 := aeOk2 Tryd.underlying23 (by kernel_rfl) (by kernel_rfl) (by decide) (by decide) rfl rfl (by kernel_rfl) (by kernel_rfl)
theorem arcEq_t (x y : Operand) (a b c d : Int) : aggEq Tryd.prog .eql 23 x y [.int .i64 a, .int .i64 b] [.int .i64 c, .int .i64 d] (a == c && b == d) = True := by
 refine eq_true ?_
 have := (arcAe x y [.v (.int .i64 a), .v (.int .i64 b)] [.v (.int .i64 c), .v (.int .i64 d)] _ _ rfl rfl rfl rfl).1
 simpa [eqI] using this
theorem arcEq_b {a b : Ar} : (a.1 == b.1 && a.2 == b.2) = decide (a = b) := by
 obtain ⟨a1, a2⟩ := a
 obtain ⟨b1, b2⟩ := b
 simp [Prod.ext_iff, Bool.beq_eq_decide_eq]
theorem arcEq_d (x y : Operand) (a b : Ar) : aggEq Tryd.prog .eql 23 x y [.int .i64 a.1, .int .i64 a.2] [.int .i64 b.1, .int .i64 b.2] (decide (a = b)) = True := by
 rw [← arcEq_b]; exact arcEq_t x y _ _ _ _
theorem half2 (n : Nat) : n * 2 / 2 = n := by omega
theorem isNaN_fc (x : Int) : FC Tryd.prog 70 [.i x] [] (fun r o => o = [] ∧ r = .b false) := by
 refine fc_intro Tryd.func70 rfl (by rw [Tryd.ntmps70]; simp) ?_
 rw [Tryd.ntmps70]
 simp only [enum]
 (repeat (first | (refine aw_seq ?_; intro K hK) | refine aw_block ?_ | refine aw_region ?_ | (refine lst_x rfl rfl ?_; intro K1 hK1; simp only [go_sem, bne_self_eq_false]; (first | refine hK1 _ ?_ | refine andk (hK1 _ ?_)); clear hK1 K1) | ((first | refine lst_nil ?_ | refine aw_skip ?_); refine hK _ ?_; clear hK K)))
 exact rqc0 Tryd.results70
def cmpI (a b : Int) : Int := if a < b then -1 else if a > b then 1 else 0
theorem cmp_fc (x y : Int) : FC Tryd.prog 48 [.i x, .i y] [] (fun r o => o = [] ∧ r = .i (cmpI x y)) := by
 refine fc_intro Tryd.func48 rfl (by rw [Tryd.ntmps48]; simp) ?_
 rw [Tryd.ntmps48]
 simp only [enum]
 (refine wk0 ?_;(repeat clear hK K);repeat refine kq fun K hK=>?_)
 (refine ckz (isNaN_fc x) ?_; intro K1 hK1)
 rintro _ _ ⟨rfl, rfl⟩
 (refine bkz ?_; clear hK1 K1)
 (refine wk0 ?_;(repeat clear hK K);repeat refine kq fun K hK=>?_)
 (refine ckz (isNaN_fc y) ?_; intro K1 hK1)
 rintro _ _ ⟨rfl, rfl⟩
 (refine bkz ?_; clear hK1 K1)
 (refine wk0 ?_;(repeat clear hK K);repeat refine kq fun K hK=>?_)
 (refine aw_cnd ?_; intro X Y hX hY; simp only [go_sem])
 refine hY ?_; clear hX hY X Y
 (refine wk0 ?_;(repeat clear hK K);repeat refine kq fun K hK=>?_)
 (refine aw_cnd ?_; intro X Y hX hY; simp only [go_sem])
 refine hY ?_; clear hX hY X Y
 (refine wk0 ?_;(repeat clear hK K);repeat refine kq fun K hK=>?_)
 (refine aw_cnd ?_; intro X Y hX hY; simp only [go_sem])
 refine ⟨fun h => hX ?_, fun h => hY ?_⟩
 ·clear hX hY X Y
  (refine wk0 ?_;(repeat clear hK K);repeat refine kq fun K hK=>?_)
  refine rq0 Tryd.results48 ?_
  have : x < y := by simpa using h
  simp [cmpI, this]
 ·clear hX hY X Y
  have h1 : ¬ x < y := by simpa using h
  clear h
  (refine wk0 ?_;(repeat clear hK K);repeat refine kq fun K hK=>?_)
  (refine aw_cnd ?_; intro X Y hX hY; simp only [go_sem])
  refine ⟨fun h => hX ?_, fun h => hY ?_⟩
  ·clear hX hY X Y
   (refine wk0 ?_;(repeat clear hK K);repeat refine kq fun K hK=>?_)
   refine rq0 Tryd.results48 ?_
   have : y < x := by simpa using h
   simp [cmpI, this, h1]
  ·clear hX hY X Y
   (refine wk0 ?_;(repeat clear hK K);repeat refine kq fun K hK=>?_)
   refine rq0 Tryd.results48 ?_
   have : ¬ y < x := by simpa using h
   simp [cmpI, this, h1]
theorem drop_get {α : Type} {xs : List α} {k : Nat} (h : k < xs.length) : xs.drop k = xs[k] :: xs.drop (k + 1) := List.drop_eq_getElem_cons h
theorem lst_le {P : Program} {ops : Array Oper} {l : List Oper} {st t : ST} {K : ST → Prop} (h : Le st t) (k : Lst P ops l t K) : Lst P ops l st K := fun M0 w0 a w Q hR hN => k M0 w0 a w Q (h M0 w0 a w hR) hN
def cmpR (a b : Ar) : Int := if cmpI a.1 b.1 ≠ 0 then cmpI a.1 b.1 else cmpI a.2 b.2
theorem cmpI_eq (a b : Int) : (a < b ∧ cmpI a b = -1) ∨ (a = b ∧ cmpI a b = 0) ∨ (b < a ∧ cmpI a b = 1) := by
 unfold cmpI
 rcases Int.lt_trichotomy a b with h | h | h
 ·exact .inl ⟨h, by simp [h]⟩
 ·exact .inr (.inl ⟨h, by simp [h]⟩)
 ·exact .inr (.inr ⟨h, by rw [if_neg (by omega), if_pos h]⟩)
theorem cmpR_lt (a b : Ar) : decide (cmpR a b < 0) = ltA a b := by
 rw [Bool.eq_iff_iff, decide_eq_true_iff, ltA_iff]
 unfold cmpR
 rcases cmpI_eq a.1 b.1 with ⟨h, e⟩ | ⟨h, e⟩ | ⟨h, e⟩ <;> rw [e]
 ·simp; omega
 ·rcases cmpI_eq a.2 b.2 with ⟨h2, e2⟩ | ⟨h2, e2⟩ | ⟨h2, e2⟩ <;> rw [e2] <;> simp <;> omega
 ·simp; omega
theorem cmpR_ge (a b : Ar) : decide (cmpR a b ≥ 0) = !ltA a b := by
 rw [← cmpR_lt, Bool.eq_iff_iff, decide_eq_true_iff, Bool.not_eq_true', decide_eq_false_iff_not]
 omega
instance decSortA (l : List Ar) : Decidable (SortA l) := inferInstanceAs (Decidable (List.Pairwise (fun a b => ltA a b = true) l))
theorem sortA_get {xs : List Ar} (h : ∀ i a b, xs[i]? = some a → xs[i + 1]? = some b → ltA a b = true) : SortA xs := by
 unfold SortA
 induction xs with
 | nil => exact .nil
 | cons a r ih =>
  have h2 := ih fun i x y hx hy => h (i + 1) x y (by simpa using hx) (by simpa using hy)
  rw [List.pairwise_cons]
  refine ⟨fun b hb => ?_, h2⟩
  cases r with
  | nil => simp at hb
  | cons c q =>
   have h1 := h 0 a c rfl rfl
   rcases List.mem_cons.1 hb with rfl | hb
   ·exact h1
   ·exact ltA_trans h1 ((List.pairwise_cons.1 h2).1 b hb)
theorem SortA.at {xs : List Ar} (h : SortA xs) {i j : Nat} {a b : Ar} (hij : i < j) (ha : xs[i]? = some a) (hb : xs[j]? = some b) : ltA a b = true := by
 have h1 := List.getElem?_eq_some_iff.1 ha
 have h2 := List.getElem?_eq_some_iff.1 hb
 have := List.pairwise_iff_getElem.1 h i j h1.1 h2.1 hij
 rwa [h1.2, h2.2] at this
theorem sortA_not {xs : List Ar} {i : Nat} {a b : Ar} (ha : xs[i]? = some a) (hb : xs[i + 1]? = some b) (h : ltA a b = false) : ¬ SortA xs := fun hs => by
 have := hs.at (by omega) ha hb
 rw [h] at this; cases this
def chanP (x : Int) : Prop := 2 ≤ x ∧ x ≤ 1025
instance decChanP (x : Int) : Decidable (chanP x) := inferInstanceAs (Decidable (_ ∧ _))
theorem tArcs_c0 {xs : List Ar} {i : Nat} (h : i < xs.length) : (tArcs xs)[i * 2]? = some (.v (.int .i64 xs[i].1)) := by
 have := tArcs_at h
 have e : ((tArcs xs).drop (i * 2))[0]? = some (.v (.int .i64 xs[i].1)) := by
  rw [← List.getElem?_take_of_lt (show 0 < 2 by omega), this]; rfl
 simpa using e
theorem tArcs_c1 {xs : List Ar} {i : Nat} (h : i < xs.length) : (tArcs xs)[i * 2 + 1]? = some (.v (.int .i64 xs[i].2)) := by
 have := tArcs_at h
 have e : ((tArcs xs).drop (i * 2))[1]? = some (.v (.int .i64 xs[i].2)) := by
  rw [← List.getElem?_take_of_lt (show 1 < 2 by omega), this]; rfl
 simpa using e
def OrdP (o : List Ar) : Prop := SortA o ∧ (∀ a ∈ o, chanP a.1 ∧ chanP a.2 ∧ a.1 ≠ a.2) ∧ ∀ x ∈ o, ∀ y ∈ o, y.1 = x.2 → (x.1, y.2) ∈ o
instance decOrdP (o : List Ar) : Decidable (OrdP o) := inferInstanceAs (Decidable (_ ∧ _ ∧ _))
def totA (R : List (List Ar)) : Nat := (R.map List.length).sum
theorem totA_snoc (R : List (List Ar)) (r : List Ar) : totA (R ++ [r]) = totA R + r.length := by simp [totA]
theorem totA_take {R : List (List Ar)} {k : Nat} (h : k < R.length) : totA (R.take (k + 1)) = totA (R.take k) + R[k].length := by
 rw [List.take_succ_eq_append_getElem h, totA_snoc]
theorem totA_le (R : List (List Ar)) (k : Nat) : totA (R.take k) ≤ totA R := by
 have : totA R = totA (R.take k) + totA (R.drop k) := by
  unfold totA
  rw [← List.sum_append, ← List.map_append, List.take_append_drop]
 omega
def maxS : Nat := 16384
def maxA : Nat := 262144
def LooP (R : List (List Ar)) : Prop := 1 ≤ R.length ∧ R.length ≤ maxS ∧ totA R ≤ maxA ∧ ∀ r ∈ R, ∀ a ∈ r, 0 ≤ a.1 ∧ a.1 ≤ 1025 ∧ 0 ≤ a.2 ∧ a.2 < (R.length : Int)
instance decLooP (R : List (List Ar)) : Decidable (LooP R) := inferInstanceAs (Decidable (_ ∧ _ ∧ _ ∧ _))
def looB (R : List (List Ar)) : Bool := decide (LooP R)
def valB (R : List (List Ar)) : Bool := decide (LooP R ∧ ∀ r ∈ R, SortA r)
theorem valB_no {R : List (List Ar)} (h : looB R = false) : valB R = false := by
 rw [looB, decide_eq_false_iff_not] at h
 rw [valB, decide_eq_false_iff_not]
 exact fun h2 => h h2.1
attribute [local go_sem] List.set_cons_zero List.set_cons_succ List.map_cons List.map_nil List.take_succ_cons List.take_zero List.drop_zero List.drop_succ_cons C.pl C.one List.all_cons List.all_nil Bool.and_true Nat.mul_one Int.toNat_natCast
def minL (x : Int) (l : List Int) : Int := l.foldl (fun a b => if b < a then b else a) x
theorem minL_le (l : List Int) : ∀ x : Int, minL x l ≤ x ∧ ∀ y ∈ l, minL x l ≤ y := by
 induction l with
 | nil => intro x; exact ⟨Int.le_refl _, by simp⟩
 | cons a r ih =>
  intro x
  have e : minL x (a :: r) = minL (if a < x then a else x) r := rfl
  obtain ⟨h1, h2⟩ := ih (if a < x then a else x)
  rw [e]
  have h3 : (if a < x then a else x) ≤ x ∧ (if a < x then a else x) ≤ a := by split <;> omega
  refine ⟨Int.le_trans h1 h3.1, fun y hy => ?_⟩
  rcases List.mem_cons.1 hy with rfl | h
  ·exact Int.le_trans h1 h3.2
  ·exact h2 y h
theorem minL_mem (l : List Int) : ∀ x : Int, minL x l = x ∨ minL x l ∈ l := by
 induction l with
 | nil => intro x; exact .inl rfl
 | cons a r ih =>
  intro x
  have e : minL x (a :: r) = minL (if a < x then a else x) r := rfl
  rw [e]
  rcases ih (if a < x then a else x) with h | h
  ·rw [h]; split
   ·exact .inr (List.mem_cons_self)
   ·exact .inl rfl
  ·exact .inr (List.mem_cons_of_mem _ h)
theorem win_succ {O : List Int} {off k : Nat} (h : off + k < O.length) : (O.drop off).take (k + 1) = (O.drop off).take k ++ [O[off + k]] := by
 have h1 : k < (O.drop off).length := by simp; omega
 rw [List.take_succ_eq_append_getElem h1, List.getElem_drop]
theorem minL_snoc (x : Int) (l : List Int) (y : Int) : minL x (l ++ [y]) = if y < minL x l then y else minL x l := by unfold minL; rw [List.foldl_append]; rfl

theorem minW_fc (O : List Int) (off n : Nat) (hn : 0 < n) (hO : off + n ≤ O.length) (hb : off + n ≤ 140737488355328) : FC Tryd.prog 71 [.a (.c (.w 0 off n 1))] [rInts O] (fun r o => o = [rInts O] ∧ r = .i (minL O[off] ((O.drop off).take n))) := by
 refine fc_intro Tryd.func71 rfl (by rw [Tryd.ntmps71]; simp) ?_
 rw [Tryd.ntmps71]
 simp only [enum, rInts]
 have d0 : decide ((n : Int) < 1) = false := by simp; omega
 have h0 : off < O.length := by omega
 have g0 : (cInts O)[off]? = some (.v (.int .i64 O[off])) := cInts_get (List.getElem?_eq_getElem h0)
 (refine wk1 @d0 ?_;(repeat clear hK K);repeat refine kq fun K hK=>?_)
 refine cyz ?_
 (refine wk1 (an @g0 (an @Int.toNat_zero @Nat.add_zero)) ?_;(repeat clear hK K);repeat refine kq fun K hK=>?_)
 refine aw_loop (fun k : Nat => { tm := [(0, .a (.c (.w 0 off n 1))), (3, .i (minL O[off] ((O.drop off).take k))), (4, .i k)], hp := [.r ⟨3, 1, true, cInts O⟩], n := 25, pin := 1 }) (fun k => 1 ≤ k ∧ k ≤ n) (fun k => n - k) 1 ?_ ?_ ?_
 ·omega
 ·have e : (O.drop off).take 1 = [O[off]] := by
   have := win_succ (O := O) (off := off) (k := 0) (by omega)
   simpa using this
  have e2 : minL O[off] [O[off]] = O[off] := by simp [minL]
  (refine le_tm ?_; simp only [LeTm, go_sem, e, e2]; try simp)
 ·rintro k ⟨hk1, hk⟩ K hK
  by_cases hlt : k < n
  ·have d1 : decide ((k : Int) < (n : Int)) = true := by simpa using hlt
   have g1 : (cInts O)[off + k]? = some (.v (.int .i64 O[off + k])) := cInts_get (List.getElem?_eq_getElem (by omega))
   (refine wk1 @d1 ?_;(repeat clear hK K);repeat refine kq fun K hK=>?_)
   refine cxz ?_
   (refine wk1 @g1 ?_;(repeat clear hK K);repeat refine kq fun K hK=>?_)
   refine rnz ?_
   refine hK _ (k + 1) ⟨by omega, by omega⟩ (by omega) ?_
   have e := win_succ (O := O) (off := off) (k := k) (by omega)
   (refine le_tm ?_; simp only [LeTm, go_sem, e, minL_snoc]; try simp)
  ·have d1 : decide ((k : Int) < (n : Int)) = false := by simpa using hlt
   have hke : k = n := by omega
   subst hke
   (refine wk1 @d1 ?_;(repeat clear hK K);repeat refine kq fun K hK=>?_)
   refine cyz ?_
   (refine ekz ?_;repeat clear hK K)
   (refine wk0 ?_;(repeat clear hK K);repeat refine kq fun K hK=>?_)
   exact rpc1 [0] Tryd.results71 @cInts_ren

def setAt (W : List Int) (l : List Int) (x : Int) : List Int := l.foldl (fun w u => w.set u.toNat x) W
theorem setAt_len (l : List Int) (x : Int) : ∀ W, (setAt W l x).length = W.length := by
 induction l with
 | nil => intro W; rfl
 | cons a r ih => intro W; show (setAt (W.set a.toNat x) r x).length = _; rw [ih, List.length_set]
theorem setAt_snoc (W l : List Int) (x y : Int) : setAt W (l ++ [y]) x = (setAt W l x).set y.toNat x := by unfold setAt; rw [List.foldl_append]; rfl
theorem setAt_get (l : List Int) (x : Int) : ∀ (W : List Int) (i : Nat), i < W.length → (∀ a ∈ l, 0 ≤ a) → (setAt W l x)[i]? = if (i : Int) ∈ l then some x else W[i]? := by
 induction l with
 | nil => intro W i _ _; simp [setAt]
 | cons a r ih =>
  intro W i hi h0
  show (setAt (W.set a.toNat x) r x)[i]? = _
  rw [ih _ _ (by rw [List.length_set]; exact hi) (fun b hb => h0 b (List.mem_cons_of_mem _ hb))]
  have ha := h0 a List.mem_cons_self
  by_cases h1 : (i : Int) ∈ r
  ·rw [if_pos h1, if_pos (List.mem_cons_of_mem _ h1)]
  ·rw [if_neg h1]
   by_cases h2 : (i : Int) = a
   ·rw [if_pos (by rw [h2]; exact List.mem_cons_self)]
    have : a.toNat = i := by omega
    rw [this, List.getElem?_set_self hi]
   ·rw [if_neg (by rw [List.mem_cons]; rintro (h | h) <;> contradiction), List.getElem?_set_ne (by omega)]
theorem cInts_set (L : List Int) (i : Nat) (x : Int) : (cInts L).set i (.v (.int .i64 x)) = cInts (L.set i x) := by simp [cInts, List.map_set]

theorem close_fc (O W : List Int) (m k : Nat) (s : Int) (hk : k < m) (hm : m ≤ O.length) (hs : O[k]? = some s) (hu : ∀ j, k < j → j < m → O[j]? ≠ some s) (hW : ∀ j x, k ≤ j → j < m → O[j]? = some x → 0 ≤ x ∧ x < W.length) (hb : m ≤ 140737488355328) (hb2 : W.length ≤ 140737488355328) :
  FC Tryd.prog 50 [.a (.c (.s 0 m)), .i s, .a (.c (.s 1 W.length))] [rInts O, rInts W] (fun r o => o = [rInts O, rInts (setAt W ((O.drop k).take (m - k)) (minL s ((O.drop k).take (m - k))))] ∧ r = .a (.c (.s 0 k))) := by
 refine fc_intro Tryd.func50 rfl (by rw [Tryd.ntmps50]; simp) ?_
 rw [Tryd.ntmps50]
 simp only [enum, rInts]
 have e0 : (m : Int) - 1 = ((m - 1 : Nat) : Int) := by omega
 (refine wk1 (an @cInts_len @e0) ?_;(repeat clear hK K);repeat refine kq fun K hK=>?_)
 refine aw_loop (fun j : Nat => { tm := [(0, .a (.c (.s 0 m))), (1, .i s), (2, .a (.c (.s 1 W.length))), (7, .i j)], hp := [.r ⟨3, 1, true, cInts O⟩, .r ⟨3, 1, true, cInts W⟩], n := 42, pin := 2 }) (fun j => k ≤ j ∧ j < m) (fun j => j) (m - 1) ?_ ?_ ?_
 ·omega
 ·exact lmz
 ·rintro j ⟨hj1, hj2⟩ K hK
  have g1 : (cInts O)[j]? = some (.v (.int .i64 O[j])) := cInts_get (List.getElem?_eq_getElem (by omega))
  by_cases hjk : k < j
  ·have d1 : (O[j] != s) = true := by
    have := hu j hjk hj2
    rw [List.getElem?_eq_getElem (by omega)] at this
    simpa using this
   have e1 : (j : Int) - 1 = ((j - 1 : Nat) : Int) := by omega
   (refine wk1 (an @g1 (an @d1 @cInts_len)) ?_;(repeat clear hK K);repeat refine kq fun K hK=>?_)
   refine cxz ?_
   (refine wk1 @e1 ?_;(repeat clear hK K);repeat refine kq fun K hK=>?_)
   refine rnz ?_
   refine hK _ (j - 1) ⟨by omega, by omega⟩ (by omega) ?_
   exact lmz
  ·have hje : j = k := by omega
   subst hje
   have hOs : O[j] = s := by rw [List.getElem?_eq_getElem (by omega)] at hs; cases hs; rfl
   have d1 : (O[j] != s) = false := by simp [hOs]
   (refine wk1 (an @g1 (an @d1 @cInts_len)) ?_;(repeat clear hK K);repeat refine kq fun K hK=>?_)
   refine cyz ?_
   (refine ekz ?_;repeat clear hK K)
   (refine wk1 @cInts_len ?_;(repeat clear hK K);repeat refine kq fun K hK=>?_)
   (refine lst_cons rfl ?_; intro K1 hK1; refine stp_callσ (ids := []) [0] (minW_fc O j (m - j) (by omega) (by omega) (by omega)) rfl rfl (by simp only [go_sem]) (by first | assumption | kernel_rfl) rfl rfl (by (simp only [List.map_append, List.append_nil, go_sem]) <;> rfl) (by (simp only [pkh, rInts, cInts_ren, go_sem]) <;> rfl) ?_ ?_)
   ·rintro _ _ ⟨rfl, rfl⟩; rfl
   rintro _ _ ⟨rfl, rfl⟩
   (simp only [aInts, aSets, rInts, cInts_up, List.append_nil, List.nil_append, List.length_map, go_sem]; refine hK1 _ ?_; clear hK1 K1)
   generalize hM : minL O[j] ((O.drop j).take (m - j)) = M
   (refine wk1 @cInts_len ?_;(repeat clear hK K);repeat refine kq fun K hK=>?_)
   refine aw_loop (fun i : Nat => { tm := [(0, .a (.c (.s 0 m))), (2, .a (.c (.s 1 W.length))), (7, .i j), (8, .i M), (28, .a (.c (.w 0 j (m - j) 1))), (29, .i ((m - j : Nat) : Int)), (30, .i i)], hp := [.r ⟨3, 1, true, cInts O⟩, .r ⟨3, 1, true, cInts (setAt W ((O.drop j).take i) M)⟩], n := 42, pin := 2 }) (fun i => i ≤ m - j) (fun i => m - j - i) 0 ?_ ?_ ?_
   ·omega
   ·(refine le_tm ?_; simp only [LeTm, go_sem, setAt, List.foldl_nil]; try simp)
   ·rintro i hi K hK
    by_cases hlt : i < m - j
    ·have d2 : decide ((i : Int) < ((m - j : Nat) : Int)) = true := by simp; omega
     have g2 : (cInts O)[j + i]? = some (.v (.int .i64 O[j + i])) := cInts_get (List.getElem?_eq_getElem (by omega))
     have hx := hW (j + i) _ (by omega) (by omega) (List.getElem?_eq_getElem (by omega))
     have e := win_succ (O := O) (off := j) (k := i) (by omega)
     have hl := setAt_len ((O.drop j).take i) M W
     (refine wk1 @d2 ?_;(repeat clear hK K);repeat refine kq fun K hK=>?_)
     refine cxz ?_
     (refine wks1 (an @g2 (an @cInts_len (an @hl @cInts_set))) ?_;(repeat clear hK K);repeat refine kq fun K hK=>?_)
     refine rnz ?_
     refine hK _ (i + 1) (by omega) (by omega) ?_
     simp only [e, setAt_snoc]
     exact lmz
    ·have d2 : decide ((i : Int) < ((m - j : Nat) : Int)) = false := by simp; omega
     have hie : i = m - j := by omega
     subst hie
     (refine wk1 @d2 ?_;(repeat clear hK K);repeat refine kq fun K hK=>?_)
     refine cyz ?_
     (refine ekz ?_;repeat clear hK K)
     (refine wk1 @cInts_len ?_;(repeat clear hK K);repeat refine kq fun K hK=>?_)
     refine rp1 [0, 1] Tryd.results50 @cInts_ren ?_
     rw [← hOs, hM]

theorem takeWhile_take {α : Type} (p : α → Bool) (l : List α) (k : Nat) (h1 : ∀ j x, j < k → l[j]? = some x → p x = true) (h2 : ∀ x, l[k]? = some x → p x = false) : l.takeWhile p = l.take k := by
 induction l generalizing k with
 | nil => simp
 | cons a r ih =>
  cases k with
  | zero => have := h2 a rfl; simp [List.takeWhile_cons, this]
  | succ k =>
   have := h1 0 a (by omega) rfl
   rw [List.takeWhile_cons, if_pos this, List.take_succ_cons, ih k (fun j x hj hx => h1 (j + 1) x (by omega) hx) (fun x hx => h2 x hx)]
def tauOf (t : Bool) (r : List Ar) : List Ar := if t then r.takeWhile fun a => a.1 == 0 else r
theorem arcsT_fc (R : List (List Ar)) (s : Nat) (t : Bool) (hs : s < R.length) (hn : R.length ≤ 140737488355328) (hr : R[s].length ≤ 140737488355328) : FC Tryd.prog 49 [aLts R, .i s, .b t] [] (fun r o => o = [] ∧ r = .a (.c (.t 2 (tArcs (tauOf t R[s]))))) := by
 refine fc_intro Tryd.func49 rfl (by rw [Tryd.ntmps49]; simp) ?_
 rw [Tryd.ntmps49]
 simp only [enum, aLts]
 have hg := List.getElem?_eq_getElem hs
 cases t with
 | false =>
  (refine wk1 (an @tRows_len (an (tRows_get hg) @Bool.not_false)) ?_;(repeat clear hK K);repeat refine kq fun K hK=>?_)
  refine cxz ?_
  (refine wk0 ?_;(repeat clear hK K);repeat refine kq fun K hK=>?_)
  refine rp0 [] Tryd.results49 ?_
  simp [tauOf]
 | true =>
  (refine wk1 (an @tRows_len (an (tRows_get hg) @Bool.not_true)) ?_;(repeat clear hK K);repeat refine kq fun K hK=>?_)
  refine cyz ?_
  (refine wk0 ?_;(repeat clear hK K);repeat refine kq fun K hK=>?_)
  refine aw_loop (fun k : Nat => { tm := [(7, .a (.c (.t 2 (tArcs R[s])))), (8, .i k)], hp := [.r ⟨27, 1, false, [.t 1 (tRows R)]⟩], n := 34, pin := 0 }) (fun k => k ≤ R[s].length ∧ ∀ j x, j < k → R[s][j]? = some x → (x.1 == 0) = true) (fun k => R[s].length - k) 0 ?_ ?_ ?_
  ·exact ⟨by omega, fun j x h => by omega⟩
  ·exact lmz
  ·rintro k ⟨hk, he⟩ K hK
   by_cases hlt : k < R[s].length
   ·have d1 : decide ((k : Int) < (R[s].length : Int)) = true := by simpa using hlt
    have ha0 := tArcs_c0 hlt
    cases q1 : (R[s][k].1 == 0) with
    | true =>
     (refine wk1 (an @d1 (an @q1 (an @ha0 (an @tArcs_len @half2)))) ?_;(repeat clear hK K);repeat refine kq fun K hK=>?_)
     refine cxz ?_
     (refine wk0 ?_;(repeat clear hK K);repeat refine kq fun K hK=>?_)
     refine rnz ?_
     refine hK _ (k + 1) ⟨by omega, fun j x hj hx => ?_⟩ (by omega) ?_
     ·rcases Nat.lt_or_ge j k with h | h
      ·exact he j x h hx
      ·have : j = k := by omega
       subst this
       rw [List.getElem?_eq_getElem hlt] at hx; cases hx; exact q1
     ·exact lmz
    | false =>
     (refine wk1 (an @d1 (an @q1 (an @ha0 (an @tArcs_len @half2)))) ?_;(repeat clear hK K);repeat refine kq fun K hK=>?_)
     refine cyz ?_
     (refine ekz ?_;repeat clear hK K)
     have ek := takeWhile_take (fun a : Ar => a.1 == 0) R[s] k he (fun x hx => by
      first
       | (rw [List.getElem?_eq_getElem hlt] at hx; cases hx; exact q1)
       | (rw [List.getElem?_eq_none (by omega)] at hx; cases hx))
     (refine wk1 (an @tArcs_len (an @half2 @tArcs_take)) ?_;(repeat clear hK K);repeat refine kq fun K hK=>?_)
     refine rp0 [] Tryd.results49 ?_
     simp only [tauOf, if_pos, ek]
   ·have d1 : decide ((k : Int) < (R[s].length : Int)) = false := by simpa using hlt
    (refine wk1 (an @d1 (an @tArcs_len @half2)) ?_;(repeat clear hK K);repeat refine kq fun K hK=>?_)
    refine cyz ?_
    (refine ekz ?_;repeat clear hK K)
    have ek := takeWhile_take (fun a : Ar => a.1 == 0) R[s] k he (fun x hx => by
     first
      | (rw [List.getElem?_eq_getElem hlt] at hx; cases hx; exact q1)
      | (rw [List.getElem?_eq_none (by omega)] at hx; cases hx))
    (refine wk1 (an @tArcs_len (an @half2 @tArcs_take)) ?_;(repeat clear hK K);repeat refine kq fun K hK=>?_)
    refine rp0 [] Tryd.results49 ?_
    simp only [tauOf, if_pos, ek]
open Go.RowKit Go.Shelf
theorem fc_tup {P : Program} {f : FuncId} {args : List AV} {vals : List Value} {a b : Value} (ha : ∀ (g : Gh) (w : World) (vs : List Value), argsR g [] w args vs → vs = vals)
  (h : ∀ w, Calls P f vals.toArray w fun e w' => e = .returned (.tuple #[a, b]) ∧ Fp (fun _ => False) w w') : FC P f args [] (fun x o => o = [] ∧ x = .tup [.c (.v a), .c (.v b)]) := by
 intro g w vs hr hargs
 obtain rfl := ha g w vs hargs
 refine (h w).mono ?_
 rintro e w' ⟨rfl, hf⟩
 refine ⟨_, _, [], g, rfl, ⟨rfl, rfl⟩, ?_, ⟨Nat.le_refl _, Ext.refl _ _⟩, fun ℓ hl => ?_, ⟨[a, b], rfl, rfl, fun i x hx => ?_⟩, hf.mono (fun _ _ h => h.elim)⟩
 ·exact ⟨fun q hq => Nat.lt_of_lt_of_le (hr.ml q hq) hf.size, fun ℓ hl => hr.md ℓ hl, hr.inj, fun id r e => by simp at e, fun id kv e => by simp at e, hr.gl.keep hf.size (fun k hk _ => hf.block k hk (fun h => h)) (fun _ _ h => h)⟩
 ·cases ℓ with
  | ob i => rcases hl with ⟨r, e, _⟩ | ⟨kv, e⟩ <;> simp at e
  | cl i j => obtain ⟨r, k, cs, e, _⟩ := hl; simp at e
 ·match i, hx with
  | 0, hx => simp at hx; subst hx; exact ⟨a, rfl, rfl⟩
  | 1, hx => simp at hx; subst hx; exact ⟨b, rfl, rfl⟩
  | i + 2, hx => simp at hx
theorem mul1_fc (n : Nat) (hn : n ≤ 1000000) : FC Tryd.prog 60 [.a (.c (.v (.int .u64 1))), .a (.c (.v (.int .u64 n)))] [] (fun x o => o = [] ∧ x = .tup [.c (.v (.int .u64 0)), .c (.v (.int .u64 n))]) := by
 refine fc_tup (vals := [.int .u64 1, .int .u64 n]) (fun g w vs hv => ?_) fun w => ?_
 ·obtain ⟨h0, h1⟩ := hv
  obtain ⟨v, e1, e2⟩ := h1 0 _ rfl
  obtain ⟨u, e3, e4⟩ := h1 1 _ rfl
  match vs, h0 with
  | [x, y], _ => simp at e1 e3; subst e1; subst e3; rw [show x = _ from e2, show y = _ from e4]
 ·have hmul := Any.bits_Mul Tryd.bitsMul 1 n (by omega) (by omega) w
  rw [Nat.one_mul, Nat.div_eq_of_lt (by omega : n < 18446744073709551616), Nat.mod_eq_of_lt (by omega : n < 18446744073709551616)] at hmul
  exact hmul.mono fun e w' h => ⟨h.1, by rw [h.2]; exact Fp.refl _ _⟩

def filR (x : Int) (j m : Nat) : List Int := List.replicate j x ++ List.replicate m 0
theorem filR_len (x : Int) (j m : Nat) : (filR x j m).length = j + m := by simp [filR]
theorem filR_set (x : Int) (l : Nat) : ∀ j m, l ≤ m → setC (cInts (filR x j m)) j (cInts (List.replicate l x)) = cInts (filR x (j + l) (m - l)) := by
 induction l with
 | zero => intro j m _; rfl
 | succ l ih =>
  intro j m h
  rw [List.replicate_succ]
  show setC ((cInts (filR x j m)).set j (.v (.int .i64 x))) (j + 1) (cInts (List.replicate l x)) = _
  have e : (cInts (filR x j m)).set j (.v (.int .i64 x)) = cInts (filR x (j + 1) (m - 1)) := by
   rw [cInts_set, filR, List.set_append_right _ _ (by simp), filR]
   congr 1
   obtain ⟨m', rfl⟩ : ∃ m', m = m' + 1 := ⟨m - 1, by omega⟩
   rw [List.length_replicate, Nat.sub_self, List.replicate_succ, List.set_cons_zero, Nat.add_sub_cancel, List.replicate_succ' (n := j), List.append_assoc]
   rfl
  rw [e, ih (j + 1) (m - 1) (by omega), show j + 1 + l = j + (l + 1) from by omega, show m - 1 - l = m - (l + 1) from by omega]
theorem filR_take (x : Int) (j m l : Nat) (h : l ≤ j) : (cInts (filR x j m)).take l = cInts (List.replicate l x) := by
 rw [cInts_take, filR, List.take_append_of_le_length (by simpa using h), List.take_replicate, Nat.min_eq_left h]

theorem repeat_fc (x : Int) (n : Nat) (h1 : 1 ≤ n) (hn : n ≤ 1000000) : FC Tryd.prog 34 [.a (.c (.s 0 1)), .i n] [rInts [x]] (fun r o => o = [rInts [x], rInts (List.replicate n x)] ∧ r = .a (.c (.s 1 n))) := by
 refine fc_intro Tryd.func34 rfl (by rw [Tryd.ntmps34]; simp) ?_
 rw [Tryd.ntmps34]
 simp only [enum, rInts]
 have d0 : decide ((n : Int) < 0) = false := by simp
 have w1 : IntKind.u64.wrap (1 : Int) = 1 := IntWalk.u64_in _ (by omega)
 have w2 : IntKind.u64.wrap (n : Int) = n := IntWalk.u64_in _ (by omega)
 have w3 : IntKind.i64.wrap (n : Int) = n := IntWalk.i64_in _ (by omega)
 have u1 := Tryd.underlying3
 have u2 := Tryd.underlying107
 have d3 : decide ((n : Int) > 9223372036854775807) = false := by simp; omega
 have d4 : decide ((0 : Int) > 0) = false := by simp
 (refine wk1 @d0 ?_;(repeat clear hK K);repeat refine kq fun K hK=>?_)
 refine cyz ?_
 (refine wk1 (an @w1 (an @w2 (an @u1 (an @u2 @Int.natCast_one)))) ?_;(repeat clear hK K);repeat refine kq fun K hK=>?_)
 (refine ckz (mul1_fc n hn) ?_; intro K1 hK1)
 rintro _ _ ⟨rfl, rfl⟩
 (refine bkz ?_; clear hK1 K1)
 (refine wk1 (an @d3 @d4) ?_;(repeat clear hK K);repeat refine kq fun K hK=>?_)
 refine cyz ?_
 (refine wk1 (an @w3 (an @u1 @u2)) ?_;(repeat clear hK K);repeat refine kq fun K hK=>?_)
 (refine lst_cons rfl ?_; intro K1 hK1; refine stp_copy (l := 1) rfl rfl (by simp only [go_sem] <;> rfl) rfl (by simp only [go_sem] <;> rfl) (by simp only [go_sem, rWin] <;> rfl) (by simp only [go_sem, rWin] <;> rfl) (by simp only [go_sem] <;> rfl) (by simp only [go_sem] <;> rfl) (by omega) (by omega) (by simp only [go_sem] <;> omega) rfl ?_ ?_ ?_ ?_)
 ·rfl
 ·rfl
 ·simp only [go_sem, List.length_replicate]; omega
 ·have f0 : setC (List.replicate n (C.v (.int .i64 0))) 0 (List.take 1 (cInts [x])) = cInts (filR x 1 (n - 1)) := by
   have h := filR_set x 1 0 n h1
   rw [Nat.zero_add] at h
   rw [← h]
   have e1 : cInts (filR x 0 n) = List.replicate n (C.v (.int .i64 0)) := by simp [filR, cInts]
   rw [e1]; rfl
  simp only [go_sem, f0]
  refine hK1 _ ?_; clear hK1 K1
  (refine wk0 ?_;(repeat clear hK K);repeat refine kq fun K hK=>?_)
  refine aw_loop (fun j : Nat => { tm := [(7, .a (.c (.s 1 n))), (8, .i j)], hp := [.r ⟨3, 1, true, cInts [x]⟩, .r ⟨3, 1, true, cInts (filR x j (n - j))⟩], n := 48, pin := 1 }) (fun j => 1 ≤ j ∧ j ≤ n) (fun j => n - j) 1 ?_ ?_ ?_
  ·omega
  ·exact lmz
  ·rintro j ⟨hj1, hj⟩ K hK
   have hfl := filR_len x j (n - j)
   by_cases hlt : j < n
   ·have d1 : decide ((j : Int) < (n : Int)) = true := by simpa using hlt
    (refine wk1 @d1 ?_;(repeat clear hK K);repeat refine kq fun K hK=>?_)
    refine cxz ?_
    (refine wk0 ?_;(repeat clear hK K);repeat refine kq fun K hK=>?_)
    (refine aw_regionV [] [(0, 0, 0), (1, 0, 0), (2, 0, 0), (3, 0, 0), (4, 0, 0), (5, 0, 0), (6, 0, 0), (7, 2, 0), (8, 0, 0), (9, 0, 0)] (by kernel_rfl) (by kernel_rfl) (by intro c st h; simp [ThenA, InBl, Ret] at h) ?_)
    (refine vk0 ?_; repeat clear hK K)
    (refine v_3 rfl rfl rfl ?_; intro K1 hK1; refine stp_copy (l := min j (n - j)) rfl rfl (by simp only [go_sem] <;> rfl) rfl (by simp only [go_sem] <;> rfl) (by simp only [go_sem, rWin] <;> rfl) (by simp only [go_sem, rWin] <;> rfl) (by simp only [go_sem] <;> rfl) (by simp only [go_sem] <;> rfl) rfl (by omega) (by simp only [go_sem] <;> omega) rfl ?_ ?_ ?_ ?_)
    ·simp only [go_sem, filR_take x j (n - j) _ (Nat.min_le_left _ _), cInts_one]
    ·simp only [go_sem, filR_take x j (n - j) _ (Nat.min_le_left _ _), cInts_len, List.length_replicate]
    ·simp only [go_sem, cInts_len, hfl]; omega
    ·simp only [go_sem, filR_take x j (n - j) _ (Nat.min_le_left _ _), filR_set x _ j (n - j) (Nat.min_le_right _ _)]
     refine hK1 _ ?_; clear hK1 K1
     (refine vk0 ?_; repeat clear hK K)
     refine v_nil ⟨by simp, by simp, ?_⟩
     simp only [ThenA, InBl]
     refine hK _ (j + min j (n - j)) ⟨by omega, by omega⟩ (by omega) ?_
     have e : n - (j + min j (n - j)) = n - j - min j (n - j) := by omega
     simp only [e]
     (refine le_tm ?_; simp only [LeTm, go_sem, Int.natCast_add]; try simp)
   ·have d1 : decide ((j : Int) < (n : Int)) = false := by simpa using hlt
    have hje : j = n := by omega
    subst hje
    (refine wk1 @d1 ?_;(repeat clear hK K);repeat refine kq fun K hK=>?_)
    refine cyz ?_
    (refine ekz ?_;repeat clear hK K)
    (refine wk0 ?_;(repeat clear hK K);repeat refine kq fun K hK=>?_)
    refine rp1 [0, 1] Tryd.results34 @cInts_ren ?_
    rw [Nat.sub_self, filR, List.replicate_zero, List.append_nil]
attribute [local go_sem] List.set_cons_zero List.set_cons_succ List.map_cons List.map_nil List.take_succ_cons List.take_zero List.drop_zero List.drop_succ_cons C.pl C.one List.all_cons List.all_nil Bool.and_true
def orL : List Int → Int
 | [] => 0
 | x :: r => if x ≠ 0 then x else orL r
theorem cmpOr_fc (xs : List Int) (hn : xs.length ≤ 100000000) : FC Tryd.prog 47 [aInts xs] [] (fun r o => o = [] ∧ r = .i (orL xs)) := by
 refine fc_intro Tryd.func47 rfl (by rw [Tryd.ntmps47]; simp) ?_
 rw [Tryd.ntmps47]
 simp only [enum, aInts]
 (refine wk1 @tInts_len ?_;(repeat clear hK K);repeat refine kq fun K hK=>?_)
 refine aw_loop (fun k : Nat => { tm := [(3, .i 0), (6, .a (.c (.t 1 (tInts xs)))), (7, .i xs.length), (8, .i k)], hp := [], n := 18, pin := 0 }) (fun k => k ≤ xs.length ∧ orL xs = orL (xs.drop k)) (fun k => xs.length - k) 0 ?_ ?_ ?_
 ·exact ⟨by omega, rfl⟩
 ·exact lmz
 ·rintro k ⟨hk, he⟩ K hK
  (refine wk0 ?_;(repeat clear hK K);repeat refine kq fun K hK=>?_)
  (refine aw_cnd ?_; intro X Y hX hY; simp only [go_sem])
  refine ⟨fun h => hX ?_, fun h => hY ?_⟩
  ·have hlt : k < xs.length := by simpa using h
   rw [drop_get hlt] at he
   clear hX hY X Y h
   (refine wk1 (an @tInts_len (tInts_get (List.getElem?_eq_getElem hlt))) ?_;(repeat clear hK K);repeat refine kq fun K hK=>?_)
   (refine aw_cnd ?_; intro X Y hX hY; simp only [go_sem])
   refine ⟨fun h => hX ?_, fun h => hY ?_⟩
   ·clear hX hY X Y
    (refine wk0 ?_;(repeat clear hK K);repeat refine kq fun K hK=>?_)
    refine rq0 Tryd.results47 ?_
    have : xs[k] ≠ 0 := by simpa using h
    rw [he, orL, if_pos this]
   ·clear hX hY X Y
    (refine wk0 ?_;(repeat clear hK K);repeat refine kq fun K hK=>?_)
    refine rnz ?_
    refine hK _ (k + 1) ⟨by omega, ?_⟩ (by omega) ?_
    ·have : xs[k] = 0 := by simpa using h
     rw [he, orL, if_neg (by simp [this])]
    exact lmz
  ·clear hX hY X Y
   have hge : k = xs.length := by simp at h; omega
   (refine ekz ?_;repeat clear hK K)
   (refine wk0 ?_;(repeat clear hK K);repeat refine kq fun K hK=>?_)
   refine rq0 Tryd.results47 ?_
   have hd : xs.drop k = [] := List.drop_eq_nil_of_le (by omega)
   rw [he, hd]; try rfl
theorem orL_cmp (a b : Ar) : orL [cmpI a.1 b.1, cmpI a.2 b.2] = cmpR a b := by
 simp only [orL, cmpR]
 split
 ·rfl
 ·split
  ·rfl
  ·rename_i h; simpa using Eq.symm (by simpa using h)
theorem rcmp_fc (a b : Ar) : FC Tryd.prog 26 [.a (.g [.v (.int .i64 a.1), .v (.int .i64 a.2)]), .a (.g [.v (.int .i64 b.1), .v (.int .i64 b.2)])] [] (fun r o => o = [] ∧ r = .i (cmpR a b)) := by
 refine fc_intro Tryd.func26 rfl (by rw [Tryd.ntmps26]; simp) ?_
 rw [Tryd.ntmps26]
 simp only [enum]
 (refine wk1 (an @List.set_cons_zero.{0} @List.set_cons_succ.{0}) ?_;(repeat clear hK K);repeat refine kq fun K hK=>?_)
 (refine aw_regionV [] [(0, 0, 0), (2, 0, 0), (5, 0, 0), (7, 0, 0), (1, 1, 4), (3, 1, 4), (6, 1, 9), (8, 1, 9), (4, 2, 0), (9, 2, 0), (10, 2, 0), (11, 2, 0), (12, 2, 0)] (by kernel_rfl) (by kernel_rfl) (by intro c st h; simp [ThenA, InBl, Ret] at h) ?_)
 (refine vk0 ?_; repeat clear hK K)
 (refine v_2 rfl rfl ?_; intro K1 hK1; refine stpX_mono ?_; refine xv [] (cmp_fc a.1 b.1) ?_ ?_)
 ·rintro _ _ ⟨rfl, rfl⟩ i o hi hl; simp at hl
 rintro _ _ ⟨rfl, rfl⟩
 (refine bkz ?_; clear hK1 K1)
 (refine vk0 ?_; repeat clear hK K)
 (refine v_2 rfl rfl ?_; intro K1 hK1; refine stpX_mono ?_; refine xv [] (cmp_fc a.2 b.2) ?_ ?_)
 ·rintro _ _ ⟨rfl, rfl⟩ i o hi hl; simp at hl
 rintro _ _ ⟨rfl, rfl⟩
 (refine bkz ?_; clear hK1 K1)
 (refine vk0 ?_; repeat clear hK K)
 (refine v_3 rfl rfl rfl ?_; intro K1 hK1; refine stp_ev rfl ?_; simp only [go_sem, List.set_cons_zero, List.set_cons_succ]; (first | refine hK1 _ ?_ | refine andk (hK1 _ ?_)); clear hK1 K1)
 (refine v_le (le_frz (r := ⟨3, 1, true, cInts [cmpI a.1 b.1, cmpI a.2 b.2]⟩) 2 (tInts [cmpI a.1 b.1, cmpI a.2 b.2]) rfl (fz_c _) (show 0 < (1 : Nat) by omega)) ?_; simp only [ST.frz, A0.frz, AV.frz, C.frz, Nat.le_refl, List.set_cons_zero, List.set_cons_succ, go_sem, tInts_len, tInts_take, List.length_cons, List.length_nil, List.take_succ_cons, List.take_zero])
 (refine vk0 ?_; repeat clear hK K)
 (refine v_2 rfl rfl ?_; intro K1 hK1; refine stpX_mono ?_; refine stpX_call (ids := []) [] (cmpOr_fc [cmpI a.1 b.1, cmpI a.2 b.2] (by simp)) rfl rfl (by simp only [go_sem]) (by kernel_rfl) rfl rfl rfl (by (simp only [List.map_append, List.append_nil, go_sem]) <;> rfl) (by (simp only [pkh, aInts, go_sem]) <;> rfl) ?_ ?_)
 ·rintro _ _ ⟨rfl, rfl⟩ i o hi hl; simp at hl
 rintro _ _ ⟨rfl, rfl⟩
 (refine bkz ?_; clear hK1 K1)
 (refine v_3 rfl rfl rfl ?_; intro K1 hK1; refine stp_ev rfl ?_; simp only [go_sem]; (first | refine hK1 _ ?_ | refine andk (hK1 _ ?_)); clear hK1 K1)
 (refine vk0 ?_; repeat clear hK K)
 refine rp0 [] Tryd.results26 ?_
 rw [orL_cmp]
def OkA (n : Nat) (a : Ar) : Prop := 0 ≤ a.1 ∧ a.1 ≤ 1025 ∧ 0 ≤ a.2 ∧ a.2 < (n : Int)
theorem looB_yes {R : List (List Ar)} (h1 : 1 ≤ R.length) (h2 : R.length ≤ 16384) (h3 : totA (R.take R.length) ≤ 262144) (h4 : ∀ i r, i < R.length → R[i]? = some r → ∀ a ∈ r, OkA R.length a) : looB R = true := by
 rw [List.take_length] at h3
 rw [looB, decide_eq_true_iff]
 refine ⟨h1, h2, h3, fun r hr a ha => ?_⟩
 obtain ⟨i, hi⟩ := List.mem_iff_getElem?.1 hr
 exact h4 i r (List.getElem?_eq_some_iff.1 hi).1 hi a ha
theorem looB_tot {R : List (List Ar)} {k : Nat} (h : 262144 < totA (R.take k)) : looB R = false := by
 rw [looB, decide_eq_false_iff_not]
 intro h2
 have := totA_le R k
 have := h2.2.2.1
 unfold maxA at this
 omega
theorem looB_arc {R : List (List Ar)} {i j : Nat} {r : List Ar} {a : Ar} (hr : R[i]? = some r) (ha : r[j]? = some a) (h : ¬ OkA R.length a) : looB R = false := by
 rw [looB, decide_eq_false_iff_not]
 exact fun h2 => h (h2.2.2.2 r (List.mem_of_getElem? hr) a (List.mem_of_getElem? ha))
theorem looB_few {R : List (List Ar)} (h : ¬ 1 ≤ R.length) : looB R = false := by
 rw [looB, decide_eq_false_iff_not]; exact fun h2 => h h2.1
theorem looB_many {R : List (List Ar)} (h : ¬ R.length ≤ 16384) : looB R = false := by
 rw [looB, decide_eq_false_iff_not]; exact fun h2 => h h2.2.1
theorem valB_uns {R : List (List Ar)} {i j : Nat} {r : List Ar} {a b : Ar} (hr : R[i]? = some r) (ha : r[j]? = some a) (hb : r[j + 1]? = some b) (h : ltA a b = false) : valB R = false := by
 rw [valB, decide_eq_false_iff_not]
 exact fun h2 => sortA_not ha hb h (h2.2 r (List.mem_of_getElem? hr))
theorem valB_yes {R : List (List Ar)} (h : looB R = true) (h2 : ∀ i r, i < R.length → R[i]? = some r → SortA r) : valB R = true := by
 rw [looB, decide_eq_true_iff] at h
 rw [valB, decide_eq_true_iff]
 refine ⟨h, fun r hr => ?_⟩
 obtain ⟨i, hi⟩ := List.mem_iff_getElem?.1 hr
 exact h2 i r (List.getElem?_eq_some_iff.1 hi).1 hi


set_option maxHeartbeats 1000000 in
theorem loose_fc (R : List (List Ar)) (hn : R.length ≤ 140737488355328) (hr : ∀ r ∈ R, r.length ≤ 140737488355328) : FC Tryd.prog 25 [aLts R] [] (fun r o => o = [] ∧ r = .b (looB R)) := by
 refine fc_intro Tryd.func25 rfl (by rw [Tryd.ntmps25]; simp) ?_
 rw [Tryd.ntmps25]
 simp only [enum, aLts]
 by_cases g1 : (R.length : Int) < 1
 ·have e1 : decide ((R.length : Int) < 1) = true := by simpa using g1
  (refine wk1 (an @e1 (an @tRows_len (an @List.set_cons_zero.{0} @List.set_cons_succ.{0}))) ?_;(repeat clear hK K);repeat refine kq fun K hK=>?_)
  refine cxz ?_
  (refine wk0 ?_;(repeat clear hK K);repeat refine kq fun K hK=>?_)
  refine rp0 [] Tryd.results25 ?_
  rw [looB_few (by omega)]
 have e1 : decide ((R.length : Int) < 1) = false := by simpa using g1
 by_cases g2 : (R.length : Int) > 16384
 ·have e2 : decide ((R.length : Int) > 16384) = true := by simpa using g2
  (refine wk1 (an @e1 (an @e2 (an @tRows_len (an @List.set_cons_zero.{0} @List.set_cons_succ.{0})))) ?_;(repeat clear hK K);repeat refine kq fun K hK=>?_)
  refine cxz ?_
  (refine wk0 ?_;(repeat clear hK K);repeat refine kq fun K hK=>?_)
  refine rp0 [] Tryd.results25 ?_
  rw [looB_many (by omega)]
 have e2 : decide ((R.length : Int) > 16384) = false := by simpa using g2
 (refine wk1 (an @e1 (an @e2 (an @tRows_len (an @List.set_cons_zero.{0} @List.set_cons_succ.{0})))) ?_;(repeat clear hK K);repeat refine kq fun K hK=>?_)
 refine cyz ?_
 (refine wk1 @tRows_len ?_;(repeat clear hK K);repeat refine kq fun K hK=>?_)
 refine aw_loop (fun k : Nat => { tm := [(1, .a (.c (.p 0 0))), (3, .i R.length), (4, .i (262144 - (totA (R.take k) : Int))), (19, .a (.c (.t 1 (tRows R)))), (20, .i R.length), (21, .i k)], hp := [.r ⟨27, 1, false, [.t 1 (tRows R)]⟩], n := 60, pin := 0 }) (fun k => k ≤ R.length ∧ totA (R.take k) ≤ 262144 ∧ ∀ i r, i < k → R[i]? = some r → ∀ a ∈ r, OkA R.length a) (fun k => R.length - k) 0 ?_ ?_ ?_
 ·exact ⟨by omega, by simp [totA], fun i _ hi => by omega⟩
 ·(refine le_tm ?_; simp only [LeTm, go_sem, List.take_zero, totA, List.map_nil, List.sum_nil, Int.natCast_zero, Int.sub_zero]; try simp)
 ·rintro k ⟨hk, hto, hc⟩ K hK
  by_cases hlt : k < R.length
  ·have hl1 : decide ((k : Int) < (R.length : Int)) = true := by simpa using hlt
   have hgk := List.getElem?_eq_getElem hlt
   have hrk := hr _ (List.getElem_mem hlt)
   have htk := totA_take hlt
   generalize hW : totA (R.take k) = W at *
   (refine wk1 @hl1 ?_;(repeat clear hK K);repeat refine kq fun K hK=>?_)
   refine cxz ?_
   (refine wk1 (an (tRows_get hgk) (an @tRows_len (an @tArcs_len @half2))) ?_;(repeat clear hK K);repeat refine kq fun K hK=>?_)
   (refine aw_cnd ?_; intro X Y hX hY; simp only [go_sem])
   refine ⟨fun h => hX ?_, fun h => hY ?_⟩
   ·have hbig : 262144 < totA (R.take (k + 1)) := by simp at h; omega
    clear hX hY X Y
    (refine wk0 ?_;(repeat clear hK K);repeat refine kq fun K hK=>?_)
    refine rp0 [] Tryd.results25 ?_
    rw [looB_tot hbig]
   ·have hsm : totA (R.take (k + 1)) ≤ 262144 := by simp at h; omega
    have e3 : (262144 - (W : Int) - (R[k].length : Int)) = 262144 - (totA (R.take (k + 1)) : Int) := by omega
    clear hX hY X Y
    (refine wk1 (an @tArcs_len (an @half2 @e3)) ?_;(repeat clear hK K);repeat refine kq fun K hK=>?_)
    refine aw_loop (fun j : Nat => { tm := [(1, .a (.c (.p 0 0))), (3, .i R.length), (4, .i (262144 - (totA (R.take (k + 1)) : Int))), (19, .a (.c (.t 1 (tRows R)))), (20, .i R.length), (21, .i k), (33, .a (.c (.t 2 (tArcs R[k])))), (34, .i R[k].length), (35, .i j)], hp := [.r ⟨27, 1, false, [.t 1 (tRows R)]⟩], n := 60, pin := 0 }) (fun j => j ≤ R[k].length ∧ ∀ i a, i < j → R[k][i]? = some a → OkA R.length a) (fun j => R[k].length - j) 0 ?_ ?_ ?_
    ·exact ⟨by omega, fun i _ hi => by omega⟩
    ·exact lmz
    ·rintro j ⟨hj, hj2⟩ K hK
     by_cases hltj : j < R[k].length
     ·have hl2 : decide ((j : Int) < (R[k].length : Int)) = true := by simpa using hltj
      have hgj := List.getElem?_eq_getElem hltj
      have haj := tArcs_at hltj
      (refine wk1 @hl2 ?_;(repeat clear hK K);repeat refine kq fun K hK=>?_)
      refine cxz ?_
      have bad : ¬ OkA R.length R[k][j] → looB R = false := fun h => looB_arc hgk hgj h
      by_cases c1 : R[k][j].1 < 0
      ·have d1 : decide (R[k][j].1 < 0) = true := by simpa using c1
       (refine wk1 (an @d1 (an @tArcs_len (an @half2 @haj))) ?_;(repeat clear hK K);repeat refine kq fun K hK=>?_)
       refine cxz ?_
       (refine wk0 ?_;(repeat clear hK K);repeat refine kq fun K hK=>?_)
       refine rp0 [] Tryd.results25 ?_
       rw [bad (fun h => by have := h.1; omega)]
      have d1 : decide (R[k][j].1 < 0) = false := by simpa using c1
      by_cases c2 : R[k][j].1 > 1025
      ·have d2 : decide (R[k][j].1 > 1025) = true := by simpa using c2
       (refine wk1 (an @d1 (an @d2 (an @tArcs_len (an @half2 @haj)))) ?_;(repeat clear hK K);repeat refine kq fun K hK=>?_)
       refine cxz ?_
       (refine wk0 ?_;(repeat clear hK K);repeat refine kq fun K hK=>?_)
       refine rp0 [] Tryd.results25 ?_
       rw [bad (fun h => by have := h.2.1; omega)]
      have d2 : decide (R[k][j].1 > 1025) = false := by simpa using c2
      by_cases c3 : R[k][j].2 < 0
      ·have d3 : decide (R[k][j].2 < 0) = true := by simpa using c3
       (refine wk1 (an @d1 (an @d2 (an @d3 (an @tArcs_len (an @half2 @haj))))) ?_;(repeat clear hK K);repeat refine kq fun K hK=>?_)
       refine cxz ?_
       (refine wk0 ?_;(repeat clear hK K);repeat refine kq fun K hK=>?_)
       refine rp0 [] Tryd.results25 ?_
       rw [bad (fun h => by have := h.2.2.1; omega)]
      have d3 : decide (R[k][j].2 < 0) = false := by simpa using c3
      by_cases c4 : R[k][j].2 ≥ (R.length : Int)
      ·have d4 : decide (R[k][j].2 ≥ (R.length : Int)) = true := by simpa using c4
       (refine wk1 (an @d1 (an @d2 (an @d3 (an @d4 (an @tArcs_len (an @half2 @haj)))))) ?_;(repeat clear hK K);repeat refine kq fun K hK=>?_)
       refine cxz ?_
       (refine wk0 ?_;(repeat clear hK K);repeat refine kq fun K hK=>?_)
       refine rp0 [] Tryd.results25 ?_
       rw [bad (fun h => by have := h.2.2.2; omega)]
      have d4 : decide (R[k][j].2 ≥ (R.length : Int)) = false := by simpa using c4
      have hck : OkA R.length R[k][j] := ⟨by omega, by omega, by omega, by omega⟩
      (refine wk1 (an @d1 (an @d2 (an @d3 (an @d4 (an @tArcs_len (an @half2 @haj)))))) ?_;(repeat clear hK K);repeat refine kq fun K hK=>?_)
      refine cyz ?_
      (refine wk0 ?_;(repeat clear hK K);repeat refine kq fun K hK=>?_)
      refine rnz ?_
      refine hK _ (j + 1) ⟨by omega, fun i a hi ha => ?_⟩ (by omega) ?_
      ·by_cases e : i = j
       ·subst e; rw [hgj] at ha; cases ha; exact hck
       ·exact hj2 i a (by omega) ha
      ·refine Le.trans (le_pick [0] rfl rfl) ?_
       (try simp only [List.set_nil, List.take_nil, List.take_zero, List.map_append, go_sem])
       exact lmz
     ·have hl2 : decide ((j : Int) < (R[k].length : Int)) = false := by simpa using hltj
      have hje : j = R[k].length := by omega
      (refine wk1 @hl2 ?_;(repeat clear hK K);repeat refine kq fun K hK=>?_)
      refine cyz ?_
      (refine ekz ?_;repeat clear hK K)
      (refine wk0 ?_;(repeat clear hK K);repeat refine kq fun K hK=>?_)
      refine rnz ?_
      refine hK _ (k + 1) ⟨by omega, hsm, fun i r hi hir a ha => ?_⟩ (by omega) ?_
      ·by_cases e : i = k
       ·subst e; rw [hgk] at hir; cases hir
        obtain ⟨q, hq⟩ := List.mem_iff_getElem?.1 ha
        exact hj2 q a (by rw [hje]; exact (List.getElem?_eq_some_iff.1 hq).1) hq
       ·exact hc i r (by omega) hir a ha
      ·exact lmz
  ·have hl1 : decide ((k : Int) < (R.length : Int)) = false := by simpa using hlt
   have hke : k = R.length := by omega
   (refine wk1 @hl1 ?_;(repeat clear hK K);repeat refine kq fun K hK=>?_)
   refine cyz ?_
   (refine ekz ?_;repeat clear hK K)
   (refine wk0 ?_;(repeat clear hK K);repeat refine kq fun K hK=>?_)
   refine rp0 [] Tryd.results25 ?_
   rw [looB_yes (by omega) (by omega) (by rw [← hke]; exact hto) (by rw [← hke]; intro i r hi; rw [hke]; exact hc i r hi)]

set_option maxHeartbeats 1000000 in
theorem valid_fc (R : List (List Ar)) (hn : R.length ≤ 140737488355328) (hr : ∀ r ∈ R, r.length ≤ 140737488355328) : FC Tryd.prog 13 [aLts R] [] (fun r o => o = [] ∧ r = .b (valB R)) := by
 refine fc_intro Tryd.func13 rfl (by rw [Tryd.ntmps13]; simp) ?_
 rw [Tryd.ntmps13]
 simp only [enum, aLts]
 (repeat (first | (refine aw_seq ?_; intro K hK) | refine aw_block ?_ | refine aw_region ?_ | (refine lst_x rfl rfl ?_; intro K1 hK1; simp only [go_sem, List.set_cons_zero, List.set_cons_succ, C.pl, C.one, List.all_cons, List.all_nil, Bool.and_true, List.take_succ_cons, List.take_zero, List.drop_zero]; (first | refine hK1 _ ?_ | refine andk (hK1 _ ?_)); clear hK1 K1) | ((first | refine lst_nil ?_ | refine aw_skip ?_); refine hK _ ?_; clear hK K)))
 (refine ckz (loose_fc R hn hr) ?_; intro K1 hK1)
 rintro _ _ ⟨rfl, rfl⟩
 (refine bkz ?_; clear hK1 K1)
 by_cases g0 : looB R = true
 rotate_left
 ·have g0' : looB R = false := by simpa using g0
  (refine wk1 (an @g0' @Bool.not_false) ?_;(repeat clear hK K);repeat refine kq fun K hK=>?_)
  refine cxz ?_
  (refine wk0 ?_;(repeat clear hK K);repeat refine kq fun K hK=>?_)
  refine rp0 [] Tryd.results13 ?_
  rw [valB_no g0']
 (refine wk1 (an @g0 @Bool.not_true) ?_;(repeat clear hK K);repeat refine kq fun K hK=>?_)
 refine cyz ?_
 (refine wk1 @tRows_len ?_;(repeat clear hK K);repeat refine kq fun K hK=>?_)
 refine aw_loop (fun k : Nat => { tm := [(1, .a (.c (.p 0 0))), (10, .a (.c (.t 1 (tRows R)))), (11, .i R.length), (12, .i k)], hp := [.r ⟨27, 1, false, [.t 1 (tRows R)]⟩], n := 34, pin := 0 }) (fun k => k ≤ R.length ∧ ∀ i r, i < k → R[i]? = some r → SortA r) (fun k => R.length - k) 0 ?_ ?_ ?_
 ·exact ⟨by omega, fun i _ hi => by omega⟩
 ·exact lmz
 ·rintro k ⟨hk, hc⟩ K hK
  by_cases hlt : k < R.length
  ·have hl1 : decide ((k : Int) < (R.length : Int)) = true := by simpa using hlt
   have hgk := List.getElem?_eq_getElem hlt
   have hrk := hr _ (List.getElem_mem hlt)
   (refine wk1 @hl1 ?_;(repeat clear hK K);repeat refine kq fun K hK=>?_)
   refine cxz ?_
   (refine wk1 (an (tRows_get hgk) @tRows_len) ?_;(repeat clear hK K);repeat refine kq fun K hK=>?_)
   refine aw_loop (fun j : Nat => { tm := [(1, .a (.c (.p 0 0))), (10, .a (.c (.t 1 (tRows R)))), (11, .i R.length), (12, .i k), (4, .a (.c (.t 2 (tArcs R[k])))), (5, .i (j + 1 : Nat))], hp := [.r ⟨27, 1, false, [.t 1 (tRows R)]⟩], n := 34, pin := 0 }) (fun j => j ≤ R[k].length ∧ ∀ i a b, i < j → R[k][i]? = some a → R[k][i + 1]? = some b → ltA a b = true) (fun j => R[k].length - j) 0 ?_ ?_ ?_
   ·exact ⟨by omega, fun i _ _ hi => by omega⟩
   ·exact lmz
   ·rintro j ⟨hj, hj2⟩ K hK
    by_cases hltj : j + 1 < R[k].length
    ·have hl2 : decide (((j + 1 : Nat) : Int) < (R[k].length : Int)) = true := by simp; omega
     have hltj0 : j < R[k].length := by omega
     have hgj := List.getElem?_eq_getElem hltj0
     have hgj1 := List.getElem?_eq_getElem hltj
     have haj := tArcs_at hltj0
     have haj1 := tArcs_at hltj
     have e1 : ((j + 1 : Nat) : Int) - 1 = (j : Int) := by omega
     (refine wk1 (an @hl2 (an @tArcs_len @half2)) ?_;(repeat clear hK K);repeat refine kq fun K hK=>?_)
     refine cxz ?_
     (refine wk0 ?_;(repeat clear hK K);repeat refine kq fun K hK=>?_)
     (refine aw_regionU 9 [(0, 0), (1, 0), (2, 0), (3, 0), (4, 1), (5, 0), (6, 0), (7, 0), (8, 1), (9, 2), (10, 0)] (by kernel_rfl) (by kernel_rfl) (by intro c st h; simp [ThenA, InBl, Ret] at h) ?_)
     (refine uk1 (an @e1 (an @tArcs_len (an @tArcs_len (an @half2 (an @haj @haj1))))) ?_; repeat clear hK K)
     (refine uckz (rcmp_fc R[k][j] R[k][j + 1]) ?_; intro K1 hK1)
     rintro _ _ ⟨rfl, rfl⟩
     (refine bkz ?_; clear hK1 K1)
     cases hlt2 : ltA R[k][j] R[k][j + 1] with
     | false =>
      (refine uk1 (an @cmpR_ge (an @hlt2 @Bool.not_false)) ?_; repeat clear hK K)
      refine cxz ?_
      (refine wk0 ?_;(repeat clear hK K);repeat refine kq fun K hK=>?_)
      refine rp0 [] Tryd.results13 ?_
      rw [valB_uns hgk hgj hgj1 hlt2]
     | true =>
      (refine uk1 (an @cmpR_ge (an @hlt2 @Bool.not_true)) ?_; repeat clear hK K)
      refine cyz ?_
      (refine wk0 ?_;(repeat clear hK K);repeat refine kq fun K hK=>?_)
      refine rnz ?_
      refine hK _ (j + 1) ⟨by omega, fun i a b hi ha hb => ?_⟩ (by omega) ?_
      ·by_cases e : i = j
       ·subst e; rw [hgj] at ha; rw [hgj1] at hb; cases ha; cases hb; exact hlt2
       ·exact hj2 i a b (by omega) ha hb
      ·have e2 : (((j + 1 : Nat) : Int) + 1) = ((j + 1 + 1 : Nat) : Int) := by omega
       (refine le_tm ?_; simp only [LeTm, go_sem, e2]; try simp)
    ·have hl2 : decide (((j + 1 : Nat) : Int) < (R[k].length : Int)) = false := by simp; omega
     (refine wk1 (an @hl2 (an @tArcs_len @half2)) ?_;(repeat clear hK K);repeat refine kq fun K hK=>?_)
     refine cyz ?_
     (refine ekz ?_;repeat clear hK K)
     (refine wk0 ?_;(repeat clear hK K);repeat refine kq fun K hK=>?_)
     refine rnz ?_
     refine hK _ (k + 1) ⟨by omega, fun i r hi hir => ?_⟩ (by omega) ?_
     ·by_cases e : i = k
      ·subst e; rw [hgk] at hir; cases hir
       exact sortA_get fun i a b ha hb => hj2 i a b (by have := (List.getElem?_eq_some_iff.1 hb).1; omega) ha hb
      ·exact hc i r (by omega) hir
     ·exact lmz
  ·have hl1 : decide ((k : Int) < (R.length : Int)) = false := by simpa using hlt
   (refine wk1 @hl1 ?_;(repeat clear hK K);repeat refine kq fun K hK=>?_)
   refine cyz ?_
   (refine ekz ?_;repeat clear hK K)
   (refine wk0 ?_;(repeat clear hK K);repeat refine kq fun K hK=>?_)
   refine rp0 [] Tryd.results13 ?_
   rw [valB_yes g0 (fun i r hi => hc i r (by omega))]
end Go.Proofs.YtglchakimolfdaaDoor
