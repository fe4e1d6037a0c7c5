/- graph: Min of a window, closeComponent, arcs. -/
import Derived.Test.YthlckclbjknldaaGreatG11
import Derived.Test.YthlckclbjknldaaGreatMGa
namespace Go.Proofs.YthlckclbjknldaaGreat
set_option linter.unusedVariables false
set_option linter.unusedSimpArgs false
open Go.RowKit
set_option maxRecDepth 100000
attribute [local go_sem] List.set_cons_zero List.set_cons_succ List.map_cons List.map_nil List.take_succ_cons List.take_zero List.drop_zero List.drop_succ_cons C.pl C.one List.all_cons List.all_nil Bool.and_true Nat.mul_one Int.toNat_natCast

def minL (x : Int) (l : List Int) : Int := l.foldl (fun a b => if b < a then b else a) x
theorem minL_le (l : List Int) : ∀ x : Int, minL x l ≤ x ∧ ∀ y ∈ l, minL x l ≤ y := by
 induction l with
 | nil => intro x; exact ⟨Int.le_refl _, by simp⟩
 | cons a r ih =>
  intro x
  have e : minL x (a :: r) = minL (if a < x then a else x) r := rfl
  obtain ⟨h1, h2⟩ := ih (if a < x then a else x)
  rw [e]
  have h3 : (if a < x then a else x) ≤ x ∧ (if a < x then a else x) ≤ a := by split <;> omega
  refine ⟨Int.le_trans h1 h3.1, fun y hy => ?_⟩
  rcases List.mem_cons.1 hy with rfl | h
  ·exact Int.le_trans h1 h3.2
  ·exact h2 y h
theorem minL_mem (l : List Int) : ∀ x : Int, minL x l = x ∨ minL x l ∈ l := by
 induction l with
 | nil => intro x; exact .inl rfl
 | cons a r ih =>
  intro x
  have e : minL x (a :: r) = minL (if a < x then a else x) r := rfl
  rw [e]
  rcases ih (if a < x then a else x) with h | h
  ·rw [h]; split
   ·exact .inr (List.mem_cons_self)
   ·exact .inl rfl
  ·exact .inr (List.mem_cons_of_mem _ h)
theorem win_succ {O : List Int} {off k : Nat} (h : off + k < O.length) : (O.drop off).take (k + 1) = (O.drop off).take k ++ [O[off + k]] := by
 have h1 : k < (O.drop off).length := by simp; omega
 rw [List.take_succ_eq_append_getElem h1, List.getElem_drop]
theorem minL_snoc (x : Int) (l : List Int) (y : Int) : minL x (l ++ [y]) = if y < minL x l then y else minL x l := by unfold minL; rw [List.foldl_append]; rfl

theorem minW_fc (O : List Int) (off n : Nat) (hn : 0 < n) (hO : off + n ≤ O.length) (hb : off + n ≤ 140737488355328) : FC Tryz.prog 144 [.a (.c (.w 0 off n 1))] [rInts O] (fun r o => o = [rInts O] ∧ r = .i (minL O[off] ((O.drop off).take n))) := by
 refine fc_intro Tryz.func144 rfl (by rw [Tryz.ntmps144]; simp) ?_
 rw [Tryz.ntmps144]
 simp only [enum, rInts]
 have d0 : decide ((n : Int) < 1) = false := by simp; omega
 have h0 : off < O.length := by omega
 have g0 : (cInts O)[off]? = some (.v (.int .i64 O[off])) := cInts_get (List.getElem?_eq_getElem h0)
 (repeat (first | (refine aw_seq ?_; intro K hK) | refine aw_block ?_ | refine aw_region ?_ | (refine lst_x rfl rfl ?_; intro K1 hK1; simp only [go_sem, d0]; (first | refine hK1 _ ?_ | refine andk (hK1 _ ?_)); clear hK1 K1) | ((first | refine lst_nil ?_ | refine aw_skip ?_); refine hK _ ?_; clear hK K)))
 (refine aw_cnd ?_; intro X Y hX hY; simp only [go_sem])
 refine hY ?_
 clear hX hY X Y
 (repeat (first | (refine aw_seq ?_; intro K hK) | refine aw_block ?_ | refine aw_region ?_ | (refine lst_x rfl rfl ?_; intro K1 hK1; simp only [go_sem, g0, Int.toNat_zero, Nat.add_zero]; (first | refine hK1 _ ?_ | refine andk (hK1 _ ?_)); clear hK1 K1) | ((first | refine lst_nil ?_ | refine aw_skip ?_); refine hK _ ?_; clear hK K)))
 refine aw_loop (fun k : Nat => { tm := [(0, .a (.c (.w 0 off n 1))), (3, .i (minL O[off] ((O.drop off).take k))), (4, .i k)], hp := [.r ⟨3, 1, true, cInts O⟩], n := 25, pin := 1 }) (fun k => 1 ≤ k ∧ k ≤ n) (fun k => n - k) 1 ?_ ?_ ?_
 ·omega
 ·have e : (O.drop off).take 1 = [O[off]] := by
   have := win_succ (O := O) (off := off) (k := 0) (by omega)
   simpa using this
  have e2 : minL O[off] [O[off]] = O[off] := by simp [minL]
  (refine le_tm ?_; simp only [LeTm, go_sem, e, e2]; try simp)
 ·rintro k ⟨hk1, hk⟩ K hK
  by_cases hlt : k < n
  ·have d1 : decide ((k : Int) < (n : Int)) = true := by simpa using hlt
   have g1 : (cInts O)[off + k]? = some (.v (.int .i64 O[off + k])) := cInts_get (List.getElem?_eq_getElem (by omega))
   (repeat (first | (refine aw_seq ?_; intro K hK) | refine aw_block ?_ | refine aw_region ?_ | (refine lst_x rfl rfl ?_; intro K1 hK1; simp only [go_sem, d1]; (first | refine hK1 _ ?_ | refine andk (hK1 _ ?_)); clear hK1 K1) | ((first | refine lst_nil ?_ | refine aw_skip ?_); refine hK _ ?_; clear hK K)))
   (refine aw_cnd ?_; intro X Y hX hY; simp only [go_sem])
   refine hX ?_
   clear hX hY X Y
   (repeat (first | (refine aw_seq ?_; intro K hK) | refine aw_block ?_ | refine aw_region ?_ | (refine lst_x rfl rfl ?_; intro K1 hK1; simp only [go_sem, g1]; (first | refine hK1 _ ?_ | refine andk (hK1 _ ?_)); clear hK1 K1) | ((first | refine lst_nil ?_ | refine aw_skip ?_); refine hK _ ?_; clear hK K)))
   ((try refine lst_nil ?_); (try refine aw_skip ?_); try simp only [ThenA])
   refine hK _ (k + 1) ⟨by omega, by omega⟩ (by omega) ?_
   have e := win_succ (O := O) (off := off) (k := k) (by omega)
   (refine le_tm ?_; simp only [LeTm, go_sem, e, minL_snoc]; try simp)
  ·have d1 : decide ((k : Int) < (n : Int)) = false := by simpa using hlt
   have hke : k = n := by omega
   subst hke
   (repeat (first | (refine aw_seq ?_; intro K hK) | refine aw_block ?_ | refine aw_region ?_ | (refine lst_x rfl rfl ?_; intro K1 hK1; simp only [go_sem, d1]; (first | refine hK1 _ ?_ | refine andk (hK1 _ ?_)); clear hK1 K1) | ((first | refine lst_nil ?_ | refine aw_skip ?_); refine hK _ ?_; clear hK K)))
   (refine aw_cnd ?_; intro X Y hX hY; simp only [go_sem])
   refine hY ?_
   clear hX hY X Y
   (refine aw_exit ?_; simp only [ThenA, InBl, reduceIte, Nat.reduceEqDiff]; (first | refine hK _ ?_ | (clear hK K; refine hK _ ?_) | (clear hK K; clear hK K; refine hK _ ?_) | (clear hK K; clear hK K; clear hK K; refine hK _ ?_) | (clear hK K; clear hK K; clear hK K; clear hK K; refine hK _ ?_) | (clear hK K; clear hK K; clear hK K; clear hK K; clear hK K; refine hK _ ?_)); clear hK K)
   (repeat (first | (refine aw_seq ?_; intro K hK) | refine aw_block ?_ | refine aw_region ?_ | (refine lst_x rfl rfl ?_; intro K1 hK1; simp only [go_sem]; (first | refine hK1 _ ?_ | refine andk (hK1 _ ?_)); clear hK1 K1) | ((first | refine lst_nil ?_ | refine aw_skip ?_); refine hK _ ?_; clear hK K)))
   ((try refine aw_ret ?_); (try simp only [ThenA, InBl]); refine ret_le (le_pick [0] rfl rfl) ?_; (try simp only [List.set_nil, List.take_nil, List.take_zero, List.map_append, go_sem]); ((try refine aw_ret ?_); (try refine lst_nil ?_); (try simp only [ThenA, InBl]); refine ret_mk (by first | exact .inl rfl | exact .inr rfl) rfl ?_; simp only [rtn, resA, resL, resV, Tryz.results144, go_sem, true_and, and_true, cInts_ren]))

/-- the nodes of l set to x -/
def setAt (W : List Int) (l : List Int) (x : Int) : List Int := l.foldl (fun w u => w.set u.toNat x) W
theorem setAt_len (l : List Int) (x : Int) : ∀ W, (setAt W l x).length = W.length := by
 induction l with
 | nil => intro W; rfl
 | cons a r ih => intro W; show (setAt (W.set a.toNat x) r x).length = _; rw [ih, List.length_set]
theorem setAt_snoc (W l : List Int) (x y : Int) : setAt W (l ++ [y]) x = (setAt W l x).set y.toNat x := by unfold setAt; rw [List.foldl_append]; rfl
theorem setAt_get (l : List Int) (x : Int) : ∀ (W : List Int) (i : Nat), i < W.length → (∀ a ∈ l, 0 ≤ a) → (setAt W l x)[i]? = if (i : Int) ∈ l then some x else W[i]? := by
 induction l with
 | nil => intro W i _ _; simp [setAt]
 | cons a r ih =>
  intro W i hi h0
  show (setAt (W.set a.toNat x) r x)[i]? = _
  rw [ih _ _ (by rw [List.length_set]; exact hi) (fun b hb => h0 b (List.mem_cons_of_mem _ hb))]
  have ha := h0 a List.mem_cons_self
  by_cases h1 : (i : Int) ∈ r
  ·rw [if_pos h1, if_pos (List.mem_cons_of_mem _ h1)]
  ·rw [if_neg h1]
   by_cases h2 : (i : Int) = a
   ·rw [if_pos (by rw [h2]; exact List.mem_cons_self)]
    have : a.toNat = i := by omega
    rw [this, List.getElem?_set_self hi]
   ·rw [if_neg (by rw [List.mem_cons]; rintro (h | h) <;> contradiction), List.getElem?_set_ne (by omega)]
theorem cInts_set (L : List Int) (i : Nat) (x : Int) : (cInts L).set i (.v (.int .i64 x)) = cInts (L.set i x) := by simp [cInts, List.map_set]

theorem close_fc (O W : List Int) (m k : Nat) (s : Int) (hk : k < m) (hm : m ≤ O.length) (hs : O[k]? = some s) (hu : ∀ j, k < j → j < m → O[j]? ≠ some s) (hW : ∀ j x, k ≤ j → j < m → O[j]? = some x → 0 ≤ x ∧ x < W.length) (hb : m ≤ 140737488355328) (hb2 : W.length ≤ 140737488355328) :
  FC Tryz.prog 123 [.a (.c (.s 0 m)), .i s, .a (.c (.s 1 W.length))] [rInts O, rInts W] (fun r o => o = [rInts O, rInts (setAt W ((O.drop k).take (m - k)) (minL s ((O.drop k).take (m - k))))] ∧ r = .a (.c (.s 0 k))) := by
 refine fc_intro Tryz.func123 rfl (by rw [Tryz.ntmps123]; simp) ?_
 rw [Tryz.ntmps123]
 simp only [enum, rInts]
 have e0 : (m : Int) - 1 = ((m - 1 : Nat) : Int) := by omega
 (repeat (first | (refine aw_seq ?_; intro K hK) | refine aw_block ?_ | refine aw_region ?_ | (refine lst_x rfl rfl ?_; intro K1 hK1; simp only [go_sem, cInts_len, e0]; (first | refine hK1 _ ?_ | refine andk (hK1 _ ?_)); clear hK1 K1) | ((first | refine lst_nil ?_ | refine aw_skip ?_); refine hK _ ?_; clear hK K)))
 refine aw_loop (fun j : Nat => { tm := [(0, .a (.c (.s 0 m))), (1, .i s), (2, .a (.c (.s 1 W.length))), (7, .i j)], hp := [.r ⟨3, 1, true, cInts O⟩, .r ⟨3, 1, true, cInts W⟩], n := 42, pin := 2 }) (fun j => k ≤ j ∧ j < m) (fun j => j) (m - 1) ?_ ?_ ?_
 ·omega
 ·(refine le_tm ?_; simp only [LeTm, go_sem]; try simp)
 ·rintro j ⟨hj1, hj2⟩ K hK
  have g1 : (cInts O)[j]? = some (.v (.int .i64 O[j])) := cInts_get (List.getElem?_eq_getElem (by omega))
  by_cases hjk : k < j
  ·have d1 : (O[j] != s) = true := by
    have := hu j hjk hj2
    rw [List.getElem?_eq_getElem (by omega)] at this
    simpa using this
   have e1 : (j : Int) - 1 = ((j - 1 : Nat) : Int) := by omega
   (repeat (first | (refine aw_seq ?_; intro K hK) | refine aw_block ?_ | refine aw_region ?_ | (refine lst_x rfl rfl ?_; intro K1 hK1; simp only [go_sem, g1, d1, cInts_len]; (first | refine hK1 _ ?_ | refine andk (hK1 _ ?_)); clear hK1 K1) | ((first | refine lst_nil ?_ | refine aw_skip ?_); refine hK _ ?_; clear hK K)))
   (refine aw_cnd ?_; intro X Y hX hY; simp only [go_sem])
   refine hX ?_
   clear hX hY X Y
   (repeat (first | (refine aw_seq ?_; intro K hK) | refine aw_block ?_ | refine aw_region ?_ | (refine lst_x rfl rfl ?_; intro K1 hK1; simp only [go_sem, e1]; (first | refine hK1 _ ?_ | refine andk (hK1 _ ?_)); clear hK1 K1) | ((first | refine lst_nil ?_ | refine aw_skip ?_); refine hK _ ?_; clear hK K)))
   ((try refine lst_nil ?_); (try refine aw_skip ?_); try simp only [ThenA])
   refine hK _ (j - 1) ⟨by omega, by omega⟩ (by omega) ?_
   (refine le_tm ?_; simp only [LeTm, go_sem]; try simp)
  ·have hje : j = k := by omega
   subst hje
   have hOs : O[j] = s := by rw [List.getElem?_eq_getElem (by omega)] at hs; cases hs; rfl
   have d1 : (O[j] != s) = false := by simp [hOs]
   (repeat (first | (refine aw_seq ?_; intro K hK) | refine aw_block ?_ | refine aw_region ?_ | (refine lst_x rfl rfl ?_; intro K1 hK1; simp only [go_sem, g1, d1, cInts_len]; (first | refine hK1 _ ?_ | refine andk (hK1 _ ?_)); clear hK1 K1) | ((first | refine lst_nil ?_ | refine aw_skip ?_); refine hK _ ?_; clear hK K)))
   (refine aw_cnd ?_; intro X Y hX hY; simp only [go_sem])
   refine hY ?_
   clear hX hY X Y
   (refine aw_exit ?_; simp only [ThenA, InBl, reduceIte, Nat.reduceEqDiff]; (first | refine hK _ ?_ | (clear hK K; refine hK _ ?_) | (clear hK K; clear hK K; refine hK _ ?_) | (clear hK K; clear hK K; clear hK K; refine hK _ ?_) | (clear hK K; clear hK K; clear hK K; clear hK K; refine hK _ ?_) | (clear hK K; clear hK K; clear hK K; clear hK K; clear hK K; refine hK _ ?_)); clear hK K)
   (repeat (first | (refine aw_seq ?_; intro K hK) | refine aw_block ?_ | refine aw_region ?_ | (refine lst_x rfl rfl ?_; intro K1 hK1; simp only [go_sem, cInts_len]; (first | refine hK1 _ ?_ | refine andk (hK1 _ ?_)); clear hK1 K1) | ((first | refine lst_nil ?_ | refine aw_skip ?_); refine hK _ ?_; clear hK K)))
   (refine lst_cons rfl ?_; intro K1 hK1; refine stp_callσ (ids := []) [0] (minW_fc O j (m - j) (by omega) (by omega) (by omega)) rfl rfl (by simp only [go_sem]) (by first | assumption | kernel_rfl) rfl rfl (by (simp only [List.map_append, List.append_nil, go_sem]) <;> rfl) (by (simp only [pkh, rInts, cInts_ren, go_sem]) <;> rfl) ?_ ?_)
   ·rintro _ _ ⟨rfl, rfl⟩; rfl
   rintro _ _ ⟨rfl, rfl⟩
   (simp only [aInts, aSets, rInts, cInts_up, List.append_nil, List.nil_append, List.length_map, go_sem]; refine hK1 _ ?_; clear hK1 K1)
   generalize hM : minL O[j] ((O.drop j).take (m - j)) = M
   (repeat (first | (refine aw_seq ?_; intro K hK) | refine aw_block ?_ | refine aw_region ?_ | (refine lst_x rfl rfl ?_; intro K1 hK1; simp only [go_sem, cInts_len]; (first | refine hK1 _ ?_ | refine andk (hK1 _ ?_)); clear hK1 K1) | ((first | refine lst_nil ?_ | refine aw_skip ?_); refine hK _ ?_; clear hK K)))
   refine aw_loop (fun i : Nat => { tm := [(0, .a (.c (.s 0 m))), (2, .a (.c (.s 1 W.length))), (7, .i j), (8, .i M), (28, .a (.c (.w 0 j (m - j) 1))), (29, .i ((m - j : Nat) : Int)), (30, .i i)], hp := [.r ⟨3, 1, true, cInts O⟩, .r ⟨3, 1, true, cInts (setAt W ((O.drop j).take i) M)⟩], n := 42, pin := 2 }) (fun i => i ≤ m - j) (fun i => m - j - i) 0 ?_ ?_ ?_
   ·omega
   ·(refine le_tm ?_; simp only [LeTm, go_sem, setAt, List.foldl_nil]; try simp)
   ·rintro i hi K hK
    by_cases hlt : i < m - j
    ·have d2 : decide ((i : Int) < ((m - j : Nat) : Int)) = true := by simp; omega
     have g2 : (cInts O)[j + i]? = some (.v (.int .i64 O[j + i])) := cInts_get (List.getElem?_eq_getElem (by omega))
     have hx := hW (j + i) _ (by omega) (by omega) (List.getElem?_eq_getElem (by omega))
     have e := win_succ (O := O) (off := j) (k := i) (by omega)
     have hl := setAt_len ((O.drop j).take i) M W
     (repeat (first | (refine aw_seq ?_; intro K hK) | refine aw_block ?_ | refine aw_region ?_ | (refine lst_x rfl rfl ?_; intro K1 hK1; simp only [go_sem, d2]; (first | refine hK1 _ ?_ | refine andk (hK1 _ ?_)); clear hK1 K1) | ((first | refine lst_nil ?_ | refine aw_skip ?_); refine hK _ ?_; clear hK K)))
     (refine aw_cnd ?_; intro X Y hX hY; simp only [go_sem])
     refine hX ?_
     clear hX hY X Y
     (repeat (first | (refine aw_seq ?_; intro K hK) | refine aw_block ?_ | refine aw_region ?_ | (refine lst_x rfl rfl ?_; intro K1 hK1; simp only [go_sem, g2, cInts_len, hl, ST.put, setC, A0.cells, cInts_set]; (first | refine hK1 _ ?_ | refine andk (hK1 _ ?_)); clear hK1 K1) | ((first | refine lst_nil ?_ | refine aw_skip ?_); refine hK _ ?_; clear hK K)))
     ((try refine lst_nil ?_); (try refine aw_skip ?_); try simp only [ThenA])
     refine hK _ (i + 1) (by omega) (by omega) ?_
     simp only [e, setAt_snoc]
     (refine le_tm ?_; simp only [LeTm, go_sem]; try simp)
    ·have d2 : decide ((i : Int) < ((m - j : Nat) : Int)) = false := by simp; omega
     have hie : i = m - j := by omega
     subst hie
     (repeat (first | (refine aw_seq ?_; intro K hK) | refine aw_block ?_ | refine aw_region ?_ | (refine lst_x rfl rfl ?_; intro K1 hK1; simp only [go_sem, d2]; (first | refine hK1 _ ?_ | refine andk (hK1 _ ?_)); clear hK1 K1) | ((first | refine lst_nil ?_ | refine aw_skip ?_); refine hK _ ?_; clear hK K)))
     (refine aw_cnd ?_; intro X Y hX hY; simp only [go_sem])
     refine hY ?_
     clear hX hY X Y
     (refine aw_exit ?_; simp only [ThenA, InBl, reduceIte, Nat.reduceEqDiff]; (first | refine hK _ ?_ | (clear hK K; refine hK _ ?_) | (clear hK K; clear hK K; refine hK _ ?_) | (clear hK K; clear hK K; clear hK K; refine hK _ ?_) | (clear hK K; clear hK K; clear hK K; clear hK K; refine hK _ ?_) | (clear hK K; clear hK K; clear hK K; clear hK K; clear hK K; refine hK _ ?_)); clear hK K)
     (repeat (first | (refine aw_seq ?_; intro K hK) | refine aw_block ?_ | refine aw_region ?_ | (refine lst_x rfl rfl ?_; intro K1 hK1; simp only [go_sem, cInts_len]; (first | refine hK1 _ ?_ | refine andk (hK1 _ ?_)); clear hK1 K1) | ((first | refine lst_nil ?_ | refine aw_skip ?_); refine hK _ ?_; clear hK K)))
     ((try refine aw_ret ?_); (try simp only [ThenA, InBl]); refine ret_le (le_pick [0, 1] rfl rfl) ?_; (try simp only [List.set_nil, List.take_nil, List.take_zero, List.map_append, go_sem]); ((try refine aw_ret ?_); (try refine lst_nil ?_); (try simp only [ThenA, InBl]); refine ret_mk (by first | exact .inl rfl | exact .inr rfl) rfl ?_; simp only [rtn, resA, resL, resV, Tryz.results123, go_sem, true_and, and_true, cInts_ren]))
     rw [← hOs, hM]

theorem takeWhile_take {α : Type} (p : α → Bool) (l : List α) (k : Nat) (h1 : ∀ j x, j < k → l[j]? = some x → p x = true) (h2 : ∀ x, l[k]? = some x → p x = false) : l.takeWhile p = l.take k := by
 induction l generalizing k with
 | nil => simp
 | cons a r ih =>
  cases k with
  | zero => have := h2 a rfl; simp [List.takeWhile_cons, this]
  | succ k =>
   have := h1 0 a (by omega) rfl
   rw [List.takeWhile_cons, if_pos this, List.take_succ_cons, ih k (fun j x hj hx => h1 (j + 1) x (by omega) hx) (fun x hx => h2 x hx)]
/-- the arcs that the closure looks at -/
def tauOf (t : Bool) (r : List Ar) : List Ar := if t then r.takeWhile fun a => a.1 == 0 else r
theorem arcsT_fc (R : List (List Ar)) (s : Nat) (t : Bool) (hs : s < R.length) (hn : R.length ≤ 140737488355328) (hr : R[s].length ≤ 140737488355328) : FC Tryz.prog 122 [aLts R, .i s, .b t] [] (fun r o => o = [] ∧ r = .a (.c (.t 2 (tArcs (tauOf t R[s]))))) := by
 refine fc_intro Tryz.func122 rfl (by rw [Tryz.ntmps122]; simp) ?_
 rw [Tryz.ntmps122]
 simp only [enum, aLts]
 have hg := List.getElem?_eq_getElem hs
 cases t with
 | false =>
  (repeat (first | (refine aw_seq ?_; intro K hK) | refine aw_block ?_ | refine aw_region ?_ | (refine lst_x rfl rfl ?_; intro K1 hK1; simp only [go_sem, tRows_len, tRows_get hg, Bool.not_false]; (first | refine hK1 _ ?_ | refine andk (hK1 _ ?_)); clear hK1 K1) | ((first | refine lst_nil ?_ | refine aw_skip ?_); refine hK _ ?_; clear hK K)))
  (refine aw_cnd ?_; intro X Y hX hY; simp only [go_sem])
  refine hX ?_
  clear hX hY X Y
  (repeat (first | (refine aw_seq ?_; intro K hK) | refine aw_block ?_ | refine aw_region ?_ | (refine lst_x rfl rfl ?_; intro K1 hK1; simp only [go_sem]; (first | refine hK1 _ ?_ | refine andk (hK1 _ ?_)); clear hK1 K1) | ((first | refine lst_nil ?_ | refine aw_skip ?_); refine hK _ ?_; clear hK K)))
  ((try refine aw_ret ?_); (try simp only [ThenA, InBl]); refine ret_le (le_pick [] rfl rfl) ?_; (try simp only [List.set_nil, List.take_nil, List.take_zero, List.map_append, go_sem]); ((try refine aw_ret ?_); (try refine lst_nil ?_); (try simp only [ThenA, InBl]); refine ret_mk (by first | exact .inl rfl | exact .inr rfl) rfl ?_; simp only [rtn, resA, resL, resV, Tryz.results122, go_sem, true_and, and_true]))
  simp [tauOf]
 | true =>
  (repeat (first | (refine aw_seq ?_; intro K hK) | refine aw_block ?_ | refine aw_region ?_ | (refine lst_x rfl rfl ?_; intro K1 hK1; simp only [go_sem, tRows_len, tRows_get hg, Bool.not_true]; (first | refine hK1 _ ?_ | refine andk (hK1 _ ?_)); clear hK1 K1) | ((first | refine lst_nil ?_ | refine aw_skip ?_); refine hK _ ?_; clear hK K)))
  (refine aw_cnd ?_; intro X Y hX hY; simp only [go_sem])
  refine hY ?_
  clear hX hY X Y
  (repeat (first | (refine aw_seq ?_; intro K hK) | refine aw_block ?_ | refine aw_region ?_ | (refine lst_x rfl rfl ?_; intro K1 hK1; simp only [go_sem]; (first | refine hK1 _ ?_ | refine andk (hK1 _ ?_)); clear hK1 K1) | ((first | refine lst_nil ?_ | refine aw_skip ?_); refine hK _ ?_; clear hK K)))
  refine aw_loop (fun k : Nat => { tm := [(7, .a (.c (.t 2 (tArcs R[s])))), (8, .i k)], hp := [.r ⟨25, 1, false, [.t 1 (tRows R)]⟩], n := 34, pin := 0 }) (fun k => k ≤ R[s].length ∧ ∀ j x, j < k → R[s][j]? = some x → (x.1 == 0) = true) (fun k => R[s].length - k) 0 ?_ ?_ ?_
  ·exact ⟨by omega, fun j x h => by omega⟩
  ·(refine le_tm ?_; simp only [LeTm, go_sem]; try simp)
  ·rintro k ⟨hk, he⟩ K hK
   by_cases hlt : k < R[s].length
   ·have d1 : decide ((k : Int) < (R[s].length : Int)) = true := by simpa using hlt
    have ha0 := tArcs_c0 hlt
    cases q1 : (R[s][k].1 == 0) with
    | true =>
     (repeat (first | (refine aw_seq ?_; intro K hK) | refine aw_block ?_ | refine aw_region ?_ | (refine lst_x rfl rfl ?_; intro K1 hK1; simp only [go_sem, d1, q1, ha0, tArcs_len, half2]; (first | refine hK1 _ ?_ | refine andk (hK1 _ ?_)); clear hK1 K1) | ((first | refine lst_nil ?_ | refine aw_skip ?_); refine hK _ ?_; clear hK K)))
     (refine aw_cnd ?_; intro X Y hX hY; simp only [go_sem])
     refine hX ?_
     clear hX hY X Y
     (repeat (first | (refine aw_seq ?_; intro K hK) | refine aw_block ?_ | refine aw_region ?_ | (refine lst_x rfl rfl ?_; intro K1 hK1; simp only [go_sem]; (first | refine hK1 _ ?_ | refine andk (hK1 _ ?_)); clear hK1 K1) | ((first | refine lst_nil ?_ | refine aw_skip ?_); refine hK _ ?_; clear hK K)))
     ((try refine lst_nil ?_); (try refine aw_skip ?_); try simp only [ThenA])
     refine hK _ (k + 1) ⟨by omega, fun j x hj hx => ?_⟩ (by omega) ?_
     ·rcases Nat.lt_or_ge j k with h | h
      ·exact he j x h hx
      ·have : j = k := by omega
       subst this
       rw [List.getElem?_eq_getElem hlt] at hx; cases hx; exact q1
     ·(refine le_tm ?_; simp only [LeTm, go_sem]; try simp)
    | false =>
     (repeat (first | (refine aw_seq ?_; intro K hK) | refine aw_block ?_ | refine aw_region ?_ | (refine lst_x rfl rfl ?_; intro K1 hK1; simp only [go_sem, d1, q1, ha0, tArcs_len, half2]; (first | refine hK1 _ ?_ | refine andk (hK1 _ ?_)); clear hK1 K1) | ((first | refine lst_nil ?_ | refine aw_skip ?_); refine hK _ ?_; clear hK K)))
     (refine aw_cnd ?_; intro X Y hX hY; simp only [go_sem])
     refine hY ?_
     clear hX hY X Y
     (refine aw_exit ?_; simp only [ThenA, InBl, reduceIte, Nat.reduceEqDiff]; (first | refine hK _ ?_ | (clear hK K; refine hK _ ?_) | (clear hK K; clear hK K; refine hK _ ?_) | (clear hK K; clear hK K; clear hK K; refine hK _ ?_) | (clear hK K; clear hK K; clear hK K; clear hK K; refine hK _ ?_) | (clear hK K; clear hK K; clear hK K; clear hK K; clear hK K; refine hK _ ?_)); clear hK K)
     have ek := takeWhile_take (fun a : Ar => a.1 == 0) R[s] k he (fun x hx => by
      first
       | (rw [List.getElem?_eq_getElem hlt] at hx; cases hx; exact q1)
       | (rw [List.getElem?_eq_none (by omega)] at hx; cases hx))
     (repeat (first | (refine aw_seq ?_; intro K hK) | refine aw_block ?_ | refine aw_region ?_ | (refine lst_x rfl rfl ?_; intro K1 hK1; simp only [go_sem, tArcs_len, half2, tArcs_take]; (first | refine hK1 _ ?_ | refine andk (hK1 _ ?_)); clear hK1 K1) | ((first | refine lst_nil ?_ | refine aw_skip ?_); refine hK _ ?_; clear hK K)))
     ((try refine aw_ret ?_); (try simp only [ThenA, InBl]); refine ret_le (le_pick [] rfl rfl) ?_; (try simp only [List.set_nil, List.take_nil, List.take_zero, List.map_append, go_sem]); ((try refine aw_ret ?_); (try refine lst_nil ?_); (try simp only [ThenA, InBl]); refine ret_mk (by first | exact .inl rfl | exact .inr rfl) rfl ?_; simp only [rtn, resA, resL, resV, Tryz.results122, go_sem, true_and, and_true]))
     simp only [tauOf, if_pos, ek]
   ·have d1 : decide ((k : Int) < (R[s].length : Int)) = false := by simpa using hlt
    (repeat (first | (refine aw_seq ?_; intro K hK) | refine aw_block ?_ | refine aw_region ?_ | (refine lst_x rfl rfl ?_; intro K1 hK1; simp only [go_sem, d1, tArcs_len, half2]; (first | refine hK1 _ ?_ | refine andk (hK1 _ ?_)); clear hK1 K1) | ((first | refine lst_nil ?_ | refine aw_skip ?_); refine hK _ ?_; clear hK K)))
    (refine aw_cnd ?_; intro X Y hX hY; simp only [go_sem])
    refine hY ?_
    clear hX hY X Y
    (refine aw_exit ?_; simp only [ThenA, InBl, reduceIte, Nat.reduceEqDiff]; (first | refine hK _ ?_ | (clear hK K; refine hK _ ?_) | (clear hK K; clear hK K; refine hK _ ?_) | (clear hK K; clear hK K; clear hK K; refine hK _ ?_) | (clear hK K; clear hK K; clear hK K; clear hK K; refine hK _ ?_) | (clear hK K; clear hK K; clear hK K; clear hK K; clear hK K; refine hK _ ?_)); clear hK K)
    have ek := takeWhile_take (fun a : Ar => a.1 == 0) R[s] k he (fun x hx => by
     first
      | (rw [List.getElem?_eq_getElem hlt] at hx; cases hx; exact q1)
      | (rw [List.getElem?_eq_none (by omega)] at hx; cases hx))
    (repeat (first | (refine aw_seq ?_; intro K hK) | refine aw_block ?_ | refine aw_region ?_ | (refine lst_x rfl rfl ?_; intro K1 hK1; simp only [go_sem, tArcs_len, half2, tArcs_take]; (first | refine hK1 _ ?_ | refine andk (hK1 _ ?_)); clear hK1 K1) | ((first | refine lst_nil ?_ | refine aw_skip ?_); refine hK _ ?_; clear hK K)))
    ((try refine aw_ret ?_); (try simp only [ThenA, InBl]); refine ret_le (le_pick [] rfl rfl) ?_; (try simp only [List.set_nil, List.take_nil, List.take_zero, List.map_append, go_sem]); ((try refine aw_ret ?_); (try refine lst_nil ?_); (try simp only [ThenA, InBl]); refine ret_mk (by first | exact .inl rfl | exact .inr rfl) rfl ?_; simp only [rtn, resA, resL, resV, Tryz.results122, go_sem, true_and, and_true]))
    simp only [tauOf, if_pos, ek]
end Go.Proofs.YthlckclbjknldaaGreat
