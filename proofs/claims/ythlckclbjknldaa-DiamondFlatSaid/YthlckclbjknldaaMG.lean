/- cmp.Compare, slices.Compare, slices.Equal, diamond.subset. slices.CompactFunc at [][]int with slices.Equal. Canonical forms, as plain functions. slices.Compact at arcs. slices.SortFunc at arcs, from the shelf's contract. A row cut short. -/
import Derived.Test.YthlckclbjknldaaG11
import Derived.Test.YthlckclbjknldaaMD
import Derived.Test.YthlckclbjknldaaShlf
import Derived.Shelf.SlSortCmp.NoneTotal
namespace Go.Proofs.Ythlckclbjknldaa
set_option linter.unusedVariables false
set_option linter.unusedSimpArgs false
open Go.RowKit
set_option maxRecDepth 100000

def cmpL : List Int → List Int → Int
 | [], [] => 0
 | [], _ :: _ => -1
 | _ :: _, [] => 1
 | a :: r, b :: q => if cmpI a b ≠ 0 then cmpI a b else cmpL r q
theorem cmpL_fc (xs ys : List Int) (hn : xs.length ≤ 140737488355328) (hm : ys.length ≤ 140737488355328) : FC Try.prog 43 [aInts xs, aInts ys] [] (fun r o => o = [] ∧ r = .i (cmpL xs ys)) := by
 refine fc_intro Try.func43 rfl (by rw [Try.ntmps43]; simp) ?_
 rw [Try.ntmps43]
 simp only [enum, aInts]
 (repeat (first | (refine aw_seq ?_; intro K hK) | refine aw_block ?_ | refine aw_region ?_ | (refine lst_x rfl rfl ?_; intro K1 hK1; simp only [go_sem]; (first | refine hK1 _ ?_ | refine andk (hK1 _ ?_)); clear hK1 K1) | ((first | refine lst_nil ?_ | refine aw_skip ?_); refine hK _ ?_; clear hK K)))
 refine aw_loop (fun k : Nat => { tm := [(0, .a (.c (.t 1 (tInts xs)))), (1, .a (.c (.t 1 (tInts ys)))), (9, .a (.c (.t 1 (tInts xs)))), (10, .i xs.length), (11, .i k)], hp := [], n := 36, pin := 0 }) (fun k => k ≤ xs.length ∧ k ≤ ys.length ∧ cmpL xs ys = cmpL (xs.drop k) (ys.drop k)) (fun k => xs.length - k) 0 ?_ ?_ ?_
 ·exact ⟨by omega, by omega, rfl⟩
 ·(refine le_tm ?_; simp only [LeTm, go_sem, tInts_len]; try simp)
 ·rintro k ⟨hk, hk2, he⟩ K hK
  (repeat (first | (refine aw_seq ?_; intro K hK) | refine aw_block ?_ | refine aw_region ?_ | (refine lst_x rfl rfl ?_; intro K1 hK1; simp only [go_sem]; (first | refine hK1 _ ?_ | refine andk (hK1 _ ?_)); clear hK1 K1) | ((first | refine lst_nil ?_ | refine aw_skip ?_); refine hK _ ?_; clear hK K)))
  (refine aw_cnd ?_; intro X Y hX hY; simp only [go_sem])
  refine ⟨fun h => hX ?_, fun h => hY ?_⟩
  ·have hlt : k < xs.length := by simpa using h
   clear hX hY X Y h
   rw [drop_get hlt] at he
   (repeat (first | (refine aw_seq ?_; intro K hK) | refine aw_block ?_ | refine aw_region ?_ | (refine lst_x rfl rfl ?_; intro K1 hK1; simp only [go_sem, tInts_len, tInts_get (List.getElem?_eq_getElem hlt)]; (first | refine hK1 _ ?_ | refine andk (hK1 _ ?_)); clear hK1 K1) | ((first | refine lst_nil ?_ | refine aw_skip ?_); refine hK _ ?_; clear hK K)))
   (refine aw_cnd ?_; intro X Y hX hY; simp only [go_sem])
   refine ⟨fun h => hX ?_, fun h => hY ?_⟩
   ·clear hX hY X Y
    (repeat (first | (refine aw_seq ?_; intro K hK) | refine aw_block ?_ | refine aw_region ?_ | (refine lst_x rfl rfl ?_; intro K1 hK1; simp only [go_sem]; (first | refine hK1 _ ?_ | refine andk (hK1 _ ?_)); clear hK1 K1) | ((first | refine lst_nil ?_ | refine aw_skip ?_); refine hK _ ?_; clear hK K)))
    ((try refine aw_ret ?_); (try refine lst_nil ?_); (try simp only [ThenA, InBl]); refine ret_mk (by first | exact .inl rfl | exact .inr rfl) rfl ?_; simp only [rtn, resA, resL, resV, Try.results43, go_sem])
    have : ys.drop k = [] := List.drop_eq_nil_of_le (by simpa using h)
    rw [he, this]
    simp [cmpL]
   ·clear hX hY X Y
    have hlt2 : k < ys.length := by simpa using h
    clear h
    rw [drop_get hlt2] at he
    (repeat (first | (refine aw_seq ?_; intro K hK) | refine aw_block ?_ | refine aw_region ?_ | (refine lst_x rfl rfl ?_; intro K1 hK1; simp only [go_sem, tInts_len, tInts_get (List.getElem?_eq_getElem hlt2)]; (first | refine hK1 _ ?_ | refine andk (hK1 _ ?_)); clear hK1 K1) | ((first | refine lst_nil ?_ | refine aw_skip ?_); refine hK _ ?_; clear hK K)))
    (refine lst_cons rfl ?_; intro K1 hK1; refine (stp_call0 (ids := []) (cmp_fc xs[k] ys[k]) rfl rfl (by simp only [go_sem]) (by kernel_rfl) (by (simp only [List.append_nil, go_sem]) <;> rfl) ?_).stp)
    rintro _ _ ⟨rfl, rfl⟩
    (simp only [aInts, aSets, List.append_nil, List.nil_append, List.length_map, go_sem]; refine hK1 _ ?_; clear hK1 K1)
    (repeat (first | (refine aw_seq ?_; intro K hK) | refine aw_block ?_ | refine aw_region ?_ | (refine lst_x rfl rfl ?_; intro K1 hK1; simp only [go_sem]; (first | refine hK1 _ ?_ | refine andk (hK1 _ ?_)); clear hK1 K1) | ((first | refine lst_nil ?_ | refine aw_skip ?_); refine hK _ ?_; clear hK K)))
    (refine aw_cnd ?_; intro X Y hX hY; simp only [go_sem])
    refine ⟨fun h => hX ?_, fun h => hY ?_⟩
    ·clear hX hY X Y
     (repeat (first | (refine aw_seq ?_; intro K hK) | refine aw_block ?_ | refine aw_region ?_ | (refine lst_x rfl rfl ?_; intro K1 hK1; simp only [go_sem]; (first | refine hK1 _ ?_ | refine andk (hK1 _ ?_)); clear hK1 K1) | ((first | refine lst_nil ?_ | refine aw_skip ?_); refine hK _ ?_; clear hK K)))
     ((try refine aw_ret ?_); (try refine lst_nil ?_); (try simp only [ThenA, InBl]); refine ret_mk (by first | exact .inl rfl | exact .inr rfl) rfl ?_; simp only [rtn, resA, resL, resV, Try.results43, go_sem])
     have h1 : cmpI xs[k] ys[k] ≠ 0 := by simpa using h
     rw [he]
     simp [cmpL, h1]
    ·clear hX hY X Y
     (repeat (first | (refine aw_seq ?_; intro K hK) | refine aw_block ?_ | refine aw_region ?_ | (refine lst_x rfl rfl ?_; intro K1 hK1; simp only [go_sem]; (first | refine hK1 _ ?_ | refine andk (hK1 _ ?_)); clear hK1 K1) | ((first | refine lst_nil ?_ | refine aw_skip ?_); refine hK _ ?_; clear hK K)))
     ((try refine lst_nil ?_); (try refine aw_skip ?_); try simp only [ThenA])
     refine hK _ (k + 1) ⟨by omega, by omega, ?_⟩ (by omega) ?_
     ·have h1 : cmpI xs[k] ys[k] = 0 := by simpa using h
      rw [he]
      simp [cmpL, h1]
     ·(refine le_tm ?_; simp only [LeTm, go_sem]; try simp)
  ·have hge : k = xs.length := by simp at h; omega
   clear hX hY X Y
   have hd : xs.drop k = [] := List.drop_eq_nil_of_le (by omega)
   rw [hd] at he
   (refine aw_exit ?_; simp only [ThenA, InBl, reduceIte, Nat.reduceEqDiff]; (first | refine hK _ ?_ | (clear hK K; refine hK _ ?_) | (clear hK K; clear hK K; refine hK _ ?_) | (clear hK K; clear hK K; clear hK K; refine hK _ ?_) | (clear hK K; clear hK K; clear hK K; clear hK K; refine hK _ ?_) | (clear hK K; clear hK K; clear hK K; clear hK K; clear hK K; refine hK _ ?_)); clear hK K)
   (repeat (first | (refine aw_seq ?_; intro K hK) | refine aw_block ?_ | refine aw_region ?_ | (refine lst_x rfl rfl ?_; intro K1 hK1; simp only [go_sem, tInts_len]; (first | refine hK1 _ ?_ | refine andk (hK1 _ ?_)); clear hK1 K1) | ((first | refine lst_nil ?_ | refine aw_skip ?_); refine hK _ ?_; clear hK K)))
   (refine aw_cnd ?_; intro X Y hX hY; simp only [go_sem])
   refine ⟨fun h => hX ?_, fun h => hY ?_⟩
   ·clear hX hY X Y
    (repeat (first | (refine aw_seq ?_; intro K hK) | refine aw_block ?_ | refine aw_region ?_ | (refine lst_x rfl rfl ?_; intro K1 hK1; simp only [go_sem]; (first | refine hK1 _ ?_ | refine andk (hK1 _ ?_)); clear hK1 K1) | ((first | refine lst_nil ?_ | refine aw_skip ?_); refine hK _ ?_; clear hK K)))
    ((try refine aw_ret ?_); (try refine lst_nil ?_); (try simp only [ThenA, InBl]); refine ret_mk (by first | exact .inl rfl | exact .inr rfl) rfl ?_; simp only [rtn, resA, resL, resV, Try.results43, go_sem])
    have hlt2 : k < ys.length := by simp at h; omega
    rw [he, drop_get hlt2]
    simp [cmpL]
   ·clear hX hY X Y
    (repeat (first | (refine aw_seq ?_; intro K hK) | refine aw_block ?_ | refine aw_region ?_ | (refine lst_x rfl rfl ?_; intro K1 hK1; simp only [go_sem]; (first | refine hK1 _ ?_ | refine andk (hK1 _ ?_)); clear hK1 K1) | ((first | refine lst_nil ?_ | refine aw_skip ?_); refine hK _ ?_; clear hK K)))
    ((try refine aw_ret ?_); (try refine lst_nil ?_); (try simp only [ThenA, InBl]); refine ret_mk (by first | exact .inl rfl | exact .inr rfl) rfl ?_; simp only [rtn, resA, resL, resV, Try.results43, go_sem])
    have : ys.drop k = [] := List.drop_eq_nil_of_le (by simp at h; omega)
    rw [he, this]
    simp [cmpL]
theorem equal_fc (xs ys : List Int) (hn : xs.length ≤ 140737488355328) (hm : ys.length ≤ 140737488355328) : FC Try.prog 45 [aInts xs, aInts ys] [] (fun r o => o = [] ∧ r = .b (decide (xs = ys))) := by
 refine fc_intro Try.func45 rfl (by rw [Try.ntmps45]; simp) ?_
 rw [Try.ntmps45]
 simp only [enum, aInts]
 (repeat (first | (refine aw_seq ?_; intro K hK) | refine aw_block ?_ | refine aw_region ?_ | (refine lst_x rfl rfl ?_; intro K1 hK1; simp only [go_sem, tInts_len]; (first | refine hK1 _ ?_ | refine andk (hK1 _ ?_)); clear hK1 K1) | ((first | refine lst_nil ?_ | refine aw_skip ?_); refine hK _ ?_; clear hK K)))
 (refine aw_cnd ?_; intro X Y hX hY; simp only [go_sem])
 refine ⟨fun h => hX ?_, fun h => hY ?_⟩
 ·clear hX hY X Y
  (repeat (first | (refine aw_seq ?_; intro K hK) | refine aw_block ?_ | refine aw_region ?_ | (refine lst_x rfl rfl ?_; intro K1 hK1; simp only [go_sem]; (first | refine hK1 _ ?_ | refine andk (hK1 _ ?_)); clear hK1 K1) | ((first | refine lst_nil ?_ | refine aw_skip ?_); refine hK _ ?_; clear hK K)))
  ((try refine aw_ret ?_); (try refine lst_nil ?_); (try simp only [ThenA, InBl]); refine ret_mk (by first | exact .inl rfl | exact .inr rfl) rfl ?_; simp only [rtn, resA, resL, resV, Try.results45, go_sem])
  have : xs ≠ ys := by rintro rfl; simp at h
  simp [this]
 ·clear hX hY X Y
  have hlen : xs.length = ys.length := by simp at h; omega
  clear h
  (repeat (first | (refine aw_seq ?_; intro K hK) | refine aw_block ?_ | refine aw_region ?_ | (refine lst_x rfl rfl ?_; intro K1 hK1; simp only [go_sem]; (first | refine hK1 _ ?_ | refine andk (hK1 _ ?_)); clear hK1 K1) | ((first | refine lst_nil ?_ | refine aw_skip ?_); refine hK _ ?_; clear hK K)))
  refine aw_loop (fun k : Nat => { tm := [(0, .a (.c (.t 1 (tInts xs)))), (1, .a (.c (.t 1 (tInts ys)))), (12, .i xs.length), (13, .i k)], hp := [], n := 26, pin := 0 }) (fun k => k ≤ xs.length ∧ xs.take k = ys.take k) (fun k => xs.length - k) 0 ?_ ?_ ?_
  ·exact ⟨by omega, rfl⟩
  ·(refine le_tm ?_; simp only [LeTm, go_sem, tInts_len]; try simp)
  ·rintro k ⟨hk, he⟩ K hK
   (repeat (first | (refine aw_seq ?_; intro K hK) | refine aw_block ?_ | refine aw_region ?_ | (refine lst_x rfl rfl ?_; intro K1 hK1; simp only [go_sem]; (first | refine hK1 _ ?_ | refine andk (hK1 _ ?_)); clear hK1 K1) | ((first | refine lst_nil ?_ | refine aw_skip ?_); refine hK _ ?_; clear hK K)))
   (refine aw_cnd ?_; intro X Y hX hY; simp only [go_sem])
   refine ⟨fun h => hX ?_, fun h => hY ?_⟩
   ·have hlt : k < xs.length := by simpa using h
    have hlt2 : k < ys.length := by omega
    clear hX hY X Y h
    (repeat (first | (refine aw_seq ?_; intro K hK) | refine aw_block ?_ | refine aw_region ?_ | (refine lst_x rfl rfl ?_; intro K1 hK1; simp only [go_sem]; (first | refine hK1 _ ?_ | refine andk (hK1 _ ?_)); clear hK1 K1) | ((first | refine lst_nil ?_ | refine aw_skip ?_); refine hK _ ?_; clear hK K)))
    (refine aw_regionU 8 [(0, 0), (1, 0), (2, 0), (3, 1), (4, 0), (5, 0), (6, 0), (7, 1), (8, 2)] (by kernel_rfl) (by kernel_rfl) (by intro c st h; simp [ThenA, InBl, Ret] at h) ?_)
    (repeat (first | ((first | refine u_0x rfl rfl rfl ?_ | refine u_1x rfl rfl rfl ?_); intro K1 hK1; simp only [go_sem, tInts_len, tInts_get (List.getElem?_eq_getElem hlt), tInts_get (List.getElem?_eq_getElem hlt2)]; (first | refine hK1 _ ?_ | refine andk (hK1 _ ?_)); clear hK1 K1) | (refine u_2x rfl rfl rfl rfl ?_; intro K1 hK1; simp only [go_sem, tInts_len, tInts_get (List.getElem?_eq_getElem hlt), tInts_get (List.getElem?_eq_getElem hlt2)]; (first | refine hK1 _ ?_ | refine andk (hK1 _ ?_)); clear hK1 K1) | (refine u_nil ?_; refine hK _ ?_; clear hK K)))
    (refine aw_cnd ?_; intro X Y hX hY; simp only [go_sem])
    refine ⟨fun h => hX ?_, fun h => hY ?_⟩
    ·clear hX hY X Y
     (repeat (first | (refine aw_seq ?_; intro K hK) | refine aw_block ?_ | refine aw_region ?_ | (refine lst_x rfl rfl ?_; intro K1 hK1; simp only [go_sem]; (first | refine hK1 _ ?_ | refine andk (hK1 _ ?_)); clear hK1 K1) | ((first | refine lst_nil ?_ | refine aw_skip ?_); refine hK _ ?_; clear hK K)))
     ((try refine aw_ret ?_); (try refine lst_nil ?_); (try simp only [ThenA, InBl]); refine ret_mk (by first | exact .inl rfl | exact .inr rfl) rfl ?_; simp only [rtn, resA, resL, resV, Try.results45, go_sem])
     have : xs ≠ ys := by rintro rfl; simp at h
     simp [this]
    ·clear hX hY X Y
     (repeat (first | (refine aw_seq ?_; intro K hK) | refine aw_block ?_ | refine aw_region ?_ | (refine lst_x rfl rfl ?_; intro K1 hK1; simp only [go_sem]; (first | refine hK1 _ ?_ | refine andk (hK1 _ ?_)); clear hK1 K1) | ((first | refine lst_nil ?_ | refine aw_skip ?_); refine hK _ ?_; clear hK K)))
     ((try refine lst_nil ?_); (try refine aw_skip ?_); try simp only [ThenA])
     refine hK _ (k + 1) ⟨by omega, ?_⟩ (by omega) ?_
     ·have h1 : xs[k] = ys[k] := by simpa using h
      rw [List.take_succ_eq_append_getElem hlt, List.take_succ_eq_append_getElem hlt2, he, h1]
     ·(refine le_tm ?_; simp only [LeTm, go_sem]; try simp)
   ·have hge : k = xs.length := by simp at h; omega
    clear hX hY X Y
    (refine aw_exit ?_; simp only [ThenA, InBl, reduceIte, Nat.reduceEqDiff]; (first | refine hK _ ?_ | (clear hK K; refine hK _ ?_) | (clear hK K; clear hK K; refine hK _ ?_) | (clear hK K; clear hK K; clear hK K; refine hK _ ?_) | (clear hK K; clear hK K; clear hK K; clear hK K; refine hK _ ?_) | (clear hK K; clear hK K; clear hK K; clear hK K; clear hK K; refine hK _ ?_)); clear hK K)
    (repeat (first | (refine aw_seq ?_; intro K hK) | refine aw_block ?_ | refine aw_region ?_ | (refine lst_x rfl rfl ?_; intro K1 hK1; simp only [go_sem]; (first | refine hK1 _ ?_ | refine andk (hK1 _ ?_)); clear hK1 K1) | ((first | refine lst_nil ?_ | refine aw_skip ?_); refine hK _ ?_; clear hK K)))
    ((try refine aw_ret ?_); (try refine lst_nil ?_); (try simp only [ThenA, InBl]); refine ret_mk (by first | exact .inl rfl | exact .inr rfl) rfl ?_; simp only [rtn, resA, resL, resV, Try.results45, go_sem])
    have : xs = ys := by
     rw [hge, List.take_length, hlen, List.take_length] at he
     exact he
    simp [this]
theorem subB_cons (x : Int) (a b : List Int) : subB (x :: a) b = (decide (x ∈ b) && subB a b) := rfl
theorem subset_fc (xs ys : List Int) (hn : xs.length ≤ 140737488355328) (hm : ys.length ≤ 140737488355328) (hx : Asc xs) (hy : Asc ys) : FC Try.prog 46 [aInts xs, aInts ys] [] (fun r o => o = [] ∧ r = .b (subB xs ys)) := by
 refine fc_intro Try.func46 rfl (by rw [Try.ntmps46]; simp) ?_
 rw [Try.ntmps46]
 simp only [enum, aInts]
 (repeat (first | (refine aw_seq ?_; intro K hK) | refine aw_block ?_ | refine aw_region ?_ | (refine lst_x rfl rfl ?_; intro K1 hK1; simp only [go_sem]; (first | refine hK1 _ ?_ | refine andk (hK1 _ ?_)); clear hK1 K1) | ((first | refine lst_nil ?_ | refine aw_skip ?_); refine hK _ ?_; clear hK K)))
 refine aw_loop (fun q : Nat × Nat => { tm := [(0, .a (.c (.t 1 (tInts xs)))), (1, .a (.c (.t 1 (tInts ys)))), (5, .i q.2), (8, .a (.c (.t 1 (tInts xs)))), (9, .i xs.length), (10, .i q.1)], hp := [], n := 41, pin := 0 }) (fun q => q.1 ≤ xs.length ∧ q.2 ≤ ys.length ∧ subB xs ys = subB (xs.drop q.1) (ys.drop q.2)) (fun q => xs.length - q.1) (0, 0) ?_ ?_ ?_
 ·exact ⟨by simp, by simp, rfl⟩
 ·(refine le_tm ?_; simp only [LeTm, go_sem, tInts_len]; try simp)
 ·rintro ⟨i, j⟩ ⟨hk, hj, he⟩ K hK
  simp only at hk hj he
  (repeat (first | (refine aw_seq ?_; intro K hK) | refine aw_block ?_ | refine aw_region ?_ | (refine lst_x rfl rfl ?_; intro K1 hK1; simp only [go_sem]; (first | refine hK1 _ ?_ | refine andk (hK1 _ ?_)); clear hK1 K1) | ((first | refine lst_nil ?_ | refine aw_skip ?_); refine hK _ ?_; clear hK K)))
  (refine aw_cnd ?_; intro X Y hX hY; simp only [go_sem])
  refine ⟨fun h => hX ?_, fun h => hY ?_⟩
  ·have hlt : i < xs.length := by simpa using h
   clear hX hY X Y h
   rw [drop_get hlt] at he
   have hax : Asc (xs[i] :: xs.drop (i + 1)) := by rw [← drop_get hlt]; exact List.Pairwise.sublist (List.drop_sublist _ _) hx
   (repeat (first | (refine aw_seq ?_; intro K hK) | refine aw_block ?_ | refine aw_region ?_ | (refine lst_x rfl rfl ?_; intro K1 hK1; simp only [go_sem, tInts_len, tInts_get (List.getElem?_eq_getElem hlt)]; (first | refine hK1 _ ?_ | refine andk (hK1 _ ?_)); clear hK1 K1) | ((first | refine lst_nil ?_ | refine aw_skip ?_); refine hK _ ?_; clear hK K)))
   refine aw_loop (fun q : Nat => { tm := [(0, .a (.c (.t 1 (tInts xs)))), (1, .a (.c (.t 1 (tInts ys)))), (5, .i q), (7, .i xs[i]), (8, .a (.c (.t 1 (tInts xs)))), (9, .i xs.length), (10, .i i)], hp := [], n := 41, pin := 0 }) (fun q => q ≤ ys.length ∧ subB xs ys = subB (xs[i] :: xs.drop (i + 1)) (ys.drop q)) (fun q => ys.length - q) j ?_ ?_ ?_
   ·exact ⟨hj, he⟩
   ·(refine le_tm ?_; simp only [LeTm, go_sem]; try simp)
   ·clear he hj
    rintro q ⟨hq, he⟩ K hK
    by_cases hlt2 : q < ys.length
    ·have hl2 : decide ((q : Int) < (ys.length : Int)) = true := by simpa using hlt2
     have hay : Asc (ys[q] :: ys.drop (q + 1)) := by rw [← drop_get hlt2]; exact List.Pairwise.sublist (List.drop_sublist _ _) hy
     (repeat (first | (refine aw_seq ?_; intro K hK) | refine aw_block ?_ | refine aw_region ?_ | (refine lst_x rfl rfl ?_; intro K1 hK1; simp only [go_sem, tInts_len, hl2, tInts_get (List.getElem?_eq_getElem hlt2)]; (first | refine hK1 _ ?_ | refine andk (hK1 _ ?_)); clear hK1 K1) | ((first | refine lst_nil ?_ | refine aw_skip ?_); refine hK _ ?_; clear hK K)))
     (refine aw_cnd ?_; intro X Y hX hY; simp only [go_sem])
     refine ⟨fun h => hX ?_, fun h => hY ?_⟩
     ·clear hX hY X Y
      have h1 : ys[q] < xs[i] := by simpa using h
      clear h
      (repeat (first | (refine aw_seq ?_; intro K hK) | refine aw_block ?_ | refine aw_region ?_ | (refine lst_x rfl rfl ?_; intro K1 hK1; simp only [go_sem]; (first | refine hK1 _ ?_ | refine andk (hK1 _ ?_)); clear hK1 K1) | ((first | refine lst_nil ?_ | refine aw_skip ?_); refine hK _ ?_; clear hK K)))
      ((try refine lst_nil ?_); (try refine aw_skip ?_); try simp only [ThenA])
      refine hK _ (q + 1) ⟨by omega, ?_⟩ (by omega) ?_
      ·rw [he, drop_get hlt2]
       have hno : ∀ x ∈ xs[i] :: xs.drop (i + 1), x ≠ ys[q] := by
        intro x hxm
        rcases List.mem_cons.1 hxm with rfl | hxm
        ·omega
        ·have := (List.pairwise_cons.1 hax).1 x hxm; omega
       rw [Bool.eq_iff_iff, subB_iff, subB_iff]
       constructor
       ·intro hh x hxm
        rcases List.mem_cons.1 (hh x hxm) with e | e
        ·exact absurd e (hno x hxm)
        ·exact e
       ·intro hh x hxm
        exact List.mem_cons_of_mem _ (hh x hxm)
      ·(refine le_tm ?_; simp only [LeTm, go_sem]; try simp)
     ·clear hX hY X Y
      have h1 : ¬ ys[q] < xs[i] := by simpa using h
      clear h
      (refine aw_exit ?_; simp only [ThenA, InBl, reduceIte, Nat.reduceEqDiff]; (first | refine hK _ ?_ | (clear hK K; refine hK _ ?_) | (clear hK K; clear hK K; refine hK _ ?_) | (clear hK K; clear hK K; clear hK K; refine hK _ ?_) | (clear hK K; clear hK K; clear hK K; clear hK K; refine hK _ ?_) | (clear hK K; clear hK K; clear hK K; clear hK K; clear hK K; refine hK _ ?_)); clear hK K)
      have hl3 : ((q : Int) == (ys.length : Int)) = false := by simp; omega
      (repeat (first | (refine aw_seq ?_; intro K hK) | refine aw_block ?_ | refine aw_region ?_ | (refine lst_x rfl rfl ?_; intro K1 hK1; simp only [go_sem, tInts_len, hl3, tInts_get (List.getElem?_eq_getElem hlt2)]; (first | refine hK1 _ ?_ | refine andk (hK1 _ ?_)); clear hK1 K1) | ((first | refine lst_nil ?_ | refine aw_skip ?_); refine hK _ ?_; clear hK K)))
      (refine aw_cnd ?_; intro X Y hX hY; simp only [go_sem])
      refine ⟨fun h => hX ?_, fun h => hY ?_⟩
      ·clear hX hY X Y
       (repeat (first | (refine aw_seq ?_; intro K hK) | refine aw_block ?_ | refine aw_region ?_ | (refine lst_x rfl rfl ?_; intro K1 hK1; simp only [go_sem]; (first | refine hK1 _ ?_ | refine andk (hK1 _ ?_)); clear hK1 K1) | ((first | refine lst_nil ?_ | refine aw_skip ?_); refine hK _ ?_; clear hK K)))
       ((try refine aw_ret ?_); (try refine lst_nil ?_); (try simp only [ThenA, InBl]); refine ret_mk (by first | exact .inl rfl | exact .inr rfl) rfl ?_; simp only [rtn, resA, resL, resV, Try.results46, go_sem])
       have h2 : ys[q] ≠ xs[i] := by simpa using h
       have h3 : xs[i] ∉ ys.drop q := by
        rw [drop_get hlt2]
        intro hm
        rcases List.mem_cons.1 hm with e | e
        ·exact h2 e.symm
        ·have := (List.pairwise_cons.1 hay).1 _ e; omega
       rw [he, subB_cons]
       simp [h3]
      ·clear hX hY X Y
       have h2 : ys[q] = xs[i] := by simpa using h
       (repeat (first | (refine aw_seq ?_; intro K hK) | refine aw_block ?_ | refine aw_region ?_ | (refine lst_x rfl rfl ?_; intro K1 hK1; simp only [go_sem]; (first | refine hK1 _ ?_ | refine andk (hK1 _ ?_)); clear hK1 K1) | ((first | refine lst_nil ?_ | refine aw_skip ?_); refine hK _ ?_; clear hK K)))
       ((try refine lst_nil ?_); (try refine aw_skip ?_); try simp only [ThenA])
       refine hK _ (i + 1, q) ⟨hlt, hq, ?_⟩ (by simp only; omega) ?_
       ·rw [he, subB_cons]
        have h3 : xs[i] ∈ ys.drop q := by rw [drop_get hlt2, h2]; simp
        simp [h3]
       ·(refine le_tm ?_; simp only [LeTm, go_sem]; try simp)
    ·have hl2 : decide ((q : Int) < (ys.length : Int)) = false := by simpa using hlt2
     (repeat (first | (refine aw_seq ?_; intro K hK) | refine aw_block ?_ | refine aw_region ?_ | (refine lst_x rfl rfl ?_; intro K1 hK1; simp only [go_sem, tInts_len, hl2]; (first | refine hK1 _ ?_ | refine andk (hK1 _ ?_)); clear hK1 K1) | ((first | refine lst_nil ?_ | refine aw_skip ?_); refine hK _ ?_; clear hK K)))
     (refine aw_cnd ?_; intro X Y hX hY; simp only [go_sem])
     refine hY ?_; clear hX hY X Y
     (refine aw_exit ?_; simp only [ThenA, InBl, reduceIte, Nat.reduceEqDiff]; (first | refine hK _ ?_ | (clear hK K; refine hK _ ?_) | (clear hK K; clear hK K; refine hK _ ?_) | (clear hK K; clear hK K; clear hK K; refine hK _ ?_) | (clear hK K; clear hK K; clear hK K; clear hK K; refine hK _ ?_) | (clear hK K; clear hK K; clear hK K; clear hK K; clear hK K; refine hK _ ?_)); clear hK K)
     have hl3 : ((q : Int) == (ys.length : Int)) = true := by simp; omega
     (repeat (first | (refine aw_seq ?_; intro K hK) | refine aw_block ?_ | refine aw_region ?_ | (refine lst_x rfl rfl ?_; intro K1 hK1; simp only [go_sem, tInts_len, hl3]; (first | refine hK1 _ ?_ | refine andk (hK1 _ ?_)); clear hK1 K1) | ((first | refine lst_nil ?_ | refine aw_skip ?_); refine hK _ ?_; clear hK K)))
     (refine aw_cnd ?_; intro X Y hX hY; simp only [go_sem])
     refine hX ?_; clear hX hY X Y
     (repeat (first | (refine aw_seq ?_; intro K hK) | refine aw_block ?_ | refine aw_region ?_ | (refine lst_x rfl rfl ?_; intro K1 hK1; simp only [go_sem]; (first | refine hK1 _ ?_ | refine andk (hK1 _ ?_)); clear hK1 K1) | ((first | refine lst_nil ?_ | refine aw_skip ?_); refine hK _ ?_; clear hK K)))
     ((try refine aw_ret ?_); (try refine lst_nil ?_); (try simp only [ThenA, InBl]); refine ret_mk (by first | exact .inl rfl | exact .inr rfl) rfl ?_; simp only [rtn, resA, resL, resV, Try.results46, go_sem])
     have : ys.drop q = [] := List.drop_eq_nil_of_le (by omega)
     rw [he, this, subB_cons]
     simp
  ·have hge : i = xs.length := by simp at h; omega
   clear hX hY X Y
   (refine aw_exit ?_; simp only [ThenA, InBl, reduceIte, Nat.reduceEqDiff]; (first | refine hK _ ?_ | (clear hK K; refine hK _ ?_) | (clear hK K; clear hK K; refine hK _ ?_) | (clear hK K; clear hK K; clear hK K; refine hK _ ?_) | (clear hK K; clear hK K; clear hK K; clear hK K; refine hK _ ?_) | (clear hK K; clear hK K; clear hK K; clear hK K; clear hK K; refine hK _ ?_)); clear hK K)
   (repeat (first | (refine aw_seq ?_; intro K hK) | refine aw_block ?_ | refine aw_region ?_ | (refine lst_x rfl rfl ?_; intro K1 hK1; simp only [go_sem]; (first | refine hK1 _ ?_ | refine andk (hK1 _ ?_)); clear hK1 K1) | ((first | refine lst_nil ?_ | refine aw_skip ?_); refine hK _ ?_; clear hK K)))
   ((try refine aw_ret ?_); (try refine lst_nil ?_); (try simp only [ThenA, InBl]); refine ret_mk (by first | exact .inl rfl | exact .inr rfl) rfl ?_; simp only [rtn, resA, resL, resV, Try.results46, go_sem])
   have : xs.drop i = [] := List.drop_eq_nil_of_le (by omega)
   rw [he, this]
   simp [subB]
end Go.Proofs.Ythlckclbjknldaa
namespace Go.Proofs.Ythlckclbjknldaa
set_option linter.unusedVariables false
set_option linter.unusedSimpArgs false
open Go.RowKit
set_option maxRecDepth 100000

def cmpGo {α : Type} [DecidableEq α] (p : α) : List α → List α
 | [] => []
 | y :: ys => if y = p then cmpGo p ys else y :: cmpGo y ys
def cmpA {α : Type} [DecidableEq α] : List α → List α
 | [] => []
 | x :: xs => x :: cmpGo x xs
section
variable {α : Type} [DecidableEq α]
theorem cmpGo_step {r ys : List α} {m p : Nat} {a b : α} (h : r = ys.take m ++ cmpGo a (ys.drop p)) (hm : m ≤ p) (hb : ys[p]? = some b) :
  (b = a → r = ys.take m ++ cmpGo b (ys.drop (p + 1))) ∧
  (b ≠ a → r = (ys.set m b).take (m + 1) ++ cmpGo b ((ys.set m b).drop (p + 1))) ∧ (b ≠ a → m = p → ys.set m b = ys) := by
 have hl := (List.getElem?_eq_some_iff.1 hb).1
 have hbe : ys[p] = b := (List.getElem?_eq_some_iff.1 hb).2
 have hd : ys.drop p = b :: ys.drop (p + 1) := by
  rw [List.drop_eq_getElem_cons hl, hbe]
 rw [hd] at h
 refine ⟨fun e => ?_, fun e => ?_, fun _ e => ?_⟩
 ·rw [h, e]; simp [cmpGo]
 ·have h2 : (ys.set m b).drop (p + 1) = ys.drop (p + 1) := by rw [List.drop_set, if_pos (by omega)]
  have h3 : (ys.set m b).take (m + 1) = ys.take m ++ [b] := by
   rw [List.take_add_one, List.take_set_of_le (Nat.le_refl m)]
   simp [List.getElem?_set, show m < ys.length by omega]
  rw [h, h2, h3]
  simp [cmpGo, e]
 ·subst e; rw [← hbe]; exact List.set_getElem_self hl
theorem cmpGo_end {r ys : List α} {m p : Nat} {a : α} (h : r = ys.take m ++ cmpGo a (ys.drop p)) (hp : ys.length ≤ p) : r = ys.take m := by
 rw [h, List.drop_eq_nil_of_le hp]; simp [cmpGo]
theorem cmpGo_sub {p x : α} {l : List α} (h : x ∈ cmpGo p l) : x ∈ l := by
 induction l generalizing p with
 | nil => simp [cmpGo] at h
 | cons y r ih =>
  unfold cmpGo at h
  split at h
  ·exact List.mem_cons_of_mem _ (ih h)
  ·rcases List.mem_cons.1 h with rfl | h
   ·simp
   ·exact List.mem_cons_of_mem _ (ih h)
theorem cmpGo_mem {p x : α} {l : List α} (h : x ∈ l) : x = p ∨ x ∈ cmpGo p l := by
 induction l generalizing p with
 | nil => cases h
 | cons y r ih =>
  unfold cmpGo
  split
  ·rename_i e
   rcases List.mem_cons.1 h with rfl | h
   ·exact .inl e
   ·exact ih h
  ·rcases List.mem_cons.1 h with rfl | h
   ·exact .inr (by simp)
   ·rcases ih (p := y) h with rfl | h
    ·exact .inr (by simp)
    ·exact .inr (List.mem_cons_of_mem _ h)
theorem mem_cmpA {x : α} {l : List α} : x ∈ cmpA l ↔ x ∈ l := by
 cases l with
 | nil => rfl
 | cons y r =>
  simp only [cmpA, List.mem_cons]
  constructor
  ·rintro (h | h)
   ·exact .inl h
   ·exact .inr (cmpGo_sub h)
  ·rintro (h | h)
   ·exact .inl h
   ·exact cmpGo_mem h
end
/-- sorted without repetitions -/
theorem cmpA_sort : ∀ {l : List (List Int)}, l.Pairwise (fun a b => lessI b a = false) → SortS (cmpA l)
 | [], _ => List.Pairwise.nil
 | x :: r, h => by
  have go : ∀ (r : List (List Int)) (p : List Int), (∀ y ∈ r, lessI y p = false) → r.Pairwise (fun a b => lessI b a = false) → SortS (p :: cmpGo p r) := by
   intro r
   induction r with
   | nil => intro p _ _; exact List.pairwise_singleton _ _
   | cons y r ih =>
    intro p h1 h2
    rw [List.pairwise_cons] at h2
    unfold cmpGo
    split
    ·rename_i e; exact ih p (fun z hz => h1 z (by simp [hz])) h2.2
    ·rename_i e
     have hpy : lessI p y = true := by
      rcases lessI_tri p y with h | h | h
      ·exact h
      ·exact absurd h.symm e
      ·rw [h1 y (by simp)] at h; cases h
     have hi := ih y h2.1 h2.2
     refine List.pairwise_cons.2 ⟨fun z hz => ?_, hi⟩
     rcases List.mem_cons.1 hz with rfl | hz
     ·exact hpy
     ·exact lessI_trans hpy ((List.pairwise_cons.1 hi).1 z hz)
  rw [List.pairwise_cons] at h
  exact go r x h.1 h.2

def cSets (L : List (List Int)) : List C := L.map fun x => C.t 1 (tInts x)
theorem cSets_get {xs : List (List Int)} {i : Nat} {x : List Int} (h : xs[i]? = some x) : (cSets xs)[i]? = some (.t 1 (tInts x)) := by simp [cSets, h]
theorem cSets_set (ys : List (List Int)) (m : Nat) (y : List Int) : cSets (ys.set m y) = (cSets ys).set m (.t 1 (tInts y)) := by simp [cSets, List.map_set]
theorem cSets_len (ys : List (List Int)) : (cSets ys).length = ys.length := by simp [cSets]
theorem cSets_up (f : Nat → Nat) (L : List (List Int)) : (cSets L).map (C.up f) = cSets L := by simp [cSets, C.up, Function.comp_def]
theorem cSets_ren (f : List Nat) (L : List (List Int)) : (cSets L).map (C.ren f) = cSets L := by simp [cSets, C.ren, Function.comp_def]
theorem setC_app : ∀ (zs cs : List C) (off : Nat), off + zs.length = cs.length → setC cs off zs = cs.take off ++ zs
 | [], cs, off, h => by simp [setC] at h ⊢; rw [List.take_of_length_le (by omega)]
 | x :: r, cs, off, h => by
  simp only [setC]
  rw [setC_app r _ (off + 1) (by simp at h ⊢; omega)]
  rw [List.take_add_one, List.take_set_of_le (Nat.le_refl _)]
  simp [List.getElem?_set, show off < cs.length by simp at h; omega]
set_option maxHeartbeats 1000000 in
theorem compact_sets (L : List (List Int)) (hn : L.length ≤ 100000000) (hb : ∀ x ∈ L, x.length ≤ 140737488355328) : FC Try.prog 44 [.a (.c (.s 0 L.length)), .a (.c (.f 45 []))] [.r ⟨22, 1, true, cSets L⟩]
  (fun r o => r = .a (.c (.s 0 (cmpA L).length)) ∧ ∃ rest us, Fz rest us ∧ o = [.r ⟨22, 1, true, cSets (cmpA L) ++ rest⟩]) := by
 refine fc_intro Try.func44 rfl (by rw [Try.ntmps44]; simp) ?_
 rw [Try.ntmps44]
 simp only [enum]
 (repeat (first | (refine aw_seq ?_; intro K hK) | refine aw_block ?_ | refine aw_region ?_ | (refine lst_x rfl rfl ?_; intro K1 hK1; simp only [go_sem]; (first | refine hK1 _ ?_ | refine andk (hK1 _ ?_)); clear hK1 K1) | ((first | refine lst_nil ?_ | refine aw_skip ?_); refine hK _ ?_; clear hK K)))
 (refine aw_cnd ?_; intro X Y hX hY; simp only [go_sem])
 refine ⟨fun h => hX ?_, fun h => hY ?_⟩
 ·clear hX hY X Y
  (repeat (first | (refine aw_seq ?_; intro K hK) | refine aw_block ?_ | refine aw_region ?_ | (refine lst_x rfl rfl ?_; intro K1 hK1; simp only [go_sem]; (first | refine hK1 _ ?_ | refine andk (hK1 _ ?_)); clear hK1 K1) | ((first | refine lst_nil ?_ | refine aw_skip ?_); refine hK _ ?_; clear hK K)))
  ((try refine aw_ret ?_); (try refine lst_nil ?_); (try simp only [ThenA, InBl]); refine ret_mk (by first | exact .inl rfl | exact .inr rfl) rfl ?_; simp only [rtn, resA, resL, resV, Try.results44, go_sem])
  have hc : cmpA L = L := by
   match L, h with
   | [], _ => rfl
   | [x], _ => rfl
   | _ :: _ :: _, h => simp at h; omega
  rw [hc]
  exact ⟨rfl, [], [], trivial, by simp⟩
 ·clear hX hY X Y
  have h2 : 2 ≤ L.length := by simp at h; omega
  clear h
  (repeat (first | (refine aw_seq ?_; intro K hK) | refine aw_block ?_ | refine aw_region ?_ | (refine lst_x rfl rfl ?_; intro K1 hK1; simp only [go_sem]; (first | refine hK1 _ ?_ | refine andk (hK1 _ ?_)); clear hK1 K1) | ((first | refine lst_nil ?_ | refine aw_skip ?_); refine hK _ ?_; clear hK K)))
  refine aw_loop (fun k : Nat => { tm := [(0, .a (.c (.s 0 L.length))), (1, .a (.c (.f 45 []))), (5, .i (k + 1 : Nat))], hp := [.r ⟨22, 1, true, cSets L⟩], n := 66, pin := 1 }) (fun k => k + 1 ≤ L.length ∧ cmpA L = L.take (k + 1) ++ cmpGo (L.getD k []) (L.drop (k + 1))) (fun k => L.length - k) 0 ?_ ?_ ?_
  ·refine ⟨by omega, ?_⟩
   match L, h2 with
   | x :: r, _ => simp [cmpA]
  ·(refine le_tm ?_; simp only [LeTm, go_sem]; try simp)
  ·rintro k ⟨hk, he⟩ K hK
   (repeat (first | (refine aw_seq ?_; intro K hK) | refine aw_block ?_ | refine aw_region ?_ | (refine lst_x rfl rfl ?_; intro K1 hK1; simp only [go_sem]; (first | refine hK1 _ ?_ | refine andk (hK1 _ ?_)); clear hK1 K1) | ((first | refine lst_nil ?_ | refine aw_skip ?_); refine hK _ ?_; clear hK K)))
   (refine aw_cnd ?_; intro X Y hX hY; simp only [go_sem])
   refine ⟨fun h => hX ?_, fun h => hY ?_⟩
   ·have hlt : k + 1 < L.length := by simp at h; omega
    have hlt0 : k < L.length := by omega
    clear hX hY X Y h
    have e1 : ((k + 1 : Nat) : Int) - 1 = (k : Int) := by omega
    have g0 : L.getD k [] = L[k] := by simp [List.getD, hlt0]
    rw [g0] at he
    have hst := cmpGo_step he (Nat.le_refl _) (List.getElem?_eq_getElem hlt)
    (repeat (first | (refine aw_seq ?_; intro K hK) | refine aw_block ?_ | refine aw_region ?_ | (refine lst_x rfl rfl ?_; intro K1 hK1; simp only [go_sem]; (first | refine hK1 _ ?_ | refine andk (hK1 _ ?_)); clear hK1 K1) | ((first | refine lst_nil ?_ | refine aw_skip ?_); refine hK _ ?_; clear hK K)))
    (refine aw_regionU 10 [(0, 0), (1, 0), (2, 0), (3, 0), (4, 1), (5, 0), (6, 0), (7, 0), (8, 0), (9, 1), (10, 2)] (by kernel_rfl) (by kernel_rfl) (by intro c st h; simp [ThenA, InBl, Ret] at h) ?_)
    (repeat (first | ((first | refine u_0x rfl rfl rfl ?_ | refine u_1x rfl rfl rfl ?_); intro K1 hK1; simp only [go_sem, e1, cSets_get (List.getElem?_eq_getElem hlt), cSets_get (List.getElem?_eq_getElem hlt0)]; (first | refine hK1 _ ?_ | refine andk (hK1 _ ?_)); clear hK1 K1) | (refine u_2x rfl rfl rfl rfl ?_; intro K1 hK1; simp only [go_sem, e1, cSets_get (List.getElem?_eq_getElem hlt), cSets_get (List.getElem?_eq_getElem hlt0)]; (first | refine hK1 _ ?_ | refine andk (hK1 _ ?_)); clear hK1 K1) | (refine u_nil ?_; refine hK _ ?_; clear hK K)))
    refine u_w rfl rfl rfl ?_; intro K1 hK1
    refine (stp_call0 (ids := []) (equal_fc L[k + 1] L[k] (hb _ (List.getElem_mem hlt)) (hb _ (List.getElem_mem hlt0))) rfl rfl (by simp only [go_sem]) (by kernel_rfl) (by (simp only [List.getElem_toArray, List.getElem_cons_zero, List.getElem_cons_succ, clos, List.append_nil, AV.ren, A0.ren, C.ren, go_sem]) <;> rfl) ?_).stp
    rintro _ _ ⟨rfl, rfl⟩
    (simp only [aInts, aSets, List.append_nil, List.nil_append, List.length_map, go_sem]; refine hK1 _ ?_; clear hK1 K1)
    (repeat (first | ((first | refine u_0x rfl rfl rfl ?_ | refine u_1x rfl rfl rfl ?_); intro K1 hK1; simp only [go_sem]; (first | refine hK1 _ ?_ | refine andk (hK1 _ ?_)); clear hK1 K1) | (refine u_2x rfl rfl rfl rfl ?_; intro K1 hK1; simp only [go_sem]; (first | refine hK1 _ ?_ | refine andk (hK1 _ ?_)); clear hK1 K1) | (refine u_nil ?_; refine hK _ ?_; clear hK K)))
    (refine aw_cnd ?_; intro X Y hX hY; simp only [go_sem])
    refine ⟨fun h => hX ?_, fun h => hY ?_⟩
    ·clear hX hY X Y
     have heq : L[k + 1] = L[k] := by simpa using h
     clear h
     have hI := hst.1 heq
     clear hst he
     (repeat (first | (refine aw_seq ?_; intro K hK) | refine aw_block ?_ | refine aw_region ?_ | (refine lst_x rfl rfl ?_; intro K1 hK1; simp only [go_sem]; (first | refine hK1 _ ?_ | refine andk (hK1 _ ?_)); clear hK1 K1) | ((first | refine lst_nil ?_ | refine aw_skip ?_); refine hK _ ?_; clear hK K)))
     refine aw_loop (fun q : Nat × Nat × List (List Int) => { tm := [(0, .a (.c (.s 0 L.length))), (1, .a (.c (.f 45 []))), (5, .i q.1), (6, .a (.c (.w 0 (k + 1) (L.length - (k + 1)) 1))), (7, .i (q.2.1 + 1 : Nat))], hp := [.r ⟨22, 1, true, cSets q.2.2⟩], n := 66, pin := 1 })
      (fun q => q.2.2.length = L.length ∧ (∀ x ∈ q.2.2, x ∈ L) ∧ q.1 ≤ k + 1 + q.2.1 ∧ k + 2 + q.2.1 ≤ L.length ∧ cmpA L = q.2.2.take q.1 ++ cmpGo (q.2.2.getD (k + 1 + q.2.1) []) (q.2.2.drop (k + 2 + q.2.1))) (fun q => L.length - q.2.1) (k + 1, 0, L) ?_ ?_ ?_
     ·refine ⟨rfl, fun x h => h, by simp, by simp only; omega, ?_⟩
      have : L.getD (k + 1) [] = L[k + 1] := by simp [List.getD, hlt]
      simp only [Nat.add_zero, this]
      exact hI
     ·(refine le_tm ?_; simp only [LeTm, go_sem]; try simp)
     ·clear hI
      rintro ⟨m, j, ys⟩ ⟨hyl, hys, hm, hj, he⟩ K hK
      simp only at hyl hys hm hj he
      (repeat (first | (refine aw_seq ?_; intro K hK) | refine aw_block ?_ | refine aw_region ?_ | (refine lst_x rfl rfl ?_; intro K1 hK1; simp only [go_sem]; (first | refine hK1 _ ?_ | refine andk (hK1 _ ?_)); clear hK1 K1) | ((first | refine lst_nil ?_ | refine aw_skip ?_); refine hK _ ?_; clear hK K)))
      (refine aw_cnd ?_; intro X Y hX hY; simp only [go_sem])
      refine ⟨fun h => hX ?_, fun h => hY ?_⟩
      ·have hlt : k + 1 + (j + 1) < ys.length := by simp at h; omega
       have hlt0 : k + 1 + j < ys.length := by omega
       have hw : ((j + 1 : Nat) : Int) < ((L.length - (k + 1) : Nat) : Int) := by omega
       have hw0 : (j : Int) < ((L.length - (k + 1) : Nat) : Int) := by omega
       clear hX hY X Y h
       have e1 : ((j + 1 : Nat) : Int) - 1 = (j : Int) := by omega
       have g0 : ys.getD (k + 1 + j) [] = ys[k + 1 + j] := by simp [List.getD, hlt0]
       rw [g0, show k + 2 + j = k + 1 + (j + 1) from by omega] at he
       have hst := cmpGo_step he (by omega) (List.getElem?_eq_getElem hlt)
       (repeat (first | (refine aw_seq ?_; intro K hK) | refine aw_block ?_ | refine aw_region ?_ | (refine lst_x rfl rfl ?_; intro K1 hK1; simp only [go_sem]; (first | refine hK1 _ ?_ | refine andk (hK1 _ ?_)); clear hK1 K1) | ((first | refine lst_nil ?_ | refine aw_skip ?_); refine hK _ ?_; clear hK K)))
       (refine aw_regionU 10 [(0, 0), (1, 0), (2, 0), (3, 0), (4, 1), (5, 0), (6, 0), (7, 0), (8, 0), (9, 1), (10, 2), (11, 0)] (by kernel_rfl) (by kernel_rfl) (by intro c st h; simp [ThenA, InBl, Ret] at h) ?_)
       (repeat (first | ((first | refine u_0x rfl rfl rfl ?_ | refine u_1x rfl rfl rfl ?_); intro K1 hK1; simp only [go_sem, e1, cSets_get (List.getElem?_eq_getElem hlt), cSets_get (List.getElem?_eq_getElem hlt0)]; (first | refine hK1 _ ?_ | refine andk (hK1 _ ?_)); clear hK1 K1) | (refine u_2x rfl rfl rfl rfl ?_; intro K1 hK1; simp only [go_sem, e1, cSets_get (List.getElem?_eq_getElem hlt), cSets_get (List.getElem?_eq_getElem hlt0)]; (first | refine hK1 _ ?_ | refine andk (hK1 _ ?_)); clear hK1 K1) | (refine u_nil ?_; refine hK _ ?_; clear hK K)))
       refine u_w rfl rfl rfl ?_; intro K1 hK1
       refine (stp_call0 (ids := []) (equal_fc ys[k + 1 + (j + 1)] ys[k + 1 + j] (hb _ (hys _ (List.getElem_mem hlt))) (hb _ (hys _ (List.getElem_mem hlt0)))) rfl rfl (by simp only [go_sem]) (by kernel_rfl) (by (simp only [List.getElem_toArray, List.getElem_cons_zero, List.getElem_cons_succ, clos, List.append_nil, AV.ren, A0.ren, C.ren, go_sem]) <;> rfl) ?_).stp
       rintro _ _ ⟨rfl, rfl⟩
       (simp only [aInts, aSets, List.append_nil, List.nil_append, List.length_map, go_sem]; refine hK1 _ ?_; clear hK1 K1)
       (repeat (first | ((first | refine u_0x rfl rfl rfl ?_ | refine u_1x rfl rfl rfl ?_); intro K1 hK1; simp only [go_sem]; (first | refine hK1 _ ?_ | refine andk (hK1 _ ?_)); clear hK1 K1) | (refine u_2x rfl rfl rfl rfl ?_; intro K1 hK1; simp only [go_sem]; (first | refine hK1 _ ?_ | refine andk (hK1 _ ?_)); clear hK1 K1) | (refine u_nil ?_; refine hK _ ?_; clear hK K)))
       (refine aw_cnd ?_; intro X Y hX hY; simp only [go_sem])
       refine ⟨fun h => hX ?_, fun h => hY ?_⟩
       ·clear hX hY X Y
        have hne : ys[k + 1 + (j + 1)] ≠ ys[k + 1 + j] := by simpa using h
        clear h
        have hm1 : m < ys.length := by omega
        (repeat (first | (refine aw_seq ?_; intro K hK) | refine aw_block ?_ | refine aw_region ?_ | (refine lst_x rfl rfl ?_; intro K1 hK1; simp only [go_sem, cSets_get (List.getElem?_eq_getElem hlt), cSets_len]; (first | refine hK1 _ ?_ | refine andk (hK1 _ ?_)); clear hK1 K1) | ((first | refine lst_nil ?_ | refine aw_skip ?_); refine hK _ ?_; clear hK K)))
        ((try refine lst_nil ?_); (try refine aw_skip ?_); try simp only [ThenA])
        have hst2 := hst.2.1 hne
        have hpp : (ys.set m ys[k + 1 + (j + 1)]).getD (k + 1 + (j + 1)) [] = ys[k + 1 + (j + 1)] := by
         rw [List.getD, List.getElem?_set_ne (by omega), List.getElem?_eq_getElem hlt]; rfl
        refine hK _ (m + 1, j + 1, ys.set m ys[k + 1 + (j + 1)]) ⟨by simp [hyl], ?_, by simp only; omega, by simp only; omega, ?_⟩ (by simp only; omega) ?_
        ·intro x hx
         rcases List.mem_or_eq_of_mem_set hx with hx | rfl
         ·exact hys x hx
         ·exact hys _ (List.getElem_mem hlt)
        ·simp only
         rw [hpp, show k + 2 + (j + 1) = k + 1 + (j + 1) + 1 from by omega]
         exact hst2
        ·simp only [cSets_set]
         (refine le_tm ?_; simp only [LeTm, go_sem]; try simp)
       ·clear hX hY X Y
        have heq : ys[k + 1 + (j + 1)] = ys[k + 1 + j] := by simpa using h
        clear h
        (repeat (first | (refine aw_seq ?_; intro K hK) | refine aw_block ?_ | refine aw_region ?_ | (refine lst_x rfl rfl ?_; intro K1 hK1; simp only [go_sem]; (first | refine hK1 _ ?_ | refine andk (hK1 _ ?_)); clear hK1 K1) | ((first | refine lst_nil ?_ | refine aw_skip ?_); refine hK _ ?_; clear hK K)))
        ((try refine lst_nil ?_); (try refine aw_skip ?_); try simp only [ThenA])
        refine hK _ (m, j + 1, ys) ⟨hyl, hys, by simp only; omega, by simp only; omega, ?_⟩ (by simp only; omega) ?_
        ·have h1 := hst.1 heq
         have : ys.getD (k + 1 + (j + 1)) [] = ys[k + 1 + (j + 1)] := by simp [List.getD, hlt]
         simp only
         rw [this, show k + 2 + (j + 1) = k + 1 + (j + 1) + 1 from by omega]
         exact h1
        ·(refine le_tm ?_; simp only [LeTm, go_sem]; try simp)
      ·clear hX hY X Y
       (refine aw_exit ?_; simp only [ThenA, InBl, reduceIte, Nat.reduceEqDiff]; (first | refine hK _ ?_ | (clear hK K; refine hK _ ?_) | (clear hK K; clear hK K; refine hK _ ?_) | (clear hK K; clear hK K; clear hK K; refine hK _ ?_) | (clear hK K; clear hK K; clear hK K; clear hK K; refine hK _ ?_) | (clear hK K; clear hK K; clear hK K; clear hK K; clear hK K; refine hK _ ?_)); clear hK K)
       have hend : ys.length ≤ k + 2 + j := by simp at h; omega
       have hfin := cmpGo_end he hend
       have hm2 : m < L.length := by omega
       (repeat (first | (refine aw_seq ?_; intro K hK) | refine aw_block ?_ | refine aw_region ?_ | (refine lst_x rfl rfl ?_; intro K1 hK1; simp only [go_sem]; (first | refine hK1 _ ?_ | refine andk (hK1 _ ?_)); clear hK1 K1) | ((first | refine lst_nil ?_ | refine aw_skip ?_); refine hK _ ?_; clear hK K)))
       refine lst_cons rfl ?_; intro K1 hK1
       refine stp_clear (n := L.length - m) (off := m) (k := 1) (id := 0) rfl rfl Try.underlying58 ty22 (by simp only [go_sem]) rfl (by omega) rfl rfl (by rw [cSets_len]; omega) ?_
       intro zs hz1 hz2
       have hset : setC (cSets ys) m zs = cSets (ys.take m) ++ zs := by
        rw [setC_app _ _ _ (by rw [cSets_len]; omega)]
        simp [cSets, List.map_take]
       simp only [hset, List.set_cons_zero, go_sem]
       refine hK1 _ ?_; clear hK1 K1
       (repeat (first | (refine aw_seq ?_; intro K hK) | refine aw_block ?_ | refine aw_region ?_ | (refine lst_x rfl rfl ?_; intro K1 hK1; simp only [go_sem]; (first | refine hK1 _ ?_ | refine andk (hK1 _ ?_)); clear hK1 K1) | ((first | refine lst_nil ?_ | refine aw_skip ?_); refine hK _ ?_; clear hK K)))
       ((try refine aw_ret ?_); (try refine lst_nil ?_); (try simp only [ThenA, InBl]); refine ret_mk (by first | exact .inl rfl | exact .inr rfl) rfl ?_; simp only [rtn, resA, resL, resV, Try.results44, go_sem])
       have hc : cmpA L = ys.take m := hfin
       rw [hc]
       refine ⟨by rw [List.length_take, Nat.min_eq_left (by omega)], zs, zs.map fun _ => Tr.l 1 [], ?_, rfl⟩
       have : zs = zs.map id := by simp
       rw [this, List.map_map]
       exact Fz.map fun c hc => by
        have := hz2 c hc
        simp at this
        subst this
        exact .inr ⟨rfl, 1, rfl⟩
    ·clear hX hY X Y
     have hne : L[k + 1] ≠ L[k] := by simpa using h
     clear h
     (repeat (first | (refine aw_seq ?_; intro K hK) | refine aw_block ?_ | refine aw_region ?_ | (refine lst_x rfl rfl ?_; intro K1 hK1; simp only [go_sem]; (first | refine hK1 _ ?_ | refine andk (hK1 _ ?_)); clear hK1 K1) | ((first | refine lst_nil ?_ | refine aw_skip ?_); refine hK _ ?_; clear hK K)))
     ((try refine lst_nil ?_); (try refine aw_skip ?_); try simp only [ThenA])
     refine hK _ (k + 1) ⟨hlt, ?_⟩ (by omega) ?_
     ·have h1 := hst.2.1 hne
      rw [hst.2.2 hne rfl] at h1
      have : L.getD (k + 1) [] = L[k + 1] := by simp [List.getD, hlt]
      rw [this]
      exact h1
     ·(refine le_tm ?_; simp only [LeTm, go_sem]; try simp)
   ·have hge : k + 1 = L.length := by simp at h; omega
    clear hX hY X Y
    (refine aw_exit ?_; simp only [ThenA, InBl, reduceIte, Nat.reduceEqDiff]; (first | refine hK _ ?_ | (clear hK K; refine hK _ ?_) | (clear hK K; clear hK K; refine hK _ ?_) | (clear hK K; clear hK K; clear hK K; refine hK _ ?_) | (clear hK K; clear hK K; clear hK K; clear hK K; refine hK _ ?_) | (clear hK K; clear hK K; clear hK K; clear hK K; clear hK K; refine hK _ ?_)); clear hK K)
    (repeat (first | (refine aw_seq ?_; intro K hK) | refine aw_block ?_ | refine aw_region ?_ | (refine lst_x rfl rfl ?_; intro K1 hK1; simp only [go_sem]; (first | refine hK1 _ ?_ | refine andk (hK1 _ ?_)); clear hK1 K1) | ((first | refine lst_nil ?_ | refine aw_skip ?_); refine hK _ ?_; clear hK K)))
    ((try refine aw_ret ?_); (try refine lst_nil ?_); (try simp only [ThenA, InBl]); refine ret_mk (by first | exact .inl rfl | exact .inr rfl) rfl ?_; simp only [rtn, resA, resL, resV, Try.results44, go_sem])
    have hc : cmpA L = L := by rw [he, hge]; simp [cmpGo]
    rw [hc]
    exact ⟨rfl, [], [], trivial, by simp⟩
end Go.Proofs.Ythlckclbjknldaa
namespace Go.Proofs.Ythlckclbjknldaa
set_option linter.unusedVariables false
set_option linter.unusedSimpArgs false

def rowOf (r : List Ar) : List Ar := r.foldl (fun acc a => insA a acc) []
def numOne (num old : List Int) (t : Int) : List Int × List Int := if num.getD t.toNat 0 < 0 then (num.set t.toNat old.length, old ++ [t]) else (num, old)
def rowGo : List Ar → List Int → List Int → List Ar → List Int × List Int × List Ar
 | [], num, old, nxt => (num, old, nxt)
 | a :: tl, num, old, nxt => rowGo tl (numOne num old a.2).1 (numOne num old a.2).2 (insA (a.1, (numOne num old a.2).1.getD a.2.toNat 0) nxt)
def canGo (rows : List (List Ar)) : Nat → Nat → List Int → List Int → List (List Ar) → List (List Ar) × List Int
 | 0, _, _, old, out => (out, old)
 | f + 1, i, num, old, out => match old[i]? with
  | none => (out, old)
  | some s => canGo rows f (i + 1) (rowGo (rowOf (rows.getD s.toNat [])) num old []).1 (rowGo (rowOf (rows.getD s.toNat [])) num old []).2.1 (out ++ [(rowGo (rowOf (rows.getD s.toNat [])) num old []).2.2])
def canonR (rows : List (List Ar)) : List (List Ar) × List Int := canGo rows rows.length 0 ((List.replicate rows.length (-1)).set 0 0) [0] []

theorem mem_foldl_ins (r acc : List Ar) (a : Ar) : a ∈ r.foldl (fun acc a => insA a acc) acc ↔ a ∈ acc ∨ a ∈ r := by
 induction r generalizing acc with
 | nil => simp
 | cons x xs ih => rw [List.foldl_cons, ih, mem_insA, List.mem_cons, or_comm (a := a = x), or_assoc]
theorem mem_rowOf (r : List Ar) (a : Ar) : a ∈ rowOf r ↔ a ∈ r := by unfold rowOf; rw [mem_foldl_ins]; simp
theorem len_foldl_ins (r acc : List Ar) : (r.foldl (fun acc a => insA a acc) acc).length ≤ acc.length + r.length := by
 induction r generalizing acc with
 | nil => simp
 | cons x xs ih => rw [List.foldl_cons, List.length_cons]; have := ih (insA x acc); have := insA_len x acc; omega
theorem len_rowOf (r : List Ar) : (rowOf r).length ≤ r.length := by have := len_foldl_ins r []; simpa [rowOf] using this

/-- numbers and queue fit -/
structure NumOk (n : Nat) (num old : List Int) : Prop where
 len : num.length = n
 rng : ∀ x ∈ num, -1 ≤ x ∧ x < n
 st : ∀ s ∈ old, 0 ≤ s ∧ s < n
 cnt : old.length + num.countP (fun x => decide (x < 0)) = n
theorem countP_set {p : Int → Bool} {l : List Int} {i : Nat} {x y : Int} (h : l[i]? = some x) (hx : p x = true) (hy : p y = false) : (l.set i y).countP p + 1 = l.countP p := by
 induction l generalizing i with
 | nil => simp at h
 | cons z zs ih =>
  cases i with
  | zero => simp at h; subst h; simp [List.countP_cons, hx, hy]
  | succ i =>
   simp only [List.getElem?_cons_succ] at h
   have := ih h
   simp only [List.set_cons_succ, List.countP_cons]
   omega
theorem NumOk.le {n : Nat} {num old : List Int} (h : NumOk n num old) : old.length ≤ n := by have := h.cnt; omega
theorem NumOk.get {n : Nat} {num old : List Int} (h : NumOk n num old) {t : Int} (h0 : 0 ≤ t) (h1 : t < n) : ∃ x, num[t.toNat]? = some x ∧ num.getD t.toNat 0 = x ∧ -1 ≤ x ∧ x < n := by
 have hl : t.toNat < num.length := by rw [h.len]; omega
 exact ⟨num[t.toNat], List.getElem?_eq_getElem hl, by simp [hl], h.rng _ (List.getElem_mem hl)⟩
theorem NumOk.one {n : Nat} {num old : List Int} (h : NumOk n num old) {t : Int} (h0 : 0 ≤ t) (h1 : t < n) : NumOk n (numOne num old t).1 (numOne num old t).2 := by
 obtain ⟨x, hx, hd, hb⟩ := h.get h0 h1
 unfold numOne
 rw [hd]
 split
 ·rename_i hneg
  have hc := countP_set (p := fun x => decide (x < 0)) (y := (old.length : Int)) hx (by simpa using hneg) (by simp)
  have hcnt := h.cnt
  refine ⟨by simp [h.len], fun y hy => ?_, fun s hs => ?_, by simp; omega⟩
  ·rcases List.mem_or_eq_of_mem_set hy with hy | hy
   ·exact h.rng y hy
   ·subst hy; omega
  ·rcases List.mem_append.1 hs with hs | hs
   ·exact h.st s hs
   ·simp at hs; subst hs; exact ⟨h0, h1⟩
 ·exact h
theorem NumOk.go {n : Nat} : ∀ (r : List Ar) {num old : List Int} (nxt : List Ar), NumOk n num old → (∀ a ∈ r, 0 ≤ a.2 ∧ a.2 < n) → NumOk n (rowGo r num old nxt).1 (rowGo r num old nxt).2.1
 | [], _, _, _, h, _ => h
 | a :: tl, _, _, nxt, h, hr => NumOk.go tl _ (h.one (hr a (by simp)).1 (hr a (by simp)).2) (fun b hb => hr b (List.mem_cons_of_mem _ hb))
theorem NumOk.start {n : Nat} (hn : 0 < n) : NumOk n ((List.replicate n (-1)).set 0 0) [0] := by
 obtain ⟨k, rfl⟩ : ∃ k, n = k + 1 := ⟨n - 1, by omega⟩
 refine ⟨by simp, fun x hx => ?_, fun s hs => ?_, ?_⟩
 ·rcases List.mem_or_eq_of_mem_set hx with h | h
  ·rw [(List.mem_replicate.1 h).2]; omega
  ·subst h; omega
 ·simp at hs; subst hs; omega
 ·simp [List.replicate_succ, List.countP_replicate]; omega


theorem canGo_stop {rows : List (List Ar)} {f i : Nat} {num old : List Int} {out : List (List Ar)} (h : old.length ≤ i) : canGo rows f i num old out = (out, old) := by
 cases f with
 | zero => rfl
 | succ f => simp [canGo, List.getElem?_eq_none h]
theorem canGo_step {rows : List (List Ar)} {n i : Nat} {num old : List Int} {out : List (List Ar)} {s : Int} {r : List Ar} (hi : i < n) (hs : old[i]? = some s) (hr : rows[s.toNat]? = some r) {row : List Ar} (hrow : row = rowOf r) :
  canGo rows (n - i) i num old out = canGo rows (n - (i + 1)) (i + 1) (rowGo row num old []).1 (rowGo row num old []).2.1 (out ++ [(rowGo row num old []).2.2]) := by
 obtain ⟨m, hm⟩ : ∃ m, n - i = m + 1 := ⟨n - i - 1, by omega⟩
 have hm' : n - (i + 1) = m := by omega
 rw [hm, hm', canGo, hs, hrow]
 have : rows.getD s.toNat [] = r := by simp [List.getD, hr]
 simp only [this]

def compGo (p : Ar) : List Ar → List Ar
 | [] => []
 | y :: ys => if y = p then compGo p ys else y :: compGo y ys
def compL : List Ar → List Ar
 | [] => []
 | x :: xs => x :: compGo x xs


theorem sorted_ext : ∀ {l m : List Ar}, SortA l → SortA m → (∀ a, a ∈ l ↔ a ∈ m) → l = m
 | [], [], _, _, _ => rfl
 | [], b :: m, _, _, h => by have := (h b).2 (by simp); simp at this
 | a :: l, [], _, _, h => by have := (h a).1 (by simp); simp at this
 | a :: l, b :: m, hl, hm, h => by
  have hl' := List.pairwise_cons.1 hl
  have hm' := List.pairwise_cons.1 hm
  have hab : a = b := by
   rcases List.mem_cons.1 ((h a).1 (by simp)) with e | e
   ·exact e
   ·rcases List.mem_cons.1 ((h b).2 (by simp)) with e' | e'
    ·exact e'.symm
    ·have h1 := hm'.1 a e
     have h2 := hl'.1 b e'
     rw [ltA_iff] at h1 h2; omega
  subst hab
  congr 1
  refine sorted_ext hl'.2 hm'.2 fun c => ⟨fun hc => ?_, fun hc => ?_⟩
  ·rcases List.mem_cons.1 ((h c).1 (List.mem_cons_of_mem _ hc)) with e | e
   ·subst e; have := hl'.1 c hc; rw [ltA_irr] at this; cases this
   ·exact e
  ·rcases List.mem_cons.1 ((h c).2 (List.mem_cons_of_mem _ hc)) with e | e
   ·subst e; have := hm'.1 c hc; rw [ltA_irr] at this; cases this
   ·exact e
def LeA (a b : Ar) : Prop := ltA b a = false
theorem compGo_mem (p : Ar) (l : List Ar) (a : Ar) : a ∈ p :: compGo p l ↔ a ∈ p :: l := by
 induction l generalizing p with
 | nil => simp [compGo]
 | cons y ys ih =>
  unfold compGo
  split
  ·rename_i h; subst h; rw [ih]; simp
  ·have := ih y
   simp only [List.mem_cons] at this ⊢
   rw [this]
theorem compGo_sorted (p : Ar) (l : List Ar) (h : (p :: l).Pairwise LeA) : SortA (p :: compGo p l) := by
 induction l generalizing p with
 | nil => simp [compGo, SortA]
 | cons y ys ih =>
  have h1 := List.pairwise_cons.1 h
  have h2 := List.pairwise_cons.1 h1.2
  unfold compGo
  split
  ·rename_i e; subst e
   exact ih _ (List.pairwise_cons.2 ⟨fun a ha => h2.1 a ha, h2.2⟩)
  ·rename_i e
   have hy := ih y h1.2
   refine List.pairwise_cons.2 ⟨fun a ha => ?_, hy⟩
   have hpy : ltA p y = true := by
    have := h1.1 y (by simp)
    rcases ltA_tri p y with h | h | h
    ·exact h
    ·exact absurd h.symm e
    ·unfold LeA at this; rw [h] at this; cases this
   rcases List.mem_cons.1 ha with rfl | ha
   ·exact hpy
   ·exact ltA_trans hpy ((List.pairwise_cons.1 hy).1 a ha)
theorem rowOf_sorted (r : List Ar) : SortA (rowOf r) := by
 unfold rowOf
 have : ∀ (l acc : List Ar), SortA acc → SortA (l.foldl (fun acc a => insA a acc) acc) := by
  intro l
  induction l with
  | nil => intro acc h; exact h
  | cons x xs ih => intro acc h; exact ih _ (insA_sort h)
 exact this r [] List.Pairwise.nil
theorem comp_sort {r q : List Ar} (hp : q.Perm r) (h : q.Pairwise LeA) : compL q = rowOf r := by
 refine sorted_ext ?_ (rowOf_sorted r) fun a => ?_
 ·cases q with
  | nil => exact List.Pairwise.nil
  | cons x xs => exact compGo_sorted x xs h
 ·rw [mem_rowOf, ← hp.mem_iff]
  cases q with
  | nil => simp [compL]
  | cons x xs => exact compGo_mem x xs a
theorem sort_nodup {r q : List Ar} (h : r.Nodup) (hp : q.Perm r) (h1 : q.Pairwise LeA) : q = rowOf r := by
 refine sorted_ext ?_ (rowOf_sorted r) fun a => by rw [mem_rowOf, hp.mem_iff]
 have h2 := hp.symm.nodup h
 refine (List.pairwise_iff_forall_sublist.2 ?_)
 intro a b hab
 have hle := List.pairwise_iff_forall_sublist.1 h1 hab
 have hne := List.pairwise_iff_forall_sublist.1 h2 hab
 rcases ltA_tri a b with h | h | h
 ·exact h
 ·exact absurd h hne
 ·unfold LeA at hle; rw [h] at hle; cases hle
theorem rowOf_ext {r q : List Ar} (h : ∀ a, a ∈ r ↔ a ∈ q) : rowOf r = rowOf q := sorted_ext (rowOf_sorted r) (rowOf_sorted q) fun a => by rw [mem_rowOf, mem_rowOf, h]

/-- the numbering of a row, in the row's own order -/
def numL : List Ar → List Int → List Int → List Int × List Int × List Ar
 | [], num, old => (num, old, [])
 | a :: tl, num, old =>
  ((numL tl (numOne num old a.2).1 (numOne num old a.2).2).1, (numL tl (numOne num old a.2).1 (numOne num old a.2).2).2.1,
   (a.1, (numOne num old a.2).1.getD a.2.toNat 0) :: (numL tl (numOne num old a.2).1 (numOne num old a.2).2).2.2)
theorem rowGo_numL (r : List Ar) (num old : List Int) (nxt : List Ar) :
  rowGo r num old nxt = ((numL r num old).1, (numL r num old).2.1, (numL r num old).2.2.foldl (fun acc a => insA a acc) nxt) := by
 induction r generalizing num old nxt with
 | nil => rfl
 | cons a tl ih => simp only [rowGo, numL, ih, List.foldl_cons]
structure NumInj (num old : List Int) : Prop where
 inj : ∀ (t : Nat) (x : Int), num[t]? = some x → 0 ≤ x → old[x.toNat]? = some (t : Int)
theorem NumInj.one {num old : List Int} (h : NumInj num old) {t : Int} (h0 : 0 ≤ t) (h1 : t < num.length) : NumInj (numOne num old t).1 (numOne num old t).2 := by
 unfold numOne
 split
 ·refine ⟨fun s x hx hp => ?_⟩
  rw [List.getElem?_set] at hx
  split at hx
  ·rename_i hs
   rw [if_pos (by omega)] at hx
   injection hx with hx
   subst hx
   simp
   omega
  ·have := h.inj s x hx hp
   rw [List.getElem?_append_left (List.getElem?_eq_some_iff.1 this).1]
   exact this
 ·exact h
theorem numOne_len (num old : List Int) (t : Int) : (numOne num old t).1.length = num.length := by unfold numOne; split <;> simp
theorem numOne_keep {num old : List Int} {t : Int} {s : Nat} {x : Int} (h0 : 0 ≤ t) (hx : num[s]? = some x) (hp : 0 ≤ x) : (numOne num old t).1[s]? = some x := by
 unfold numOne
 split
 ·rename_i hneg
  simp only [List.getElem?_set]
  split
  ·rename_i hs
   subst hs
   simp [List.getD, hx] at hneg
   omega
  ·exact hx
 ·exact hx
theorem numOne_at {num old : List Int} {t : Int} (h0 : 0 ≤ t) (h1 : t < num.length) : ∃ x, (numOne num old t).1[t.toNat]? = some x ∧ 0 ≤ x := by
 unfold numOne
 split
 ·exact ⟨_, by rw [List.getElem?_set, if_pos rfl, if_pos (by omega)], by omega⟩
 ·rename_i hneg
  have hl : t.toNat < num.length := by omega
  refine ⟨num[t.toNat], List.getElem?_eq_getElem hl, ?_⟩
  simpa [List.getD, List.getElem?_eq_getElem hl] using hneg
theorem numL_keep (r : List Ar) {num old : List Int} (hr : ∀ a ∈ r, 0 ≤ a.2) {s : Nat} {x : Int} (hx : num[s]? = some x) (hp : 0 ≤ x) : (numL r num old).1[s]? = some x := by
 induction r generalizing num old with
 | nil => exact hx
 | cons a tl ih => exact ih (fun b hb => hr b (by simp [hb])) (numOne_keep (hr a (by simp)) hx hp)
theorem numL_inj (r : List Ar) {num old : List Int} (hr : ∀ a ∈ r, 0 ≤ a.2 ∧ a.2 < num.length) (h : NumInj num old) : NumInj (numL r num old).1 (numL r num old).2.1 := by
 induction r generalizing num old with
 | nil => exact h
 | cons a tl ih =>
  have ha := hr a (by simp)
  exact ih (fun b hb => by rw [numOne_len]; exact hr b (by simp [hb])) (h.one ha.1 ha.2)
theorem numL_map (r : List Ar) {num old : List Int} (hr : ∀ a ∈ r, 0 ≤ a.2 ∧ a.2 < num.length) :
  (numL r num old).2.2 = r.map (fun a => (a.1, (numL r num old).1.getD a.2.toNat 0)) ∧ ∀ a ∈ r, ∃ x, (numL r num old).1[a.2.toNat]? = some x ∧ 0 ≤ x := by
 induction r generalizing num old with
 | nil => exact ⟨rfl, by simp⟩
 | cons a tl ih =>
  have ha := hr a (by simp)
  obtain ⟨i1, i2⟩ := ih (num := (numOne num old a.2).1) (old := (numOne num old a.2).2) (fun b hb => by rw [numOne_len]; exact hr b (by simp [hb]))
  obtain ⟨x, hx, hp⟩ := numOne_at (old := old) ha.1 ha.2
  have hk := numL_keep (old := (numOne num old a.2).2) tl (fun b hb => (hr b (by simp [hb])).1) hx hp
  refine ⟨?_, fun b hb => ?_⟩
  ·simp only [numL, List.map_cons]
   congr 1
   simp [List.getD, hx, hk]
  ·rcases List.mem_cons.1 hb with rfl | hb
   ·exact ⟨x, hk, hp⟩
   ·exact i2 b hb
theorem numL_nodup (r : List Ar) {num old : List Int} (hs : SortA r) (hr : ∀ a ∈ r, 0 ≤ a.2 ∧ a.2 < num.length) (h : NumInj num old) : (numL r num old).2.2.Nodup := by
 obtain ⟨h1, h2⟩ := numL_map (old := old) r hr
 have hi := numL_inj r hr h
 rw [h1, List.Nodup, List.pairwise_map]
 have hnd : r.Pairwise (· ≠ ·) := hs.imp (fun {a b} hab e => by subst e; rw [ltA_irr] at hab; cases hab)
 refine hnd.imp_of_mem (fun {a b} ha hb hne e => hne ?_)
 obtain ⟨x, hx, hxp⟩ := h2 a ha
 obtain ⟨y, hy, hyp⟩ := h2 b hb
 have ha' := hr a ha
 have hb' := hr b hb
 simp only [Prod.mk.injEq, List.getD, hx, hy, Option.getD_some] at e
 obtain ⟨e1, e2⟩ := e
 subst e2
 have q1 := hi.inj _ _ hx hxp
 have q2 := hi.inj _ _ hy hxp
 rw [q1] at q2
 injection q2 with q2
 rcases a with ⟨a1, a2⟩
 rcases b with ⟨b1, b2⟩
 simp only at *
 have : a2 = b2 := by omega
 rw [e1, this]
theorem NumInj.start {n : Nat} (hn : 0 < n) : NumInj ((List.replicate n (-1)).set 0 0) [0] := ⟨fun t x hx hp => by
 rw [List.getElem?_set] at hx
 split at hx
 ·rename_i h
  subst h
  simp [hn] at hx
  subst hx; rfl
 ·rw [List.getElem?_replicate] at hx
  split at hx
  ·cases hx; omega
  ·cases hx⟩

theorem numL_neg {tl : List Ar} {num old : List Int} {e x : Int} {tn L : Nat} (hx : num[tn]? = some x) (hneg : x < 0) (hL : old.length = L) :
  numL ((e, (tn : Int)) :: tl) num old = ((numL tl (num.set tn L) (old ++ [(tn : Int)])).1, (numL tl (num.set tn L) (old ++ [(tn : Int)])).2.1, (e, (L : Int)) :: (numL tl (num.set tn L) (old ++ [(tn : Int)])).2.2) := by
 have hl : tn < num.length := (List.getElem?_eq_some_iff.1 hx).1
 have h1 : numOne num old (tn : Int) = (num.set tn L, old ++ [(tn : Int)]) := by
  simp only [numOne, Int.toNat_natCast, List.getD, hx, Option.getD_some, if_pos hneg, hL]
 simp only [numL, h1, Int.toNat_natCast]
 simp [List.getD, hl]
theorem numL_pos {tl : List Ar} {num old : List Int} {e x : Int} {tn : Nat} (hx : num[tn]? = some x) (hpos : ¬ x < 0) :
  numL ((e, (tn : Int)) :: tl) num old = ((numL tl num old).1, (numL tl num old).2.1, (e, x) :: (numL tl num old).2.2) := by
 have h1 : numOne num old (tn : Int) = (num, old) := by
  simp only [numOne, Int.toNat_natCast, List.getD, hx, Option.getD_some, if_neg hpos]
 simp only [numL, h1, Int.toNat_natCast, List.getD, hx, Option.getD_some]
/-- how far the numbering of a row has come -/
def NL (R : List Int × List Int × List Ar) (ya q : List Ar) (k : Nat) (num old : List Int) : Prop :=
 ya.take k ++ (numL (q.drop k) num old).2.2 = R.2.2 ∧ (numL (q.drop k) num old).1 = R.1 ∧ (numL (q.drop k) num old).2.1 = R.2.1 ∧ ya.drop k = q.drop k
theorem NL.neg {R : List Int × List Int × List Ar} {ya q : List Ar} {k : Nat} {num old : List Int} {e x : Int} {tn L : Nat} (h : NL R ya q k num old) (hk : ya[k]? = some (e, (tn : Int))) (hx : num[tn]? = some x) (hneg : x < 0) (hL : old.length = L) :
  NL R (ya.set k (e, (L : Int))) q (k + 1) (num.set tn L) (old ++ [(tn : Int)]) := by
 obtain ⟨h1, h2, h3, h4⟩ := h
 have hl := (List.getElem?_eq_some_iff.1 hk).1
 have hd : q.drop k = (e, (tn : Int)) :: q.drop (k + 1) := by
  have h5 : ya.drop k = (e, (tn : Int)) :: ya.drop (k + 1) := by
   rw [List.drop_eq_getElem_cons hl]; congr 1
   rw [List.getElem?_eq_getElem hl] at hk; exact Option.some.inj hk
  have h6 := congrArg (List.drop 1) h4
  rw [List.drop_drop, List.drop_drop] at h6
  rw [← h4, h5, h6]
 rw [hd, numL_neg hx hneg hL] at h1 h2 h3
 refine ⟨?_, h2, h3, ?_⟩
 ·rw [← h1, List.take_add_one, List.take_set_of_le (Nat.le_refl k)]
  simp [List.getElem?_set, hl]
 ·rw [List.drop_set, if_pos (by omega)]
  have h6 := congrArg (List.drop 1) h4
  rwa [List.drop_drop, List.drop_drop] at h6
theorem NL.pos {R : List Int × List Int × List Ar} {ya q : List Ar} {k : Nat} {num old : List Int} {e x : Int} {tn : Nat} (h : NL R ya q k num old) (hk : ya[k]? = some (e, (tn : Int))) (hx : num[tn]? = some x) (hpos : ¬ x < 0) :
  NL R (ya.set k (e, x)) q (k + 1) num old := by
 obtain ⟨h1, h2, h3, h4⟩ := h
 have hl := (List.getElem?_eq_some_iff.1 hk).1
 have hd : q.drop k = (e, (tn : Int)) :: q.drop (k + 1) := by
  have h5 : ya.drop k = (e, (tn : Int)) :: ya.drop (k + 1) := by
   rw [List.drop_eq_getElem_cons hl]; congr 1
   rw [List.getElem?_eq_getElem hl] at hk; exact Option.some.inj hk
  have h6 := congrArg (List.drop 1) h4
  rw [List.drop_drop, List.drop_drop] at h6
  rw [← h4, h5, h6]
 rw [hd, numL_pos hx hpos] at h1 h2 h3
 refine ⟨?_, h2, h3, ?_⟩
 ·rw [← h1, List.take_add_one, List.take_set_of_le (Nat.le_refl k)]
  simp [List.getElem?_set, hl]
 ·rw [List.drop_set, if_pos (by omega)]
  have h6 := congrArg (List.drop 1) h4
  rwa [List.drop_drop, List.drop_drop] at h6


end Go.Proofs.Ythlckclbjknldaa
namespace Go.Proofs.Ythlckclbjknldaa
set_option linter.unusedVariables false
set_option linter.unusedSimpArgs false
open Go.RowKit
set_option maxRecDepth 100000

theorem cArcs_at {xs : List Ar} {i : Nat} (h : i < xs.length) : (((cArcs xs).drop (i * 2)).take 2) = [.v (.int .i64 xs[i].1), .v (.int .i64 xs[i].2)] := by
 have := congrArg (List.map C.ofTr) (tArcs_at h)
 rw [List.map_take, List.map_drop, tArcs_c] at this
 exact this
theorem cArcs_set {ys : List Ar} {m : Nat} (h : m < ys.length) {a b : Int} : ((cArcs ys).set (m * 2) (.v (.int .i64 a))).set (m * 2 + 1) (.v (.int .i64 b)) = cArcs (ys.set m (a, b)) := by
 induction ys generalizing m with
 | nil => simp at h
 | cons y r ih =>
  have e : cArcs (y :: r) = C.v (.int .i64 y.1) :: C.v (.int .i64 y.2) :: cArcs r := rfl
  cases m with
  | zero => rw [e]; rfl
  | succ m =>
   have e2 : cArcs ((y :: r).set (m + 1) (a, b)) = C.v (.int .i64 y.1) :: C.v (.int .i64 y.2) :: cArcs (r.set m (a, b)) := rfl
   rw [e, e2, ← ih (by simpa using h), show (m + 1) * 2 = m * 2 + 1 + 1 by omega]
   rfl
theorem arcNe_d (x y : Operand) (a b : Ar) : aggEq Try.prog .neq 34 x y [.int .i64 a.1, .int .i64 a.2] [.int .i64 b.1, .int .i64 b.2] (!decide (a = b)) = True := by
 rw [← arcEq_b]
 refine eq_true ?_
 have := (arcAe x y [.v (.int .i64 a.1), .v (.int .i64 a.2)] [.v (.int .i64 b.1), .v (.int .i64 b.2)] _ _ rfl rfl rfl rfl).2
 simpa [eqI] using this
theorem cmpA_comp : ∀ l : List Ar, cmpA l = compL l := by
 have h : ∀ (l : List Ar) (p : Ar), cmpGo p l = compGo p l := by
  intro l
  induction l with
  | nil => intro p; rfl
  | cons y ys ih => intro p; simp only [cmpGo, compGo, ih]
 intro l
 cases l with
 | nil => rfl
 | cons x xs => simp only [cmpA, compL, h]
attribute [local go_sem] List.map_cons List.map_nil List.take_succ_cons List.take_zero List.drop_zero List.drop_succ_cons C.pl C.one List.all_cons List.all_nil Bool.and_true
set_option maxHeartbeats 1000000 in
theorem compact_arcs (L : List Ar) (hn : L.length ≤ 100000000) : FC Try.prog 33 [.a (.c (.s 0 L.length))] [.r ⟨34, 2, true, cArcs L⟩]
  (fun r o => r = .a (.c (.s 0 (cmpA L).length)) ∧ ∃ rest us, Fz rest us ∧ (L = [] → rest = []) ∧ o = [.r ⟨34, 2, true, cArcs (cmpA L) ++ rest⟩]) := by
 refine fc_intro Try.func33 rfl (by rw [Try.ntmps33]; simp) ?_
 rw [Try.ntmps33]
 simp only [enum]
 (repeat (first | (refine aw_seq ?_; intro K hK) | refine aw_block ?_ | refine aw_region ?_ | (refine lst_x rfl rfl ?_; intro K1 hK1; simp only [go_sem]; (first | refine hK1 _ ?_ | refine andk (hK1 _ ?_)); clear hK1 K1) | ((first | refine lst_nil ?_ | refine aw_skip ?_); refine hK _ ?_; clear hK K)))
 (refine aw_cnd ?_; intro X Y hX hY; simp only [go_sem])
 refine ⟨fun h => hX ?_, fun h => hY ?_⟩
 ·clear hX hY X Y
  (repeat (first | (refine aw_seq ?_; intro K hK) | refine aw_block ?_ | refine aw_region ?_ | (refine lst_x rfl rfl ?_; intro K1 hK1; simp only [go_sem]; (first | refine hK1 _ ?_ | refine andk (hK1 _ ?_)); clear hK1 K1) | ((first | refine lst_nil ?_ | refine aw_skip ?_); refine hK _ ?_; clear hK K)))
  ((try refine aw_ret ?_); (try refine lst_nil ?_); (try simp only [ThenA, InBl]); refine ret_mk (by first | exact .inl rfl | exact .inr rfl) rfl ?_; simp only [rtn, resA, resL, resV, Try.results33, go_sem])
  have hc : cmpA L = L := by
   match L, h with
   | [], _ => rfl
   | [x], _ => rfl
   | _ :: _ :: _, h => simp at h; omega
  rw [hc]
  exact ⟨rfl, [], [], trivial, fun _ => rfl, by simp⟩
 ·clear hX hY X Y
  have h2 : 2 ≤ L.length := by simp at h; omega
  clear h
  (repeat (first | (refine aw_seq ?_; intro K hK) | refine aw_block ?_ | refine aw_region ?_ | (refine lst_x rfl rfl ?_; intro K1 hK1; simp only [go_sem]; (first | refine hK1 _ ?_ | refine andk (hK1 _ ?_)); clear hK1 K1) | ((first | refine lst_nil ?_ | refine aw_skip ?_); refine hK _ ?_; clear hK K)))
  refine aw_loop (fun k : Nat => { tm := [(0, .a (.c (.s 0 L.length))), (3, .i (k + 1 : Nat))], hp := [.r ⟨34, 2, true, cArcs L⟩], n := 61, pin := 1 }) (fun k => k + 1 ≤ L.length ∧ cmpA L = L.take (k + 1) ++ cmpGo (L.getD k (0, 0)) (L.drop (k + 1))) (fun k => L.length - k) 0 ?_ ?_ ?_
  ·refine ⟨by omega, ?_⟩
   match L, h2 with
   | x :: r, _ => simp [cmpA]
  ·(refine le_tm ?_; simp only [LeTm, go_sem]; try simp)
  ·rintro k ⟨hk, he⟩ K hK
   (repeat (first | (refine aw_seq ?_; intro K hK) | refine aw_block ?_ | refine aw_region ?_ | (refine lst_x rfl rfl ?_; intro K1 hK1; simp only [go_sem]; (first | refine hK1 _ ?_ | refine andk (hK1 _ ?_)); clear hK1 K1) | ((first | refine lst_nil ?_ | refine aw_skip ?_); refine hK _ ?_; clear hK K)))
   (refine aw_cnd ?_; intro X Y hX hY; simp only [go_sem])
   refine ⟨fun h => hX ?_, fun h => hY ?_⟩
   ·have hlt : k + 1 < L.length := by simp at h; omega
    have hlt0 : k < L.length := by omega
    clear hX hY X Y h
    have e1 : ((k + 1 : Nat) : Int) - 1 = (k : Int) := by omega
    have g0 : L.getD k (0, 0) = L[k] := by simp [List.getD, hlt0]
    rw [g0] at he
    have hst := cmpGo_step he (Nat.le_refl _) (List.getElem?_eq_getElem hlt)
    (repeat (first | (refine aw_seq ?_; intro K hK) | refine aw_block ?_ | refine aw_region ?_ | (refine lst_x rfl rfl ?_; intro K1 hK1; simp only [go_sem]; (first | refine hK1 _ ?_ | refine andk (hK1 _ ?_)); clear hK1 K1) | ((first | refine lst_nil ?_ | refine aw_skip ?_); refine hK _ ?_; clear hK K)))
    (refine aw_regionU 9 [(0, 0), (1, 0), (2, 0), (3, 1), (4, 0), (5, 0), (6, 0), (7, 0), (8, 1), (9, 2)] (by kernel_rfl) (by kernel_rfl) (by intro c st h; simp [ThenA, InBl, Ret] at h) ?_)
    (repeat (first | ((first | refine u_0x rfl rfl rfl ?_ | refine u_1x rfl rfl rfl ?_); intro K1 hK1; simp only [go_sem, e1, cArcs_at hlt, cArcs_at hlt0, cArcs_len, arcEq_d, arcEq_b, true_and]; (first | refine hK1 _ ?_ | refine andk (hK1 _ ?_)); clear hK1 K1) | (refine u_2x rfl rfl rfl rfl ?_; intro K1 hK1; simp only [go_sem, e1, cArcs_at hlt, cArcs_at hlt0, cArcs_len, arcEq_d, arcEq_b, true_and]; (first | refine hK1 _ ?_ | refine andk (hK1 _ ?_)); clear hK1 K1) | (refine u_nil ?_; refine hK _ ?_; clear hK K)))
    (refine aw_cnd ?_; intro X Y hX hY; simp only [go_sem])
    refine ⟨fun h => hX ?_, fun h => hY ?_⟩
    ·clear hX hY X Y
     have heq : L[k + 1] = L[k] := by simpa using h
     clear h
     have hI := hst.1 heq
     clear hst he
     (repeat (first | (refine aw_seq ?_; intro K hK) | refine aw_block ?_ | refine aw_region ?_ | (refine lst_x rfl rfl ?_; intro K1 hK1; simp only [go_sem]; (first | refine hK1 _ ?_ | refine andk (hK1 _ ?_)); clear hK1 K1) | ((first | refine lst_nil ?_ | refine aw_skip ?_); refine hK _ ?_; clear hK K)))
     refine aw_loop (fun q : Nat × Nat × List Ar => { tm := [(0, .a (.c (.s 0 L.length))), (3, .i q.1), (4, .a (.c (.w 0 (k + 1) (L.length - (k + 1)) 2))), (5, .i (q.2.1 + 1 : Nat))], hp := [.r ⟨34, 2, true, cArcs q.2.2⟩], n := 61, pin := 1 })
      (fun q => q.2.2.length = L.length ∧ (∀ x ∈ q.2.2, x ∈ L) ∧ q.1 ≤ k + 1 + q.2.1 ∧ k + 2 + q.2.1 ≤ L.length ∧ cmpA L = q.2.2.take q.1 ++ cmpGo (q.2.2.getD (k + 1 + q.2.1) (0, 0)) (q.2.2.drop (k + 2 + q.2.1))) (fun q => L.length - q.2.1) (k + 1, 0, L) ?_ ?_ ?_
     ·refine ⟨rfl, fun x h => h, by simp, by simp only; omega, ?_⟩
      have : L.getD (k + 1) (0, 0) = L[k + 1] := by simp [List.getD, hlt]
      simp only [Nat.add_zero, this]
      exact hI
     ·(refine le_tm ?_; simp only [LeTm, go_sem]; try simp)
     ·clear hI
      rintro ⟨m, j, ys⟩ ⟨hyl, hys, hm, hj, he⟩ K hK
      simp only at hyl hys hm hj he
      (repeat (first | (refine aw_seq ?_; intro K hK) | refine aw_block ?_ | refine aw_region ?_ | (refine lst_x rfl rfl ?_; intro K1 hK1; simp only [go_sem]; (first | refine hK1 _ ?_ | refine andk (hK1 _ ?_)); clear hK1 K1) | ((first | refine lst_nil ?_ | refine aw_skip ?_); refine hK _ ?_; clear hK K)))
      (refine aw_cnd ?_; intro X Y hX hY; simp only [go_sem])
      refine ⟨fun h => hX ?_, fun h => hY ?_⟩
      ·have hlt : k + 1 + (j + 1) < ys.length := by simp at h; omega
       have hlt0 : k + 1 + j < ys.length := by omega
       have hw : ((j + 1 : Nat) : Int) < ((L.length - (k + 1) : Nat) : Int) := by omega
       have hw0 : (j : Int) < ((L.length - (k + 1) : Nat) : Int) := by omega
       clear hX hY X Y h
       have e1 : ((j + 1 : Nat) : Int) - 1 = (j : Int) := by omega
       have g0 : ys.getD (k + 1 + j) (0, 0) = ys[k + 1 + j] := by simp [List.getD, hlt0]
       rw [g0, show k + 2 + j = k + 1 + (j + 1) from by omega] at he
       have hst := cmpGo_step he (by omega) (List.getElem?_eq_getElem hlt)
       (repeat (first | (refine aw_seq ?_; intro K hK) | refine aw_block ?_ | refine aw_region ?_ | (refine lst_x rfl rfl ?_; intro K1 hK1; simp only [go_sem]; (first | refine hK1 _ ?_ | refine andk (hK1 _ ?_)); clear hK1 K1) | ((first | refine lst_nil ?_ | refine aw_skip ?_); refine hK _ ?_; clear hK K)))
       have hk1 : k + 1 + (j + 1) = k + 1 + (j + 1) := rfl
       (refine aw_regionU 9 [(0, 0), (1, 0), (2, 0), (3, 1), (4, 0), (5, 0), (6, 0), (7, 0), (8, 1), (9, 2)] (by kernel_rfl) (by kernel_rfl) (by intro c st h; simp [ThenA, InBl, Ret] at h) ?_)
       (repeat (first | ((first | refine u_0x rfl rfl rfl ?_ | refine u_1x rfl rfl rfl ?_); intro K1 hK1; simp only [go_sem, e1, cArcs_at hlt, cArcs_at hlt0, cArcs_len, arcNe_d, arcEq_b, true_and]; (first | refine hK1 _ ?_ | refine andk (hK1 _ ?_)); clear hK1 K1) | (refine u_2x rfl rfl rfl rfl ?_; intro K1 hK1; simp only [go_sem, e1, cArcs_at hlt, cArcs_at hlt0, cArcs_len, arcNe_d, arcEq_b, true_and]; (first | refine hK1 _ ?_ | refine andk (hK1 _ ?_)); clear hK1 K1) | (refine u_nil ?_; refine hK _ ?_; clear hK K)))
       (refine aw_cnd ?_; intro X Y hX hY; simp only [go_sem])
       refine ⟨fun h => hX ?_, fun h => hY ?_⟩
       ·clear hX hY X Y
        have hne : ys[k + 1 + (j + 1)] ≠ ys[k + 1 + j] := by simpa using h
        clear h
        have hm1 : m < ys.length := by omega
        (repeat (first | (refine aw_seq ?_; intro K hK) | refine aw_block ?_ | refine aw_region ?_ | (refine lst_x rfl rfl ?_; intro K1 hK1; simp only [go_sem, cArcs_at hlt, cArcs_len, setC, cArcs_set hm1]; (first | refine hK1 _ ?_ | refine andk (hK1 _ ?_)); clear hK1 K1) | ((first | refine lst_nil ?_ | refine aw_skip ?_); refine hK _ ?_; clear hK K)))
        ((try refine lst_nil ?_); (try refine aw_skip ?_); try simp only [ThenA])
        have hst2 := hst.2.1 hne
        have hpp : (ys.set m ys[k + 1 + (j + 1)]).getD (k + 1 + (j + 1)) (0, 0) = ys[k + 1 + (j + 1)] := by
         rw [List.getD, List.getElem?_set_ne (by omega), List.getElem?_eq_getElem hlt]; rfl
        refine hK _ (m + 1, j + 1, ys.set m ys[k + 1 + (j + 1)]) ⟨by simp [hyl], ?_, by simp only; omega, by simp only; omega, ?_⟩ (by simp only; omega) ?_
        ·intro x hx
         rcases List.mem_or_eq_of_mem_set hx with hx | rfl
         ·exact hys x hx
         ·exact hys _ (List.getElem_mem hlt)
        ·simp only
         rw [hpp, show k + 2 + (j + 1) = k + 1 + (j + 1) + 1 from by omega]
         exact hst2
        ·(refine le_tm ?_; simp only [LeTm, go_sem]; try simp)
       ·clear hX hY X Y
        have heq : ys[k + 1 + (j + 1)] = ys[k + 1 + j] := by simpa using h
        clear h
        (repeat (first | (refine aw_seq ?_; intro K hK) | refine aw_block ?_ | refine aw_region ?_ | (refine lst_x rfl rfl ?_; intro K1 hK1; simp only [go_sem]; (first | refine hK1 _ ?_ | refine andk (hK1 _ ?_)); clear hK1 K1) | ((first | refine lst_nil ?_ | refine aw_skip ?_); refine hK _ ?_; clear hK K)))
        ((try refine lst_nil ?_); (try refine aw_skip ?_); try simp only [ThenA])
        refine hK _ (m, j + 1, ys) ⟨hyl, hys, by simp only; omega, by simp only; omega, ?_⟩ (by simp only; omega) ?_
        ·have h1 := hst.1 heq
         have : ys.getD (k + 1 + (j + 1)) (0, 0) = ys[k + 1 + (j + 1)] := by simp [List.getD, hlt]
         simp only
         rw [this, show k + 2 + (j + 1) = k + 1 + (j + 1) + 1 from by omega]
         exact h1
        ·(refine le_tm ?_; simp only [LeTm, go_sem]; try simp)
      ·clear hX hY X Y
       (refine aw_exit ?_; simp only [ThenA, InBl, reduceIte, Nat.reduceEqDiff]; (first | refine hK _ ?_ | (clear hK K; refine hK _ ?_) | (clear hK K; clear hK K; refine hK _ ?_) | (clear hK K; clear hK K; clear hK K; refine hK _ ?_) | (clear hK K; clear hK K; clear hK K; clear hK K; refine hK _ ?_) | (clear hK K; clear hK K; clear hK K; clear hK K; clear hK K; refine hK _ ?_)); clear hK K)
       have hend : ys.length ≤ k + 2 + j := by simp at h; omega
       have hfin := cmpGo_end he hend
       have hm2 : m < L.length := by omega
       (repeat (first | (refine aw_seq ?_; intro K hK) | refine aw_block ?_ | refine aw_region ?_ | (refine lst_x rfl rfl ?_; intro K1 hK1; simp only [go_sem]; (first | refine hK1 _ ?_ | refine andk (hK1 _ ?_)); clear hK1 K1) | ((first | refine lst_nil ?_ | refine aw_skip ?_); refine hK _ ?_; clear hK K)))
       refine lst_cons rfl ?_; intro K1 hK1
       refine stp_clear (n := L.length - m) (off := m) (k := 2) (id := 0) rfl rfl Try.underlying32 ty34 (by simp only [go_sem]) rfl (by omega) rfl rfl (by simp only [cArcs_len]; omega) ?_
       intro zs hz1 hz2
       have hset : setC (cArcs ys) (m * 2) zs = cArcs (ys.take m) ++ zs := by
        rw [setC_app _ _ _ (by rw [cArcs_len]; omega), cArcs_take]
       simp only [hset, List.set_cons_zero, go_sem]
       refine hK1 _ ?_; clear hK1 K1
       (repeat (first | (refine aw_seq ?_; intro K hK) | refine aw_block ?_ | refine aw_region ?_ | (refine lst_x rfl rfl ?_; intro K1 hK1; simp only [go_sem]; (first | refine hK1 _ ?_ | refine andk (hK1 _ ?_)); clear hK1 K1) | ((first | refine lst_nil ?_ | refine aw_skip ?_); refine hK _ ?_; clear hK K)))
       ((try refine aw_ret ?_); (try refine lst_nil ?_); (try simp only [ThenA, InBl]); refine ret_mk (by first | exact .inl rfl | exact .inr rfl) rfl ?_; simp only [rtn, resA, resL, resV, Try.results33, go_sem])
       have hc : cmpA L = ys.take m := hfin
       rw [hc]
       refine ⟨by rw [List.length_take, Nat.min_eq_left (by omega)], zs, zs.map fun _ => Tr.v (.int .i64 0), ?_, fun h0 => by rw [h0] at h2; simp at h2, rfl⟩
       have : zs = zs.map id := by simp
       rw [this, List.map_map]
       exact Fz.map fun c hc => by
        have := hz2 c hc
        simp at this
        subst this
        exact .inl rfl
    ·clear hX hY X Y
     have hne : L[k + 1] ≠ L[k] := by simpa using h
     clear h
     (repeat (first | (refine aw_seq ?_; intro K hK) | refine aw_block ?_ | refine aw_region ?_ | (refine lst_x rfl rfl ?_; intro K1 hK1; simp only [go_sem]; (first | refine hK1 _ ?_ | refine andk (hK1 _ ?_)); clear hK1 K1) | ((first | refine lst_nil ?_ | refine aw_skip ?_); refine hK _ ?_; clear hK K)))
     ((try refine lst_nil ?_); (try refine aw_skip ?_); try simp only [ThenA])
     refine hK _ (k + 1) ⟨hlt, ?_⟩ (by omega) ?_
     ·have h1 := hst.2.1 hne
      rw [hst.2.2 hne rfl] at h1
      have : L.getD (k + 1) (0, 0) = L[k + 1] := by simp [List.getD, hlt]
      rw [this]
      exact h1
     ·(refine le_tm ?_; simp only [LeTm, go_sem]; try simp)
   ·have hge : k + 1 = L.length := by simp at h; omega
    clear hX hY X Y
    (refine aw_exit ?_; simp only [ThenA, InBl, reduceIte, Nat.reduceEqDiff]; (first | refine hK _ ?_ | (clear hK K; refine hK _ ?_) | (clear hK K; clear hK K; refine hK _ ?_) | (clear hK K; clear hK K; clear hK K; refine hK _ ?_) | (clear hK K; clear hK K; clear hK K; clear hK K; refine hK _ ?_) | (clear hK K; clear hK K; clear hK K; clear hK K; clear hK K; refine hK _ ?_)); clear hK K)
    (repeat (first | (refine aw_seq ?_; intro K hK) | refine aw_block ?_ | refine aw_region ?_ | (refine lst_x rfl rfl ?_; intro K1 hK1; simp only [go_sem]; (first | refine hK1 _ ?_ | refine andk (hK1 _ ?_)); clear hK1 K1) | ((first | refine lst_nil ?_ | refine aw_skip ?_); refine hK _ ?_; clear hK K)))
    ((try refine aw_ret ?_); (try refine lst_nil ?_); (try simp only [ThenA, InBl]); refine ret_mk (by first | exact .inl rfl | exact .inr rfl) rfl ?_; simp only [rtn, resA, resL, resV, Try.results33, go_sem])
    have hc : cmpA L = L := by rw [he, hge]; simp [cmpGo]
    rw [hc]
    exact ⟨rfl, [], [], trivial, fun _ => rfl, by simp⟩

end Go.Proofs.Ythlckclbjknldaa
namespace Go.Proofs.Ythlckclbjknldaa
set_option linter.unusedVariables false
set_option linter.unusedSimpArgs false
open Go.RowKit Go.Shelf Go.Sort

/-- the cells of an arc, as values -/
def cpA (a : Ar) : List Value := [.int .i64 a.1, .int .i64 a.2]
theorem cpA_cells (xs : List Ar) : cArcs xs = (xs.flatMap cpA).map C.v := by simp [cArcs, cpA, List.map_flatMap]
theorem swoR : Sort.SWO (ltOf cmpR) where
 irrefl x := by rw [show ltOf cmpR x x = ltA x x from cmpR_lt x x]; exact ltA_irr x
 trans x y z h1 h2 := by
  rw [show ltOf cmpR x y = ltA x y from cmpR_lt x y] at h1
  rw [show ltOf cmpR y z = ltA y z from cmpR_lt y z] at h2
  rw [show ltOf cmpR x z = ltA x z from cmpR_lt x z]
  exact ltA_trans h1 h2
 ntrans x y z h1 h2 := by
  rw [show ltOf cmpR x y = ltA x y from cmpR_lt x y] at h1
  rw [show ltOf cmpR y z = ltA y z from cmpR_lt y z] at h2
  rw [show ltOf cmpR x z = ltA x z from cmpR_lt x z]
  cases h3 : ltA x z with
  | false => rfl
  | true =>
   have h1 : ¬ ltA x y = true := by rw [h1]; simp
   have h2 : ¬ ltA y z = true := by rw [h2]; simp
   rw [ltA_iff] at h1 h2 h3
   omega
theorem flatK_A (xs : List Ar) : flatK cpA 2 xs.toArray = (xs.flatMap cpA).toArray := by
 apply Array.ext
 ·simp [flat_len cpA 2 (fun _ => rfl)]
 ·intro t h1 h2
  simp only [size_flatK, List.size_toArray] at h1
  have hd : t / 2 < xs.length := Nat.div_lt_of_lt_mul (by rw [Nat.mul_comm]; exact h1)
  have hm : t % 2 < 2 := Nat.mod_lt _ (by omega)
  have hg := flat_get cpA 2 (fun _ => rfl) xs (t / 2) (t % 2) xs[t / 2] (List.getElem?_eq_getElem hd) hm
  have htd : t / 2 * 2 + t % 2 = t := by rw [Nat.mul_comm]; exact Nat.div_add_mod t 2
  rw [htd] at hg
  have h3 := get_flatK cpA 2 xs.toArray t (by simpa using h1)
  rw [getElem!_pos _ t (by simpa using h1)] at h3
  rw [h3]
  have h4 : (xs.toArray)[t / 2]! = xs[t / 2] := by simp [hd]
  rw [h4, getElem!_pos _ _ (by simp [cpA]; omega)]
  have hlt : t < (xs.flatMap cpA).length := by rw [flat_len cpA 2 (fun _ => rfl)]; exact h1
  rw [List.getElem?_eq_getElem hlt, List.getElem?_eq_getElem (by simp [cpA]; omega)] at hg
  exact (Option.some.inj hg).symm
def sortA (xs : List Ar) : List Ar := xs.mergeSort fun x y => !(ltOf cmpR) y x
theorem sortA_perm (l : List Ar) : (sortA l).Perm l := List.mergeSort_perm _ _
theorem sortA_le (l : List Ar) : (sortA l).Pairwise fun a b => ltA b a = false := by
 have e (x y : Ar) : ltOf cmpR x y = ltA x y := cmpR_lt x y
 have h := List.pairwise_mergeSort (le := fun x y => !(ltOf cmpR) y x) (fun a b c h1 h2 => by
  simp only [e, Bool.not_eq_true'] at *
  cases h3 : ltA c a with
  | false => rfl
  | true =>
   have h1 : ¬ ltA b a = true := by rw [h1]; simp
   have h2 : ¬ ltA c b = true := by rw [h2]; simp
   rw [ltA_iff] at h1 h2 h3
   omega) (fun a b => by
  simp only [e]
  cases h1 : ltA b a <;> cases h2 : ltA a b <;> simp
  rw [ltA_iff] at h1 h2; omega) l
 refine h.imp ?_
 intro a b hab
 simpa [e] using hab
theorem grown_of_fpA {w w' : World} (h : Fp (fun _ => False) w w') : ∃ q os, w' = grow (w.drewN q) os := by
 refine ⟨w'.drawn - w.drawn, w'.heap.extract w.heap.size w'.heap.size, ?_⟩
 obtain ⟨hp, tp, dr, o, ou⟩ := w'
 obtain ⟨h1, h2, h3, h4, h5, h6⟩ := h
 simp only at h1 h2 h3 h4 h5 h6
 subst h1; subst h2; subst h3
 simp only [grow, World.drewN]
 congr 1
 ·apply Array.ext'
  simp only [Array.toList_append, Array.toList_extract]
  apply List.ext_getElem?
  intro i
  by_cases hi : i < w.heap.size
  ·rw [List.getElem?_append_left (by simpa using hi)]
   have := h5 i hi (fun h => h)
   simpa using this
  ·rw [List.getElem?_append_right (by simpa using hi)]
   simp only [List.extract_eq_take_drop, Array.length_toList, List.getElem?_take, List.getElem?_drop]
   split
   ·congr 1; omega
   ·rename_i hn; simp; omega
 ·omega
theorem noLv (gg : Gh) (ℓ : Loc) : ¬ Lv [] gg ℓ := by
 intro hl
 cases ℓ with
 | ob id => rcases hl with ⟨r, h, _⟩ | ⟨kv, h⟩ <;> simp at h
 | cl id j => obtain ⟨r, k, cs, h, _⟩ := hl; simp at h
theorem lvA {g : Gh} {e : TypeId} {L : List Ar} {ℓ : Loc} : Lv [.r ⟨e, 2, true, cArcs L⟩] g ℓ ↔ ℓ = .ob 0 ∧ g.κ 0 ≠ 0 := by
 cases ℓ with
 | ob id =>
  constructor
  ·rintro (⟨r, h1, h2⟩ | ⟨kv, h1⟩)
   ·cases id with
    | zero => exact ⟨rfl, h2⟩
    | succ i => simp at h1
   ·cases id with
    | zero => simp at h1
    | succ i => simp at h1
  ·rintro ⟨h1, h2⟩
   cases h1
   exact .inl ⟨_, rfl, h2⟩
 | cl id j =>
  constructor
  ·rintro ⟨r, k, cs, h1, h2, h3⟩
   cases id with
   | zero =>
    simp at h1; subst h1
    rw [cpA_cells, List.getElem?_map, Option.map_eq_some_iff] at h2
    obtain ⟨x, _, h2⟩ := h2
    cases h2
   | succ i => simp at h1
  ·rintro ⟨h1, h2⟩; cases h1
set_option maxHeartbeats 1000000 in
theorem sortA_fc (f : FuncId) (hf : callable Try.prog f = true) (hcmp : ∀ a b : Ar, FC Try.prog f [.a (.g [.v (.int .i64 a.1), .v (.int .i64 a.2)]), .a (.g [.v (.int .i64 b.1), .v (.int .i64 b.2)])] [] (fun r o => o = [] ∧ r = .i (cmpR a b))) (L : List Ar) (hsz : L.length ≤ 100000000) :
  FC Try.prog 31 [.a (.c (.s 0 L.length)), .a (.c (.f f []))] [.r ⟨34, 2, true, cArcs L⟩]
   (fun r o => r = .u ∧ ∃ L' : List Ar, L'.Perm L ∧ L'.Pairwise (fun a b => ltA b a = false) ∧ o = [.r ⟨34, 2, true, cArcs L'⟩]) := by
 intro g w vals hr hargs
 obtain ⟨hlen, hargs⟩ := hargs
 obtain ⟨v1, e1, b1, b2, A, rfl, b4, b5⟩ := hargs 0 _ rfl
 obtain ⟨v2, e2, c1, c2⟩ := hargs 1 _ rfl
 have hv2 : v2 = .func (.func f) #[] #[] := by rw [c2]; simp [clo]
 subst hv2
 have hvals : vals = [.slice A L.length (g.κ 0), .func (.func f) #[] #[]] := by
  match vals, hlen with
  | [a, b], _ => simp at e1 e2; simp [e1, e2]
 subst hvals
 rcases hr.row 0 _ rfl with ⟨h0, hnil⟩ | ⟨h0, hne, arr, ha, hle, hs, hmx, hcells⟩
 ·have hL0 : L = [] := by
   have : (cArcs L).length = 0 := by have h : cArcs L = [] := hnil; rw [h]; rfl
   rw [cArcs_len] at this
   exact List.length_eq_zero_iff.1 (by omega)
  subst hL0
  refine (AnyF.slices_SortFunc_none Try.sortArcs A (g.κ 0) (.func (.func f) #[] #[]) w).mono ?_
  rintro e' w' ⟨rfl, rfl⟩
  exact ⟨.tuple #[], .u, _, g, rfl, ⟨rfl, [], List.Perm.refl _, List.Pairwise.nil, rfl⟩, hr, ⟨Nat.le_refl _, Ext.refl _ _⟩, fun ℓ hl => .inl ⟨ℓ, hl, rfl⟩, trivial, Fp.refl _ _⟩
 ·have hL0 : L ≠ [] := fun e => by subst e; exact hne rfl rfl
  have x0 : 0 < L.length := List.length_pos_iff.2 hL0
  rw [b4 h0] at *
  have hblk : g.γ (.ob 0) < w.heap.size := (Array.getElem?_eq_some_iff.1 ha).1
  have hle' : L.length * 2 ≤ arr.size := by simpa [cArcs_len] using hle
  have hfl := flat_len cpA 2 (fun _ => rfl) L
  have hget : ∀ j, j < L.length * 2 → arr[j]? = (L.flatMap cpA)[j]? := by
   intro j hj
   obtain ⟨v, hv⟩ : ∃ v, (L.flatMap cpA)[j]? = some v := ⟨_, List.getElem?_eq_getElem (by rw [hfl]; exact hj)⟩
   obtain ⟨u, u1, u2⟩ := hcells j (.v v) (by rw [cpA_cells, List.getElem?_map, hv]; rfl)
   have hu : u = v := u2
   rw [u1, hv, hu]
  have hlays : CmpLays Try.prog f #[] cpA 2 cmpR (g.γ (.ob 0)) 0 L.toArray.size w := by
   intro m os dk _ x y
   have hoth : ∀ k, k < w.heap.size → ¬ Ow [.r ⟨34, 2, true, cArcs L⟩] g k → (sortWorldK cpA 2 w (g.γ (.ob 0)) 0 m dk os).heap[k]? = w.heap[k]? := by
    intro k hk hn
    have hn2 : k ≠ g.γ (.ob 0) := fun e => hn (.inr ⟨.ob 0, lvA.2 ⟨rfl, h0⟩, e.symm⟩)
    unfold sortWorldK putRowK putRow mapBlock Sort.grow Sort.ahead
    simp only
    rw [Array.getElem?_append_left (by simpa using hk), Array.getElem?_modify, if_neg (Ne.symm hn2)]
   generalize hW : sortWorldK cpA 2 w (g.γ (.ob 0)) 0 m dk os = W at hoth
   have hsz' : w.heap.size ≤ W.heap.size := by rw [← hW]; simp [sortWorldK, putRowK, putRow, mapBlock, Sort.grow, Sort.ahead]
   have hHR : HR ⟨g.γ, g.κ, fun _ => False⟩ [] W := ⟨fun b hb => hb.elim, fun ℓ hl => absurd hl (noLv _ ℓ), fun ℓ _ hl => absurd hl (noLv _ ℓ), fun id r h => by simp at h, fun id r h => by simp at h, hr.gl.keep hsz' hoth (fun k _ hk => hk.elim (fun h => h.elim) (fun ⟨ℓ, hl, _⟩ => absurd hl (noLv _ ℓ)))⟩
   have hA : argsR ⟨g.γ, g.κ, fun _ => False⟩ [] W [.a (.g [.v (.int .i64 x.1), .v (.int .i64 x.2)]), .a (.g [.v (.int .i64 y.1), .v (.int .i64 y.2)])] [.agg #[.int .i64 x.1, .int .i64 x.2], .agg #[.int .i64 y.1, .int .i64 y.2]] := by
    refine ⟨rfl, fun i a hi => ?_⟩
    have ag : ∀ z : Ar, A0R (CR ⟨g.γ, g.κ, fun _ => False⟩ [] W) (.g [.v (.int .i64 z.1), .v (.int .i64 z.2)]) (.agg #[.int .i64 z.1, .int .i64 z.2]) := fun z => ⟨[.int .i64 z.1, .int .i64 z.2], rfl, rfl, fun q c hq => by
     match q, hq with
     | 0, hq => simp at hq; subst hq; exact ⟨_, rfl, rfl⟩
     | 1, hq => simp at hq; subst hq; exact ⟨_, rfl, rfl⟩
     | q + 2, hq => simp at hq⟩
    match i, hi with
    | 0, hi => cases hi; exact ⟨_, rfl, ag x⟩
    | 1, hi => cases hi; exact ⟨_, rfl, ag y⟩
    | i + 2, hi => simp at hi
   refine Calls.mono (hcmp x y _ _ _ hHR hA) ?_
   rintro e' w' ⟨v, r, outs, g', rfl, ⟨rfl, rfl⟩, _, _, _, hv, hfp⟩
   exact ⟨by rw [show v = _ from hv], grown_of_fpA (hfp.mono fun k _ ⟨ℓ, hl, _⟩ => absurd hl (noLv _ ℓ))⟩
  have hH : HoldsK cpA 2 w (g.γ (.ob 0)) 0 L.toArray := by
   unfold HoldsK Holds
   rw [flatK_A]
   intro j hj
   simp only [List.size_toArray, hfl] at hj
   constructor
   ·rw [Nat.zero_add, cell_of_row w _ j arr _ (0, 0) ha, hget j hj, getElem!_pos _ j (by simpa [hfl] using hj)]
    simp [hfl, hj]
   ·simp [World.frozen?, ha]
  have eg : ∀ args w, (callFunc f args).run Try.prog w = .ok (.enter f args) w := fun args w => run_callFunc_body hf args w
  have hcon := AnyQ.slices_SortFunc_total Try.sortArcs 2 Try.isAgg34 Try.sizeOf34 cpA (fun _ => rfl) (fun x v hv => by simp [cpA] at hv; rcases hv with rfl | rfl <;> rfl) cmpR swoR f #[] (g.γ (.ob 0)) 0 (g.κ 0) L.toArray w eg hlays hH hblk (by simp; omega)
   (fun x y h1 h2 => by
    rw [show ltOf cmpR x y = ltA x y from cmpR_lt x y] at h1
    rw [show ltOf cmpR y x = ltA y x from cmpR_lt y x] at h2
    rcases ltA_tri x y with h | h | h
    ·rw [h] at h1; cases h1
    ·exact h
    ·rw [h] at h2; cases h2)
  change Calls Try.prog 31 _ _ _ at hcon
  have hsz2 : L.toArray.size = L.length := by simp
  rw [hsz2] at hcon
  refine hcon.mono ?_
  rintro e' w' ⟨rfl, m, os, rfl⟩
  have hSl : (sortA L).length = L.length := List.length_mergeSort _
  have hfl' := flat_len cpA 2 (fun _ => rfl) (sortA L)
  have hself : (sortWorldK cpA 2 w (g.γ (.ob 0)) 0 m (sortA L).toArray os).heap[g.γ (.ob 0)]? = some (.cells (putCells id 0 ((sortA L).flatMap cpA).toArray arr) 34 (0, 0)) := by
   unfold sortWorldK putRowK putRow mapBlock Sort.grow Sort.ahead
   rw [flatK_A]
   simp only
   rw [Array.getElem?_append_left (by simpa using hblk), Array.getElem?_modify, if_pos rfl, ha]
   rfl
  have hsize : w.heap.size ≤ (sortWorldK cpA 2 w (g.γ (.ob 0)) 0 m (sortA L).toArray os).heap.size := by simp [sortWorldK, putRowK, putRow, mapBlock, Sort.grow, Sort.ahead]
  have hother : ∀ k, k < w.heap.size → k ≠ g.γ (.ob 0) → (sortWorldK cpA 2 w (g.γ (.ob 0)) 0 m (sortA L).toArray os).heap[k]? = w.heap[k]? := by
   intro k hk hn
   unfold sortWorldK putRowK putRow mapBlock Sort.grow Sort.ahead
   simp only
   rw [Array.getElem?_append_left (by simpa using hk), Array.getElem?_modify, if_neg (Ne.symm hn)]
  have hfp : Fp (LiveB [.r ⟨34, 2, true, cArcs L⟩] g) w (sortWorldK cpA 2 w (g.γ (.ob 0)) 0 m (sortA L).toArray os) :=
   ⟨rfl, rfl, rfl, hsize, fun k hk hm => hother k hk fun e => hm ⟨.ob 0, lvA.2 ⟨rfl, h0⟩, e.symm⟩, by simp [sortWorldK, putRowK, putRow, mapBlock, Sort.grow, Sort.ahead]⟩
  refine ⟨.tuple #[], .u, _, g, rfl, ⟨rfl, sortA L, sortA_perm L, sortA_le L, rfl⟩, ?_, ⟨by simp, Ext.refl _ _⟩, fun ℓ hl => .inl ⟨ℓ, lvA.2 (lvA.1 hl), rfl⟩, trivial, hfp⟩
  refine ⟨fun b hb => Nat.lt_of_lt_of_le (hr.ml b hb) hsize, fun ℓ hl => hr.md ℓ (lvA.2 (lvA.1 hl)), fun ℓ ℓ' hl hl' => hr.inj ℓ ℓ' (lvA.2 (lvA.1 hl)) (lvA.2 (lvA.1 hl')), fun id r hid => ?_, fun id r hid => ?_, hr.gl.keep hsize (fun k hk hn => hother k hk (fun e => hn (.inr ⟨.ob 0, lvA.2 ⟨rfl, h0⟩, e.symm⟩))) (fun k _ hk => hk.imp (fun h => h) (fun ⟨ℓ, hl, e⟩ => ⟨ℓ, lvA.2 (lvA.1 hl), e⟩))⟩
  ·cases id with
   | succ i => simp at hid
   | zero =>
    simp at hid
    subst hid
    refine .inr ⟨h0, fun _ hn => ?_, _, hself, ?_, ?_, hmx, fun j c hj => ?_⟩
    ·have : (cArcs (sortA L)).length = 0 := by simp only at hn; rw [hn]; rfl
     rw [cArcs_len, hSl] at this; omega
    ·simp only [cArcs_len, hSl, putCells, Array.size_mapIdx]; exact hle'
    ·simpa [putCells] using hs
    ·rw [cpA_cells, List.getElem?_map, Option.map_eq_some_iff] at hj
     obtain ⟨v, hv, rfl⟩ := hj
     have hjl : j < L.length * 2 := by have := (List.getElem?_eq_some_iff.1 hv).1; rw [hfl', hSl] at this; exact this
     refine ⟨v, ?_, rfl⟩
     have hj2 : j < ((sortA L).flatMap cpA).length := by rw [hfl', hSl]; exact hjl
     have hjc : j < arr.size := by omega
     simp only [putCells, Array.getElem?_mapIdx, Nat.zero_le, true_and, Nat.zero_add, List.size_toArray, hj2, if_true, Nat.sub_zero]
     rw [Array.getElem?_eq_getElem hjc]
     rw [List.getElem?_eq_getElem hj2] at hv
     have hv2 := Option.some.inj hv
     rw [← hv2]
     simp
     rw [List.getElem?_eq_getElem hj2]; rfl
  ·cases id with
   | zero => simp at hid
   | succ i => simp at hid
end Go.Proofs.Ythlckclbjknldaa
namespace Go.Proofs.Ythlckclbjknldaa
set_option linter.unusedVariables false
set_option linter.unusedSimpArgs false
open Go.RowKit

theorem le_take {s : ST} (i m : Nat) {r : Row} (hi : s.hp[i]? = some (.r r)) (hm : r.sl = true → r.cells.take m = [] → r.cells = []) : Le s { s with hp := s.hp.set i (.r { r with cells := r.cells.take m }) } := by
 rintro M0 w0 a w ⟨g, hpp, hR⟩
 have hlt : i < s.hp.length := (List.getElem?_eq_some_iff.1 hi).1
 have self : (s.hp.set i (.r { r with cells := r.cells.take m }))[i]? = some (.r { r with cells := r.cells.take m }) := by simp [hlt]
 have other : ∀ q, q ≠ i → (s.hp.set i (.r { r with cells := r.cells.take m }))[q]? = s.hp[q]? := fun q hq => by rw [List.getElem?_set_ne (Ne.symm hq)]
 have tk : ∀ (j : Nat) (c : C), (r.cells.take m)[j]? = some c → r.cells[j]? = some c := fun j c h => by
  rw [List.getElem?_take] at h
  split at h
  ·exact h
  ·cases h
 generalize hh : s.hp.set i (.r { r with cells := r.cells.take m }) = hp' at *
 have sub : ∀ ℓ, Lv hp' g ℓ → Lv s.hp g ℓ := by
  intro ℓ hl
  cases ℓ with
  | ob q =>
   by_cases hq : q = i
   ·subst hq
    rcases hl with ⟨r2, e1, e2⟩ | ⟨kv, e1⟩
    ·exact .inl ⟨r, hi, e2⟩
    ·rw [self] at e1; cases e1
   ·rcases hl with ⟨r2, e1, e2⟩ | ⟨kv, e1⟩
    ·exact .inl ⟨r2, by rw [← other q hq]; exact e1, e2⟩
    ·exact .inr ⟨kv, by rw [← other q hq]; exact e1⟩
  | cl q j =>
   by_cases hq : q = i
   ·subst hq
    obtain ⟨r2, k, cs, e1, e2, e3⟩ := hl
    rw [self] at e1; cases e1
    exact ⟨r, k, cs, hi, tk j _ e2, e3⟩
   ·obtain ⟨r2, k, cs, e1, e2, e3⟩ := hl
    exact ⟨r2, k, cs, by rw [← other q hq]; exact e1, e2, e3⟩
 have ow : ∀ b, Ow hp' g b → Ow s.hp g b := fun b ho => ho.imp (fun h => h) (fun ⟨ℓ, hl, e⟩ => ⟨ℓ, sub ℓ hl, e⟩)
 have hmo : Mo g s.hp w g hp' w (fun _ => True) := by
  refine ⟨fun q hq => ⟨?_, rfl, rfl⟩, fun b _ ho => ow b ho, Nat.le_refl _, fun _ _ _ => rfl, fun q _ hq r2 j k cs e1 e2 => ?_⟩
  ·by_cases e : q = i
   ·subst e; exact ⟨_, self, rfl⟩
   ·obtain ⟨o, h1, h2⟩ := hq
    exact ⟨o, by rw [other q e]; exact h1, h2⟩
  ·by_cases e : q = i
   ·subst e
    rw [self] at e1
    cases e1
    exact ⟨r, hi, tk j _ e2, fun _ => rfl⟩
   ·exact ⟨r2, by rw [← other q e]; exact e1, e2, fun _ => rfl⟩
 have hr := hR.hr
 refine ⟨g, ⟨by show s.pin ≤ hp'.length; rw [← hh]; simpa using hpp.1, hpp.2⟩, hR.mo hmo ?_ (fun ℓ hl => hR.new ℓ (sub ℓ hl)) hR.fp⟩
 refine ⟨hr.ml, fun ℓ hl => hr.md ℓ (sub ℓ hl), fun ℓ ℓ' h1 h2 => hr.inj ℓ ℓ' (sub ℓ h1) (sub ℓ' h2), fun q r2 e1 => ?_, fun q kv e1 => ?_, hmo.gl hr.gl⟩
 ·by_cases e : q = i
  ·subst e
   rw [self] at e1
   cases e1
   rcases hr.row q r hi with ⟨k1, k2⟩ | ⟨k1, k2, arr, k3, k4, k5, k6, k7⟩
   ·exact .inl ⟨k1, by simp [k2]⟩
   ·refine .inr ⟨k1, fun h1 h2 => k2 h1 (hm h1 h2), arr, k3, Nat.le_trans (by simp only [List.length_take]; omega) k4, k5, k6, fun j c hj => ?_⟩
    obtain ⟨u, u1, u2⟩ := k7 j c (tk j c hj)
    exact ⟨u, u1, CellR.mo hmo u2 (fun k cs hc _ => ⟨rfl, rfl⟩)⟩
  ·rw [other q e] at e1
   exact RowR.mo hmo e1 (hr.row q r2 e1) (fun _ => rfl) (fun _ _ _ _ _ => ⟨rfl, rfl⟩)
 ·by_cases e : q = i
  ·subst e; rw [self] at e1; cases e1
  ·rw [other q e] at e1
   exact MpR.mo hmo e1 (hr.mp q kv e1) rfl
end Go.Proofs.Ythlckclbjknldaa
