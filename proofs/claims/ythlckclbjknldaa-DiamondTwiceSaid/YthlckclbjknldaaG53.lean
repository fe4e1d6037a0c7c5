/- flow: Ticks, Initials, Acceptance. Maps in walks: look-ups and updates at keys that are not literals. flow.Key. -/
import Derived.Test.YthlckclbjknldaaMso
import Derived.Test.YthlckclbjknldaaMK
namespace Go.Proofs.Ythlckclbjknldaa
set_option linter.unusedVariables false
set_option linter.unusedSimpArgs false
open Go.RowKit
set_option maxRecDepth 100000
attribute [local go_sem] List.set_cons_zero List.set_cons_succ List.map_cons List.map_nil List.take_succ_cons List.take_zero List.drop_zero List.drop_succ_cons C.pl C.one List.all_cons List.all_nil Bool.and_true Nat.mul_one Int.toNat_natCast

theorem indexFunc_arcs (XS : List Ar) (p : Ar → Bool) (fn : Nat) (hn : XS.length ≤ 100000000) (hcal : callable Try.prog fn = true)
  (hf : ∀ x ∈ XS, FC Try.prog fn [.a (.g [.v (.int .i64 x.1), .v (.int .i64 x.2)])] [] (fun r o => o = [] ∧ r = .b (p x))) :
  FC Try.prog 80 [.a (.c (.t 2 (tArcs XS))), .a (.c (.f fn []))] [] (fun r o => o = [] ∧ ∃ n : Int, r = .i n ∧ -1 ≤ n ∧ (0 ≤ n ↔ XS.any p = true)) := by
 refine fc_intro Try.func80 rfl (by rw [Try.ntmps80]; simp) ?_
 rw [Try.ntmps80]
 simp only [enum]
 (repeat (first | (refine aw_seq ?_; intro K hK) | refine aw_block ?_ | refine aw_region ?_ | (refine lst_x rfl rfl ?_; intro K1 hK1; simp only [go_sem, tArcs_len, half2]; (first | refine hK1 _ ?_ | refine andk (hK1 _ ?_)); clear hK1 K1) | ((first | refine lst_nil ?_ | refine aw_skip ?_); refine hK _ ?_; clear hK K)))
 refine aw_loop (fun i : Nat => { tm := [(0, .a (.c (.t 2 (tArcs XS)))), (1, .a (.c (.f fn []))), (7, .i XS.length), (8, .i i)], hp := [], n := 19, pin := 0 }) (fun i => i ≤ XS.length ∧ ∀ j x, j < i → XS[j]? = some x → p x = false) (fun i => XS.length - i) 0 ?_ ?_ ?_
 ·exact ⟨by omega, by intro i x hi; omega⟩
 ·(refine le_tm ?_; simp only [LeTm, go_sem]; try simp)
 ·rintro i ⟨hk, hno⟩ K hK
  by_cases hlt : i < XS.length
  ·have hl1 : decide ((i : Int) < (XS.length : Int)) = true := by simpa using hlt
   have hg := List.getElem?_eq_getElem hlt
   have hk2 := tArcs_at hlt
   (repeat (first | (refine aw_seq ?_; intro K hK) | refine aw_block ?_ | refine aw_region ?_ | (refine lst_x rfl rfl ?_; intro K1 hK1; simp only [go_sem, hl1]; (first | refine hK1 _ ?_ | refine andk (hK1 _ ?_)); clear hK1 K1) | ((first | refine lst_nil ?_ | refine aw_skip ?_); refine hK _ ?_; clear hK K)))
   (refine aw_cnd ?_; intro X Y hX hY; simp only [go_sem])
   refine hX ?_
   clear hX hY X Y
   (repeat (first | (refine aw_seq ?_; intro K hK) | refine aw_block ?_ | refine aw_region ?_ | (refine lst_x rfl rfl ?_; intro K1 hK1; simp only [go_sem, tArcs_len, half2, hk2]; (first | refine hK1 _ ?_ | refine andk (hK1 _ ?_)); clear hK1 K1) | ((first | refine lst_nil ?_ | refine aw_skip ?_); refine hK _ ?_; clear hK K)))
   (refine lst_cons rfl ?_; intro K1 hK1; refine stp_callσ (ids := []) [] (hf XS[i] (List.getElem_mem hlt)) rfl rfl (by simp only [go_sem]) (by first | assumption | kernel_rfl) rfl rfl (by (simp only [List.map_append, List.append_nil, go_sem]) <;> rfl) (by (simp only [pkh, go_sem]) <;> rfl) ?_ ?_)
   ·rintro _ _ ⟨rfl, rfl⟩; rfl
   rintro _ _ ⟨rfl, rfl⟩
   (simp only [aInts, aSets, List.append_nil, List.nil_append, List.length_map, go_sem]; refine hK1 _ ?_; clear hK1 K1)
   cases hp : p XS[i] with
   | true =>
    (repeat (first | (refine aw_seq ?_; intro K hK) | refine aw_block ?_ | refine aw_region ?_ | (refine lst_x rfl rfl ?_; intro K1 hK1; simp only [go_sem, hp]; (first | refine hK1 _ ?_ | refine andk (hK1 _ ?_)); clear hK1 K1) | ((first | refine lst_nil ?_ | refine aw_skip ?_); refine hK _ ?_; clear hK K)))
    (refine aw_cnd ?_; intro X Y hX hY; simp only [go_sem])
    refine hX ?_
    clear hX hY X Y
    (repeat (first | (refine aw_seq ?_; intro K hK) | refine aw_block ?_ | refine aw_region ?_ | (refine lst_x rfl rfl ?_; intro K1 hK1; simp only [go_sem]; (first | refine hK1 _ ?_ | refine andk (hK1 _ ?_)); clear hK1 K1) | ((first | refine lst_nil ?_ | refine aw_skip ?_); refine hK _ ?_; clear hK K)))
    ((try refine aw_ret ?_); (try simp only [ThenA, InBl]); refine ret_le (le_pick [] rfl rfl) ?_; (try simp only [List.set_nil, List.take_nil, List.take_zero, List.map_append, go_sem]); ((try refine aw_ret ?_); (try refine lst_nil ?_); (try simp only [ThenA, InBl]); refine ret_mk (by first | exact .inl rfl | exact .inr rfl) rfl ?_; simp only [rtn, resA, resL, resV, Try.results80, go_sem, true_and, and_true]))
    exact ⟨i, rfl, by omega, by simp; exact ⟨_, _, List.getElem_mem hlt, hp⟩⟩
   | false =>
    (repeat (first | (refine aw_seq ?_; intro K hK) | refine aw_block ?_ | refine aw_region ?_ | (refine lst_x rfl rfl ?_; intro K1 hK1; simp only [go_sem, hp]; (first | refine hK1 _ ?_ | refine andk (hK1 _ ?_)); clear hK1 K1) | ((first | refine lst_nil ?_ | refine aw_skip ?_); refine hK _ ?_; clear hK K)))
    (refine aw_cnd ?_; intro X Y hX hY; simp only [go_sem])
    refine hY ?_
    clear hX hY X Y
    (repeat (first | (refine aw_seq ?_; intro K hK) | refine aw_block ?_ | refine aw_region ?_ | (refine lst_x rfl rfl ?_; intro K1 hK1; simp only [go_sem]; (first | refine hK1 _ ?_ | refine andk (hK1 _ ?_)); clear hK1 K1) | ((first | refine lst_nil ?_ | refine aw_skip ?_); refine hK _ ?_; clear hK K)))
    ((try refine lst_nil ?_); (try refine aw_skip ?_); try simp only [ThenA])
    refine hK _ (i + 1) ⟨by omega, fun j x hj hx => ?_⟩ (by omega) ?_
    ·by_cases e : j = i
     ·subst e; rw [hg] at hx; cases hx; exact hp
     ·exact hno j x (by omega) hx
    ·(refine le_tm ?_; simp only [LeTm, go_sem]; try simp)
  ·have hl1 : decide ((i : Int) < (XS.length : Int)) = false := by simpa using hlt
   (repeat (first | (refine aw_seq ?_; intro K hK) | refine aw_block ?_ | refine aw_region ?_ | (refine lst_x rfl rfl ?_; intro K1 hK1; simp only [go_sem, hl1]; (first | refine hK1 _ ?_ | refine andk (hK1 _ ?_)); clear hK1 K1) | ((first | refine lst_nil ?_ | refine aw_skip ?_); refine hK _ ?_; clear hK K)))
   (refine aw_cnd ?_; intro X Y hX hY; simp only [go_sem])
   refine hY ?_
   clear hX hY X Y
   (refine aw_exit ?_; simp only [ThenA, InBl, reduceIte, Nat.reduceEqDiff]; (first | refine hK _ ?_ | (clear hK K; refine hK _ ?_) | (clear hK K; clear hK K; refine hK _ ?_) | (clear hK K; clear hK K; clear hK K; refine hK _ ?_) | (clear hK K; clear hK K; clear hK K; clear hK K; refine hK _ ?_) | (clear hK K; clear hK K; clear hK K; clear hK K; clear hK K; refine hK _ ?_)); clear hK K)
   (repeat (first | (refine aw_seq ?_; intro K hK) | refine aw_block ?_ | refine aw_region ?_ | (refine lst_x rfl rfl ?_; intro K1 hK1; simp only [go_sem]; (first | refine hK1 _ ?_ | refine andk (hK1 _ ?_)); clear hK1 K1) | ((first | refine lst_nil ?_ | refine aw_skip ?_); refine hK _ ?_; clear hK K)))
   ((try refine aw_ret ?_); (try simp only [ThenA, InBl]); refine ret_le (le_pick [] rfl rfl) ?_; (try simp only [List.set_nil, List.take_nil, List.take_zero, List.map_append, go_sem]); ((try refine aw_ret ?_); (try refine lst_nil ?_); (try simp only [ThenA, InBl]); refine ret_mk (by first | exact .inl rfl | exact .inr rfl) rfl ?_; simp only [rtn, resA, resL, resV, Try.results80, go_sem, true_and, and_true]))
   refine ⟨-1, rfl, by omega, ⟨fun h => by omega, fun h => ?_⟩⟩
   obtain ⟨x, hm, hx⟩ := List.any_eq_true.1 h
   obtain ⟨j, hj⟩ := List.mem_iff_getElem?.1 hm
   rw [hno j x (by have := (List.getElem?_eq_some_iff.1 hj).1; omega) hj] at hx
   cases hx
theorem containsFunc_arcs (XS : List Ar) (p : Ar → Bool) (fn : Nat) (hn : XS.length ≤ 100000000) (hcal : callable Try.prog fn = true)
  (hf : ∀ x ∈ XS, FC Try.prog fn [.a (.g [.v (.int .i64 x.1), .v (.int .i64 x.2)])] [] (fun r o => o = [] ∧ r = .b (p x))) :
  FC Try.prog 55 [.a (.c (.t 2 (tArcs XS))), .a (.c (.f fn []))] [] (fun r o => o = [] ∧ r = .b (XS.any p)) := by
 refine fc_intro Try.func55 rfl (by rw [Try.ntmps55]; simp) ?_
 rw [Try.ntmps55]
 simp only [enum]
 (repeat (first | (refine aw_seq ?_; intro K hK) | refine aw_block ?_ | refine aw_region ?_ | (refine lst_x rfl rfl ?_; intro K1 hK1; simp only [go_sem]; (first | refine hK1 _ ?_ | refine andk (hK1 _ ?_)); clear hK1 K1) | ((first | refine lst_nil ?_ | refine aw_skip ?_); refine hK _ ?_; clear hK K)))
 (refine lst_cons rfl ?_; intro K1 hK1; refine stp_callσ (ids := []) [] (indexFunc_arcs XS p fn hn hcal hf) rfl rfl (by simp only [go_sem]) (by first | assumption | kernel_rfl) rfl rfl (by (simp only [List.map_append, List.append_nil, go_sem]) <;> rfl) (by (simp only [pkh, go_sem]) <;> rfl) ?_ ?_)
 ·rintro _ _ ⟨rfl, n, rfl, hn1, hn2⟩; rfl
 rintro _ _ ⟨rfl, n, rfl, hn1, hn2⟩
 (simp only [aInts, aSets, List.append_nil, List.nil_append, List.length_map, go_sem]; refine hK1 _ ?_; clear hK1 K1)
 (repeat (first | (refine aw_seq ?_; intro K hK) | refine aw_block ?_ | refine aw_region ?_ | (refine lst_x rfl rfl ?_; intro K1 hK1; simp only [go_sem]; (first | refine hK1 _ ?_ | refine andk (hK1 _ ?_)); clear hK1 K1) | ((first | refine lst_nil ?_ | refine aw_skip ?_); refine hK _ ?_; clear hK K)))
 have e : decide (n ≥ 0) = XS.any p := by rw [Bool.eq_iff_iff, decide_eq_true_iff]; exact hn2
 ((try refine aw_ret ?_); (try simp only [ThenA, InBl]); refine ret_le (le_pick [] rfl rfl) ?_; (try simp only [List.set_nil, List.take_nil, List.take_zero, List.map_append, go_sem]); ((try refine aw_ret ?_); (try refine lst_nil ?_); (try simp only [ThenA, InBl]); refine ret_mk (by first | exact .inl rfl | exact .inr rfl) rfl ?_; simp only [rtn, resA, resL, resV, Try.results55, go_sem, true_and, and_true]))
 simp only [e]
def isTick (a : Ar) : Bool := a.1 == 1
theorem ticks1_fc (a : Ar) : FC Try.prog 56 [.a (.g [.v (.int .i64 a.1), .v (.int .i64 a.2)])] [] (fun r o => o = [] ∧ r = .b (isTick a)) := by
 refine fc_intro Try.func56 rfl (by rw [Try.ntmps56]; simp) ?_
 rw [Try.ntmps56]
 simp only [enum]
 (repeat (first | (refine aw_seq ?_; intro K hK) | refine aw_block ?_ | refine aw_region ?_ | (refine lst_x rfl rfl ?_; intro K1 hK1; simp only [go_sem]; (first | refine hK1 _ ?_ | refine andk (hK1 _ ?_)); clear hK1 K1) | ((first | refine lst_nil ?_ | refine aw_skip ?_); refine hK _ ?_; clear hK K)))
 ((try refine aw_ret ?_); (try simp only [ThenA, InBl]); refine ret_le (le_pick [] rfl rfl) ?_; (try simp only [List.set_nil, List.take_nil, List.take_zero, List.map_append, go_sem]); ((try refine aw_ret ?_); (try refine lst_nil ?_); (try simp only [ThenA, InBl]); refine ret_mk (by first | exact .inl rfl | exact .inr rfl) rfl ?_; simp only [rtn, resA, resL, resV, Try.results56, go_sem, true_and, and_true, isTick]))
theorem ticks_fc (R : List (List Ar)) (s : Nat) (h : s < R.length) (hn : R.length ≤ 1000000) (hr : ∀ r ∈ R, r.length ≤ 1000000) : FC Try.prog 38 [aLts R, .i s] [] (fun r o => o = [] ∧ r = .b (R[s].any isTick)) := by
 refine fc_intro Try.func38 rfl (by rw [Try.ntmps38]; simp) ?_
 rw [Try.ntmps38]
 simp only [enum, aLts]
 have hg := List.getElem?_eq_getElem h
 have hrl := hr _ (List.getElem_mem h)
 generalize R[s] = row at *
 (repeat (first | (refine aw_seq ?_; intro K hK) | refine aw_block ?_ | refine aw_region ?_ | (refine lst_x rfl rfl ?_; intro K1 hK1; simp only [go_sem, tRows_len, tRows_get hg, tArcs_len, half2]; (first | refine hK1 _ ?_ | refine andk (hK1 _ ?_)); clear hK1 K1) | ((first | refine lst_nil ?_ | refine aw_skip ?_); refine hK _ ?_; clear hK K)))
 refine aw_loop (fun k : Nat => { tm := [(1, .i s), (2, .a (.c (.p 0 0))), (11, .a (.c (.t 2 (tArcs row)))), (12, .i row.length), (13, .i k)], hp := [.r ⟨27, 1, false, [.t 1 (tRows R)]⟩], n := 32, pin := 0 }) (fun k => k ≤ row.length ∧ ∀ j a, j < k → row[j]? = some a → a.1 < 1) (fun k => row.length - k) 0 ?_ ?_ ?_
 ·exact ⟨by omega, by simp⟩
 ·(refine le_tm ?_; simp only [LeTm, go_sem]; try simp)
 ·rintro k ⟨hk, hz⟩ K hK
  by_cases hlt : k < row.length
  ·have d1 : decide ((k : Int) < (row.length : Int)) = true := by simpa using hlt
   have hat := tArcs_at hlt
   (repeat (first | (refine aw_seq ?_; intro K hK) | refine aw_block ?_ | refine aw_region ?_ | (refine lst_x rfl rfl ?_; intro K1 hK1; simp only [go_sem, d1]; (first | refine hK1 _ ?_ | refine andk (hK1 _ ?_)); clear hK1 K1) | ((first | refine lst_nil ?_ | refine aw_skip ?_); refine hK _ ?_; clear hK K)))
   (refine aw_cnd ?_; intro X Y hX hY; simp only [go_sem])
   refine hX ?_
   clear hX hY X Y
   by_cases h1 : row[k].1 ≥ 1
   ·have d2 : decide (row[k].1 ≥ 1) = true := by simpa using h1
    (repeat (first | (refine aw_seq ?_; intro K hK) | refine aw_block ?_ | refine aw_region ?_ | (refine lst_x rfl rfl ?_; intro K1 hK1; simp only [go_sem, hat, tArcs_len, half2, ST.put, setC, A0.cells, d2]; (first | refine hK1 _ ?_ | refine andk (hK1 _ ?_)); clear hK1 K1) | ((first | refine lst_nil ?_ | refine aw_skip ?_); refine hK _ ?_; clear hK K)))
    (refine aw_cnd ?_; intro X Y hX hY; simp only [go_sem])
    refine hX ?_
    clear hX hY X Y
    by_cases h2 : row[k].1 = 1
    ·have d3 : (row[k].1 == 1) = true := by simpa using h2
     (repeat (first | (refine aw_seq ?_; intro K hK) | refine aw_block ?_ | refine aw_region ?_ | (refine lst_x rfl rfl ?_; intro K1 hK1; simp only [go_sem, d3]; (first | refine hK1 _ ?_ | refine andk (hK1 _ ?_)); clear hK1 K1) | ((first | refine lst_nil ?_ | refine aw_skip ?_); refine hK _ ?_; clear hK K)))
     ((try refine aw_ret ?_); (try simp only [ThenA, InBl]); refine ret_le (le_pick [] rfl rfl) ?_; (try simp only [List.set_nil, List.take_nil, List.take_zero, List.map_append, go_sem]); ((try refine aw_ret ?_); (try refine lst_nil ?_); (try simp only [ThenA, InBl]); refine ret_mk (by first | exact .inl rfl | exact .inr rfl) rfl ?_; simp only [rtn, resA, resL, resV, Try.results38, go_sem, true_and, and_true]))
     have : row.any isTick = true := List.any_eq_true.2 ⟨row[k], List.getElem_mem hlt, d3⟩
     rw [this]
    ·have d3 : (row[k].1 == 1) = false := by simpa using h2
     (repeat (first | (refine aw_seq ?_; intro K hK) | refine aw_block ?_ | refine aw_region ?_ | (refine lst_x rfl rfl ?_; intro K1 hK1; simp only [go_sem, d3, tRows_len, tRows_get hg]; (first | refine hK1 _ ?_ | refine andk (hK1 _ ?_)); clear hK1 K1) | ((first | refine lst_nil ?_ | refine aw_skip ?_); refine hK _ ?_; clear hK K)))
     (refine lst_goU rfl rfl (by simp only [go_sem] <;> rfl) ?_; intro K1 hK1; refine (stp_call0 (ids := []) (containsFunc_arcs row isTick 56 (by omega) (by kernel_rfl) (fun x _ => ticks1_fc x)) rfl rfl (by simp only [go_sem]) (by kernel_rfl) (by (simp only [List.append_nil, go_sem]) <;> rfl) ?_).stp)
     rintro _ _ ⟨rfl, rfl⟩
     (simp only [aInts, aSets, List.append_nil, List.nil_append, List.length_map, go_sem]; refine hK1 _ ?_; clear hK1 K1)
     (repeat (first | (refine aw_seq ?_; intro K hK) | refine aw_block ?_ | refine aw_region ?_ | (refine lst_x rfl rfl ?_; intro K1 hK1; simp only [go_sem]; (first | refine hK1 _ ?_ | refine andk (hK1 _ ?_)); clear hK1 K1) | ((first | refine lst_nil ?_ | refine aw_skip ?_); refine hK _ ?_; clear hK K)))
     ((try refine aw_ret ?_); (try simp only [ThenA, InBl]); refine ret_le (le_pick [] rfl rfl) ?_; (try simp only [List.set_nil, List.take_nil, List.take_zero, List.map_append, go_sem]); ((try refine aw_ret ?_); (try refine lst_nil ?_); (try simp only [ThenA, InBl]); refine ret_mk (by first | exact .inl rfl | exact .inr rfl) rfl ?_; simp only [rtn, resA, resL, resV, Try.results38, go_sem, true_and, and_true]))
   ·have d2 : decide (row[k].1 ≥ 1) = false := by simpa using h1
    (repeat (first | (refine aw_seq ?_; intro K hK) | refine aw_block ?_ | refine aw_region ?_ | (refine lst_x rfl rfl ?_; intro K1 hK1; simp only [go_sem, hat, tArcs_len, half2, ST.put, setC, A0.cells, d2]; (first | refine hK1 _ ?_ | refine andk (hK1 _ ?_)); clear hK1 K1) | ((first | refine lst_nil ?_ | refine aw_skip ?_); refine hK _ ?_; clear hK K)))
    (refine aw_cnd ?_; intro X Y hX hY; simp only [go_sem])
    refine hY ?_
    clear hX hY X Y
    (repeat (first | (refine aw_seq ?_; intro K hK) | refine aw_block ?_ | refine aw_region ?_ | (refine lst_x rfl rfl ?_; intro K1 hK1; simp only [go_sem]; (first | refine hK1 _ ?_ | refine andk (hK1 _ ?_)); clear hK1 K1) | ((first | refine lst_nil ?_ | refine aw_skip ?_); refine hK _ ?_; clear hK K)))
    ((try refine lst_nil ?_); (try refine aw_skip ?_); try simp only [ThenA])
    refine hK _ (k + 1) ⟨by omega, fun j a hj ha => ?_⟩ (by omega) ?_
    ·by_cases e : j = k
     ·subst e; rw [List.getElem?_eq_getElem hlt] at ha; cases ha; omega
     ·exact hz j a (by omega) ha
    ·refine Le.trans (le_pick [0] rfl rfl) ?_
     (try simp only [List.set_nil, List.take_nil, List.take_zero, List.map_append, go_sem])
     (refine le_tm ?_; simp only [LeTm, go_sem]; try simp)
  ·have d1 : decide ((k : Int) < (row.length : Int)) = false := by simpa using hlt
   (repeat (first | (refine aw_seq ?_; intro K hK) | refine aw_block ?_ | refine aw_region ?_ | (refine lst_x rfl rfl ?_; intro K1 hK1; simp only [go_sem, d1]; (first | refine hK1 _ ?_ | refine andk (hK1 _ ?_)); clear hK1 K1) | ((first | refine lst_nil ?_ | refine aw_skip ?_); refine hK _ ?_; clear hK K)))
   (refine aw_cnd ?_; intro X Y hX hY; simp only [go_sem])
   refine hY ?_
   clear hX hY X Y
   (refine aw_exit ?_; simp only [ThenA, InBl, reduceIte, Nat.reduceEqDiff]; (first | refine hK _ ?_ | (clear hK K; refine hK _ ?_) | (clear hK K; clear hK K; refine hK _ ?_) | (clear hK K; clear hK K; clear hK K; refine hK _ ?_) | (clear hK K; clear hK K; clear hK K; clear hK K; refine hK _ ?_) | (clear hK K; clear hK K; clear hK K; clear hK K; clear hK K; refine hK _ ?_)); clear hK K)
   (repeat (first | (refine aw_seq ?_; intro K hK) | refine aw_block ?_ | refine aw_region ?_ | (refine lst_x rfl rfl ?_; intro K1 hK1; simp only [go_sem]; (first | refine hK1 _ ?_ | refine andk (hK1 _ ?_)); clear hK1 K1) | ((first | refine lst_nil ?_ | refine aw_skip ?_); refine hK _ ?_; clear hK K)))
   ((try refine aw_ret ?_); (try simp only [ThenA, InBl]); refine ret_le (le_pick [] rfl rfl) ?_; (try simp only [List.set_nil, List.take_nil, List.take_zero, List.map_append, go_sem]); ((try refine aw_ret ?_); (try refine lst_nil ?_); (try simp only [ThenA, InBl]); refine ret_mk (by first | exact .inl rfl | exact .inr rfl) rfl ?_; simp only [rtn, resA, resL, resV, Try.results38, go_sem, true_and, and_true]))
   have : row.any isTick = false := by
    rw [List.any_eq_false]
    intro a ha
    obtain ⟨j, hj⟩ := List.mem_iff_getElem?.1 ha
    have := hz j a (by have := (List.getElem?_eq_some_iff.1 hj).1; omega) hj
    simp [isTick]; omega
   rw [this]
/-- the events of a row, as the program takes them: repetitions side by side dropped -/
def iniStep (acc : List Int) (a : Ar) : List Int := if acc.getLast? = some a.1 then acc else acc ++ [a.1]
def iniL (r : List Ar) : List Int := r.foldl iniStep []
theorem iniStep_len (acc : List Int) (a : Ar) : (iniStep acc a).length ≤ acc.length + 1 := by unfold iniStep; split <;> simp
theorem iniL_take {r : List Ar} {k : Nat} (h : k < r.length) : iniL (r.take (k + 1)) = iniStep (iniL (r.take k)) r[k] := by
 unfold iniL
 rw [List.take_succ_eq_append_getElem h, List.foldl_append]; rfl
theorem iniL_len (r : List Ar) : (iniL r).length ≤ r.length := by
 have : ∀ (r : List Ar) (acc : List Int), (r.foldl iniStep acc).length ≤ acc.length + r.length := by
  intro r
  induction r with
  | nil => intro acc; simp
  | cons a r ih =>
   intro acc
   have h1 := ih (iniStep acc a)
   have h2 := iniStep_len acc a
   simp only [List.foldl_cons, List.length_cons]
   omega
 simpa [iniL] using this r []
set_option maxHeartbeats 1000000 in
theorem initials_fc (R : List (List Ar)) (s : Nat) (h : s < R.length) (hn : R.length ≤ 1000000) (hr : ∀ r ∈ R, r.length ≤ 1000000) : FC Try.prog 39 [aLts R, .i s] [] (fun r o => o = [.r ⟨3, 1, true, cInts (iniL R[s])⟩] ∧ r = .a (.c (.s 0 (iniL R[s]).length))) := by
 refine fc_intro Try.func39 rfl (by rw [Try.ntmps39]; simp) ?_
 rw [Try.ntmps39]
 simp only [enum, aLts]
 have hg := List.getElem?_eq_getElem h
 have hrl := hr _ (List.getElem_mem h)
 generalize R[s] = row at *
 (repeat (first | (refine aw_seq ?_; intro K hK) | refine aw_block ?_ | refine aw_region ?_ | (refine lst_x rfl rfl ?_; intro K1 hK1; simp only [go_sem, tRows_len, tRows_get hg, tArcs_len, half2]; (first | refine hK1 _ ?_ | refine andk (hK1 _ ?_)); clear hK1 K1) | ((first | refine lst_nil ?_ | refine aw_skip ?_); refine hK _ ?_; clear hK K)))
 refine aw_le (le_nil 5 3 1 ?_) ?_
 ·simp only [go_sem]
 refine aw_loop (fun k : Nat => { tm := [(5, .a (.c (.s 1 (iniL (row.take k)).length))), (12, .a (.c (.t 2 (tArcs row)))), (13, .i row.length), (14, .i k)], hp := [.r ⟨27, 1, false, [.t 1 (tRows R)]⟩, .r ⟨3, 1, true, cInts (iniL (row.take k))⟩], n := 39, pin := 0 }) (fun k => k ≤ row.length) (fun k => row.length - k) 0 ?_ ?_ ?_
 ·omega
 ·simp only [List.take_zero, iniL, List.foldl_nil, List.length_nil]
  (refine le_tm ?_; simp only [LeTm, go_sem]; try simp)
 ·rintro k hk K hK
  by_cases hlt : k < row.length
  ·have d1 : decide ((k : Int) < (row.length : Int)) = true := by simpa using hlt
   have hat := tArcs_at hlt
   have hlen := iniL_len (row.take k)
   have hst := iniL_take hlt
   have htk : (row.take k).length ≤ k := by simp; omega
   generalize iniL (row.take k) = acc at *
   have op := old_push acc row[k].1
   have fin : ∀ b, iniL (row.take (k + 1)) = b → b = iniStep acc row[k] := fun b h => by rw [← h, hst]
   clear hst
   (repeat (first | (refine aw_seq ?_; intro K hK) | refine aw_block ?_ | refine aw_region ?_ | (refine lst_x rfl rfl ?_; intro K1 hK1; simp only [go_sem, d1]; (first | refine hK1 _ ?_ | refine andk (hK1 _ ?_)); clear hK1 K1) | ((first | refine lst_nil ?_ | refine aw_skip ?_); refine hK _ ?_; clear hK K)))
   (refine aw_cnd ?_; intro X Y hX hY; simp only [go_sem])
   refine hX ?_
   clear hX hY X Y
   (repeat (first | (refine aw_seq ?_; intro K hK) | refine aw_block ?_ | refine aw_region ?_ | (refine lst_x rfl rfl ?_; intro K1 hK1; simp only [go_sem, hat, tArcs_len, half2, ST.put, setC, A0.cells]; (first | refine hK1 _ ?_ | refine andk (hK1 _ ?_)); clear hK1 K1) | ((first | refine lst_nil ?_ | refine aw_skip ?_); refine hK _ ?_; clear hK K)))
   by_cases h0 : acc.length = 0
   ·have d2 : ((acc.length : Int) == 0) = true := by simp [h0]
    have hs : iniL (row.take (k + 1)) = acc ++ [row[k].1] := by
     rw [fin _ rfl]
     have : acc = [] := List.length_eq_zero_iff.1 h0
     subst this; rfl
    (refine aw_regionU 13 [(0, 0), (1, 0), (2, 0), (3, 0), (4, 0), (5, 0), (6, 0), (7, 0), (8, 0), (9, 1), (10, 0), (11, 1), (12, 0), (13, 2)] (by kernel_rfl) (by kernel_rfl) (by intro c st h; simp [ThenA, InBl, Ret] at h) ?_)
    (repeat (first | ((first | refine u_0x rfl rfl rfl ?_ | refine u_1x rfl rfl rfl ?_); intro K1 hK1; simp only [go_sem, d2, cInts_len]; (first | refine hK1 _ ?_ | refine andk (hK1 _ ?_)); clear hK1 K1) | (refine u_2x rfl rfl rfl rfl ?_; intro K1 hK1; simp only [go_sem, d2, cInts_len]; (first | refine hK1 _ ?_ | refine andk (hK1 _ ?_)); clear hK1 K1) | (refine u_2f rfl rfl rfl rfl ?_; intro K1 hK1; simp only [go_sem, d2, cInts_len]; (first | refine hK1 _ ?_ | refine andk (hK1 _ ?_)); clear hK1 K1) | (refine u_nil ?_; refine hK _ ?_; clear hK K)))
    (refine aw_cnd ?_; intro X Y hX hY; simp only [go_sem])
    refine hX ?_
    clear hX hY X Y
    (repeat (first | (refine aw_seq ?_; intro K hK) | refine aw_block ?_ | refine aw_region ?_ | (refine lst_x rfl rfl ?_; intro K1 hK1; simp only [go_sem, cInts_len, op]; (first | refine hK1 _ ?_ | refine andk (hK1 _ ?_)); clear hK1 K1) | ((first | refine lst_nil ?_ | refine aw_skip ?_); refine hK _ ?_; clear hK K)))
    ((try refine lst_nil ?_); (try refine aw_skip ?_); try simp only [ThenA])
    refine hK _ (k + 1) (by omega) (by omega) ?_
    rw [hs]
    refine Le.trans (le_pick [0, 4] rfl rfl) ?_
    (try simp only [List.set_nil, List.take_nil, List.take_zero, List.map_append, go_sem])
    (try simp only [cInts_ren])
    simp only [List.length_append, List.length_cons, List.length_nil]
    (refine le_tm ?_; simp only [LeTm, go_sem]; try simp)
   ·have d2 : ((acc.length : Int) == 0) = false := by simp; intro e; simp [e] at h0
    obtain ⟨m, hm⟩ : ∃ m, acc.length = m + 1 := ⟨acc.length - 1, by omega⟩
    have e3 : (acc.length : Int) - 1 = (m : Int) := by omega
    have gl : acc[m]? = some acc[m] := List.getElem?_eq_getElem (by omega)
    have ge : (cInts acc)[m]? = some (.v (.int .i64 acc[m])) := cInts_get gl
    have hlast : acc.getLast? = some acc[m] := by
     have e : acc.length - 1 = m := by omega
     rw [List.getLast?_eq_getElem?, e]; exact gl
    by_cases hq : acc[m] = row[k].1
    ·have d3 : (acc[m] != row[k].1) = false := by simpa using hq
     have hs : iniL (row.take (k + 1)) = acc := by
      rw [fin _ rfl, iniStep, if_pos (by rw [hlast, hq])]
     (refine aw_regionU 13 [(0, 0), (1, 0), (2, 0), (3, 0), (4, 0), (5, 0), (6, 0), (7, 0), (8, 0), (9, 1), (10, 0), (11, 1), (12, 0), (13, 2)] (by kernel_rfl) (by kernel_rfl) (by intro c st h; simp [ThenA, InBl, Ret] at h) ?_)
     (repeat (first | ((first | refine u_0x rfl rfl rfl ?_ | refine u_1x rfl rfl rfl ?_); intro K1 hK1; simp only [go_sem, d2, cInts_len, e3, ge, d3]; (first | refine hK1 _ ?_ | refine andk (hK1 _ ?_)); clear hK1 K1) | (refine u_2x rfl rfl rfl rfl ?_; intro K1 hK1; simp only [go_sem, d2, cInts_len, e3, ge, d3]; (first | refine hK1 _ ?_ | refine andk (hK1 _ ?_)); clear hK1 K1) | (refine u_2f rfl rfl rfl rfl ?_; intro K1 hK1; simp only [go_sem, d2, cInts_len, e3, ge, d3]; (first | refine hK1 _ ?_ | refine andk (hK1 _ ?_)); clear hK1 K1) | (refine u_nil ?_; refine hK _ ?_; clear hK K)))
     (refine aw_cnd ?_; intro X Y hX hY; simp only [go_sem])
     refine hY ?_
     clear hX hY X Y
     (repeat (first | (refine aw_seq ?_; intro K hK) | refine aw_block ?_ | refine aw_region ?_ | (refine lst_x rfl rfl ?_; intro K1 hK1; simp only [go_sem]; (first | refine hK1 _ ?_ | refine andk (hK1 _ ?_)); clear hK1 K1) | ((first | refine lst_nil ?_ | refine aw_skip ?_); refine hK _ ?_; clear hK K)))
     ((try refine lst_nil ?_); (try refine aw_skip ?_); try simp only [ThenA])
     refine hK _ (k + 1) (by omega) (by omega) ?_
     rw [hs]
     refine Le.trans (le_pick [0, 1] rfl rfl) ?_
     (try simp only [List.set_nil, List.take_nil, List.take_zero, List.map_append, go_sem])
     (try simp only [cInts_ren])
     (refine le_tm ?_; simp only [LeTm, go_sem]; try simp)
    ·have d3 : (acc[m] != row[k].1) = true := by simpa using hq
     have hs : iniL (row.take (k + 1)) = acc ++ [row[k].1] := by
      rw [fin _ rfl, iniStep, if_neg (by rw [hlast]; simpa using hq)]
     (refine aw_regionU 13 [(0, 0), (1, 0), (2, 0), (3, 0), (4, 0), (5, 0), (6, 0), (7, 0), (8, 0), (9, 1), (10, 0), (11, 1), (12, 0), (13, 2)] (by kernel_rfl) (by kernel_rfl) (by intro c st h; simp [ThenA, InBl, Ret] at h) ?_)
     (repeat (first | ((first | refine u_0x rfl rfl rfl ?_ | refine u_1x rfl rfl rfl ?_); intro K1 hK1; simp only [go_sem, d2, cInts_len, e3, ge, d3]; (first | refine hK1 _ ?_ | refine andk (hK1 _ ?_)); clear hK1 K1) | (refine u_2x rfl rfl rfl rfl ?_; intro K1 hK1; simp only [go_sem, d2, cInts_len, e3, ge, d3]; (first | refine hK1 _ ?_ | refine andk (hK1 _ ?_)); clear hK1 K1) | (refine u_2f rfl rfl rfl rfl ?_; intro K1 hK1; simp only [go_sem, d2, cInts_len, e3, ge, d3]; (first | refine hK1 _ ?_ | refine andk (hK1 _ ?_)); clear hK1 K1) | (refine u_nil ?_; refine hK _ ?_; clear hK K)))
     (refine aw_cnd ?_; intro X Y hX hY; simp only [go_sem])
     refine hX ?_
     clear hX hY X Y
     (repeat (first | (refine aw_seq ?_; intro K hK) | refine aw_block ?_ | refine aw_region ?_ | (refine lst_x rfl rfl ?_; intro K1 hK1; simp only [go_sem, cInts_len, op]; (first | refine hK1 _ ?_ | refine andk (hK1 _ ?_)); clear hK1 K1) | ((first | refine lst_nil ?_ | refine aw_skip ?_); refine hK _ ?_; clear hK K)))
     ((try refine lst_nil ?_); (try refine aw_skip ?_); try simp only [ThenA])
     refine hK _ (k + 1) (by omega) (by omega) ?_
     rw [hs]
     refine Le.trans (le_pick [0, 4] rfl rfl) ?_
     (try simp only [List.set_nil, List.take_nil, List.take_zero, List.map_append, go_sem])
     (try simp only [cInts_ren])
     simp only [List.length_append, List.length_cons, List.length_nil]
     (refine le_tm ?_; simp only [LeTm, go_sem]; try simp)
  ·have d1 : decide ((k : Int) < (row.length : Int)) = false := by simpa using hlt
   have hke : row.take k = row := List.take_of_length_le (by omega)
   rw [hke]
   (repeat (first | (refine aw_seq ?_; intro K hK) | refine aw_block ?_ | refine aw_region ?_ | (refine lst_x rfl rfl ?_; intro K1 hK1; simp only [go_sem, d1]; (first | refine hK1 _ ?_ | refine andk (hK1 _ ?_)); clear hK1 K1) | ((first | refine lst_nil ?_ | refine aw_skip ?_); refine hK _ ?_; clear hK K)))
   (refine aw_cnd ?_; intro X Y hX hY; simp only [go_sem])
   refine hY ?_
   clear hX hY X Y
   (refine aw_exit ?_; simp only [ThenA, InBl, reduceIte, Nat.reduceEqDiff]; (first | refine hK _ ?_ | (clear hK K; refine hK _ ?_) | (clear hK K; clear hK K; refine hK _ ?_) | (clear hK K; clear hK K; clear hK K; refine hK _ ?_) | (clear hK K; clear hK K; clear hK K; clear hK K; refine hK _ ?_) | (clear hK K; clear hK K; clear hK K; clear hK K; clear hK K; refine hK _ ?_)); clear hK K)
   (repeat (first | (refine aw_seq ?_; intro K hK) | refine aw_block ?_ | refine aw_region ?_ | (refine lst_x rfl rfl ?_; intro K1 hK1; simp only [go_sem]; (first | refine hK1 _ ?_ | refine andk (hK1 _ ?_)); clear hK1 K1) | ((first | refine lst_nil ?_ | refine aw_skip ?_); refine hK _ ?_; clear hK K)))
   ((try refine aw_ret ?_); (try simp only [ThenA, InBl]); refine ret_le (le_pick [1] rfl rfl) ?_; (try simp only [List.set_nil, List.take_nil, List.take_zero, List.map_append, go_sem]); ((try refine aw_ret ?_); (try refine lst_nil ?_); (try simp only [ThenA, InBl]); refine ret_mk (by first | exact .inl rfl | exact .inr rfl) rfl ?_; simp only [rtn, resA, resL, resV, Try.results39, go_sem, true_and, and_true, cInts_ren]))
theorem initT_fc (R : List (List Ar)) (s : Nat) (h : s < R.length) (hn : R.length ≤ 1000000) (hr : ∀ r ∈ R, r.length ≤ 1000000) : FC Try.prog 39 [aLts R, .i s] [] (fun r o => o = [] ∧ r = aInts (iniL R[s])) :=
 ((initials_fc R s h hn hr).mono fun _ _ h => ⟨h.2, h.1⟩).frz (fz_c _) Nat.zero_lt_one (by rw [tInts_len, Nat.mul_one])
theorem tInts_w : (tInts [1]).take 1 = tInts [1] := rfl
/-- a state's acceptance -/
def accP (r : List Ar) : List Int × Bool := if r.any isTick then ([1], true) else if stB r then (iniL r, true) else ([], false)
theorem accept_fc (R : List (List Ar)) (s : Nat) (h : s < R.length) (hn : R.length ≤ 1000000) (hr : ∀ r ∈ R, r.length ≤ 1000000) : FC Try.prog 25 [aLts R, .i s] [] (fun r o => o = [] ∧ r = .tup [.c (.t 1 (tInts (accP R[s]).1)), .c (.v (.bool (accP R[s]).2))]) := by
 refine fc_intro Try.func25 rfl (by rw [Try.ntmps25]; simp) ?_
 rw [Try.ntmps25]
 simp only [enum, aLts]
 (repeat (first | (refine aw_seq ?_; intro K hK) | refine aw_block ?_ | refine aw_region ?_ | (refine lst_x rfl rfl ?_; intro K1 hK1; simp only [go_sem]; (first | refine hK1 _ ?_ | refine andk (hK1 _ ?_)); clear hK1 K1) | ((first | refine lst_nil ?_ | refine aw_skip ?_); refine hK _ ?_; clear hK K)))
 (refine lst_cons rfl ?_; intro K1 hK1; refine (stp_call0 (ids := []) (ticks_fc R s h hn hr) rfl rfl (by simp only [go_sem]) (by kernel_rfl) (by (simp only [List.append_nil, go_sem]) <;> rfl) ?_).stp)
 rintro _ _ ⟨rfl, rfl⟩
 (simp only [aInts, aSets, List.append_nil, List.nil_append, List.length_map, go_sem]; refine hK1 _ ?_; clear hK1 K1)
 cases ht : R[s].any isTick with
 | true =>
  (repeat (first | (refine aw_seq ?_; intro K hK) | refine aw_block ?_ | refine aw_region ?_ | (refine lst_x rfl rfl ?_; intro K1 hK1; simp only [go_sem]; (first | refine hK1 _ ?_ | refine andk (hK1 _ ?_)); clear hK1 K1) | ((first | refine lst_nil ?_ | refine aw_skip ?_); refine hK _ ?_; clear hK K)))
  (refine aw_cnd ?_; intro X Y hX hY; simp only [go_sem])
  refine hX ?_
  clear hX hY X Y
  (repeat (first | (refine aw_seq ?_; intro K hK) | refine aw_block ?_ | refine aw_region ?_ | (refine lst_x rfl rfl ?_; intro K1 hK1; simp only [go_sem]; (first | refine hK1 _ ?_ | refine andk (hK1 _ ?_)); clear hK1 K1) | ((first | refine lst_nil ?_ | refine aw_skip ?_); refine hK _ ?_; clear hK K)))
  ((try refine aw_ret ?_); (try simp only [ThenA, InBl]); refine ret_le (le_frz (r := ⟨3, 1, true, cInts [1]⟩) 1 (tInts [1]) rfl (fz_c _) (show 0 < (1 : Nat) by omega)) ?_; refine ret_le (le_pick [] rfl rfl) ?_; simp only [ST.frz, A0.frz, AV.frz, C.frz, Nat.le_refl, List.set_cons_zero, List.set_cons_succ, go_sem, tInts_w]; (try simp only [List.set_nil, List.take_nil, List.take_zero, List.map_append, go_sem]); ((try refine aw_ret ?_); (try refine lst_nil ?_); (try simp only [ThenA, InBl]); refine ret_mk (by first | exact .inl rfl | exact .inr rfl) rfl ?_; simp only [rtn, resA, resL, resV, Try.results25, go_sem, true_and, and_true, tInts_w]))
  simp only [accP, ht, if_true]
  rfl
 | false =>
  (repeat (first | (refine aw_seq ?_; intro K hK) | refine aw_block ?_ | refine aw_region ?_ | (refine lst_x rfl rfl ?_; intro K1 hK1; simp only [go_sem]; (first | refine hK1 _ ?_ | refine andk (hK1 _ ?_)); clear hK1 K1) | ((first | refine lst_nil ?_ | refine aw_skip ?_); refine hK _ ?_; clear hK K)))
  (refine aw_cnd ?_; intro X Y hX hY; simp only [go_sem])
  refine hY ?_
  clear hX hY X Y
  (repeat (first | (refine aw_seq ?_; intro K hK) | refine aw_block ?_ | refine aw_region ?_ | (refine lst_x rfl rfl ?_; intro K1 hK1; simp only [go_sem]; (first | refine hK1 _ ?_ | refine andk (hK1 _ ?_)); clear hK1 K1) | ((first | refine lst_nil ?_ | refine aw_skip ?_); refine hK _ ?_; clear hK K)))
  (refine lst_cons rfl ?_; intro K1 hK1; refine (stp_call0 (ids := []) (stable_fc R s h hn hr) rfl rfl (by simp only [go_sem]) (by kernel_rfl) (by (simp only [List.append_nil, go_sem]) <;> rfl) ?_).stp)
  rintro _ _ ⟨rfl, rfl⟩
  (simp only [aInts, aSets, List.append_nil, List.nil_append, List.length_map, go_sem]; refine hK1 _ ?_; clear hK1 K1)
  cases hs : stB R[s] with
  | true =>
   (repeat (first | (refine aw_seq ?_; intro K hK) | refine aw_block ?_ | refine aw_region ?_ | (refine lst_x rfl rfl ?_; intro K1 hK1; simp only [go_sem, Bool.not_true]; (first | refine hK1 _ ?_ | refine andk (hK1 _ ?_)); clear hK1 K1) | ((first | refine lst_nil ?_ | refine aw_skip ?_); refine hK _ ?_; clear hK K)))
   (refine aw_cnd ?_; intro X Y hX hY; simp only [go_sem])
   refine hY ?_
   clear hX hY X Y
   (repeat (first | (refine aw_seq ?_; intro K hK) | refine aw_block ?_ | refine aw_region ?_ | (refine lst_x rfl rfl ?_; intro K1 hK1; simp only [go_sem]; (first | refine hK1 _ ?_ | refine andk (hK1 _ ?_)); clear hK1 K1) | ((first | refine lst_nil ?_ | refine aw_skip ?_); refine hK _ ?_; clear hK K)))
   (refine lst_cons rfl ?_; intro K1 hK1; refine (stp_call0 (ids := []) (initT_fc R s h hn hr) rfl rfl (by simp only [go_sem]) (by kernel_rfl) (by (simp only [List.append_nil, go_sem]) <;> rfl) ?_).stp)
   rintro _ _ ⟨rfl, rfl⟩
   (simp only [aInts, aSets, List.append_nil, List.nil_append, List.length_map, go_sem]; refine hK1 _ ?_; clear hK1 K1)
   (repeat (first | (refine aw_seq ?_; intro K hK) | refine aw_block ?_ | refine aw_region ?_ | (refine lst_x rfl rfl ?_; intro K1 hK1; simp only [go_sem]; (first | refine hK1 _ ?_ | refine andk (hK1 _ ?_)); clear hK1 K1) | ((first | refine lst_nil ?_ | refine aw_skip ?_); refine hK _ ?_; clear hK K)))
   ((try refine aw_ret ?_); (try simp only [ThenA, InBl]); refine ret_le (le_pick [] rfl rfl) ?_; (try simp only [List.set_nil, List.take_nil, List.take_zero, List.map_append, go_sem]); ((try refine aw_ret ?_); (try refine lst_nil ?_); (try simp only [ThenA, InBl]); refine ret_mk (by first | exact .inl rfl | exact .inr rfl) rfl ?_; simp only [rtn, resA, resL, resV, Try.results25, go_sem, true_and, and_true]))
   simp only [accP, ht, hs, if_true, Bool.false_eq_true, if_false]
  | false =>
   (repeat (first | (refine aw_seq ?_; intro K hK) | refine aw_block ?_ | refine aw_region ?_ | (refine lst_x rfl rfl ?_; intro K1 hK1; simp only [go_sem, Bool.not_false]; (first | refine hK1 _ ?_ | refine andk (hK1 _ ?_)); clear hK1 K1) | ((first | refine lst_nil ?_ | refine aw_skip ?_); refine hK _ ?_; clear hK K)))
   (refine aw_cnd ?_; intro X Y hX hY; simp only [go_sem])
   refine hX ?_
   clear hX hY X Y
   (repeat (first | (refine aw_seq ?_; intro K hK) | refine aw_block ?_ | refine aw_region ?_ | (refine lst_x rfl rfl ?_; intro K1 hK1; simp only [go_sem]; (first | refine hK1 _ ?_ | refine andk (hK1 _ ?_)); clear hK1 K1) | ((first | refine lst_nil ?_ | refine aw_skip ?_); refine hK _ ?_; clear hK K)))
   refine aw_le (le_nilt 4 1 ?_) ?_
   ·simp only [go_sem]
   ((try refine aw_ret ?_); (try simp only [ThenA, InBl]); refine ret_le (le_pick [] rfl rfl) ?_; (try simp only [List.set_nil, List.take_nil, List.take_zero, List.map_append, go_sem]); ((try refine aw_ret ?_); (try refine lst_nil ?_); (try simp only [ThenA, InBl]); refine ret_mk (by first | exact .inl rfl | exact .inr rfl) rfl ?_; simp only [rtn, resA, resL, resV, Try.results25, go_sem, true_and, and_true]))
   simp only [accP, ht, hs, Bool.false_eq_true, if_false]; rfl
end Go.Proofs.Ythlckclbjknldaa
namespace Go.Proofs.Ythlckclbjknldaa
set_option linter.unusedVariables false
set_option linter.unusedSimpArgs false
open Go.RowKit

section
variable {P : Program} {o : Oper} {st : ST} {K : ST → Prop} {t kt e : TypeId} {s : Ks} {zv : Value} {id : Nat} {kv : List (Value × C)} {key : Value}
/-- what a look-up gives -/
def lkV (zv : Value) (ok : Bool) : Option (Nat × C) → AV
 | some (_, c) => match ok with
  | true => .tup [.c c, .c (.v (.bool true))]
  | false => .a (.c c)
 | none => match ok with
  | true => .tup [.c (.v zv), .c (.v (.bool false))]
  | false => .a (.c (.v zv))
theorem stp_lookup {x ix : Operand} {ok : Bool} {r : Option (Nat × C)} (hu : P.underlying t = some (.map kt e)) (hK : KeyOk P kt s) (hze : (P.info? e).bind (·.zero) = some zv)
  (hd : dok o st.n = true) (ho : o.op = .lookup t x ix ok) (hx : st.ev x = .a (.c (.m id))) (hm : st.hp[id]? = some (.m kv)) (hpl : kv.all (fun p => p.2.pl) = true) (hkey : keyOf (st.ev ix) = some key) (hfit : keyFit s key = true) (hf : kvFind s key kv 0 = some r)
  (h : K (st.put o.dst (lkV zv ok r))) : Stp P o st K := by
 refine stp_val hd (fun g w ρ hr hR => ?_) h
 obtain ⟨dst, op, ty, pos, af, gd⟩ := o
 simp only at ho
 subst ho
 have hz1 : ∀ w, (zeroValue e).run P w = .ok zv w := by
  intro w
  cases hi : P.info? e with
  | none => rw [hi] at hze; cases hze
  | some i =>
   rw [hi] at hze
   simp only [Option.bind_some] at hze
   simp [zeroValue, run_typeInfo hi, hze]
 obtain ⟨es, clock, m1, m2, m3⟩ := hr.mp id kv hm
 have e1 := hR x
 rw [hx] at e1
 obtain ⟨_, e1⟩ := e1
 have e2 := hR ix
 have e2 := keyOf_ok hkey e2
 have hKv : KvOk kv es.toList := ⟨by simpa using m2, fun i p hp => by
  obtain ⟨⟨e, f1, f2, _⟩, _⟩ := m3 i p hp
  exact ⟨e, by simpa using f1, f2⟩⟩
 obtain ⟨q, hq⟩ : ∃ q, keyEq s key key = some q := by
  unfold keyFit at hfit
  split at hfit
  ·exact ⟨_, ‹_›⟩
  ·cases hfit
 have hck := hK.ck key q hq es.isEmpty w
 cases r with
 | some p =>
  obtain ⟨j, c⟩ := p
  obtain ⟨h1, h2⟩ := find_ok hK key w hKv hf
  obtain ⟨k', h3, h4⟩ := h2 j c rfl
  obtain ⟨⟨e, f1, f2, f3⟩, f4⟩ := m3 j _ h3
  have hc : CR g st.hp w c e.val := by
   have := List.all_eq_true.1 hpl _ (List.mem_of_getElem? h3)
   exact CellR.cr this f3
  have hfnd : fnd es.toList 0 (some (j, c)) = some (j, e.val) := by simp [fnd, f1]
  rw [hfnd] at h1
  cases ok with
  | true =>
   refine ⟨.tuple #[e.val, .bool true], ?_, [e.val, .bool true], rfl, rfl, fun i a ha => ?_⟩
   ·simp [execOp, Instr.lookup, run_underlying hu, e1, MapKept.run_getObj_map m1, e2, hck, h1]
   ·match i, ha with
    | 0, ha => cases ha; exact ⟨_, rfl, hc⟩
    | 1, ha => cases ha; exact ⟨_, rfl, rfl⟩
  | false =>
   refine ⟨e.val, ?_, hc⟩
   simp [execOp, Instr.lookup, run_underlying hu, e1, MapKept.run_getObj_map m1, e2, hck, h1]
 | none =>
  obtain ⟨h1, _⟩ := find_ok hK key w hKv hf
  have hfnd : fnd es.toList 0 none = none := rfl
  rw [hfnd] at h1
  cases ok with
  | true =>
   refine ⟨.tuple #[zv, .bool false], ?_, [zv, .bool false], rfl, rfl, fun i a ha => ?_⟩
   ·simp [execOp, Instr.lookup, run_underlying hu, e1, MapKept.run_getObj_map m1, e2, hck, h1, hz1 w]
   ·match i, ha with
    | 0, ha => cases ha; exact ⟨_, rfl, rfl⟩
    | 1, ha => cases ha; exact ⟨_, rfl, rfl⟩
  | false =>
   refine ⟨zv, ?_, rfl⟩
   simp [execOp, Instr.lookup, run_underlying hu, e1, MapKept.run_getObj_map m1, e2, hck, h1, hz1 w]
/-- a new key is written -/
theorem stp_mapnew {m kx v : Operand} {c : C} (hu : P.underlying t = some (.map kt e)) (hK : KeyOk P kt s) (hd : dok o st.n = true) (ho : o.op = .mapUpdate t m kx v) (hm : st.ev m = .a (.c (.m id))) (hmm : st.hp[id]? = some (.m kv)) (hpl : kv.all (fun p => p.2.pl) = true)
  (hkey : keyOf (st.ev kx) = some key) (hfit : keyFit s key = true) (hv : st.ev v = .a (.c c)) (hone : c.one = true) (hf : kvFind s key kv 0 = some none)
  (h : K ({ st with hp := st.hp.set id (.m (kv ++ [(key, c)])) }.put o.dst .u)) : Stp P o st K := by
 obtain ⟨q, hq⟩ : ∃ q, keyEq s key key = some q := by
  unfold keyFit at hfit
  split at hfit
  ·exact ⟨_, ‹_›⟩
  ·cases hfit
 have hcell : ∀ {g : Gh} {w : World} {u : Value}, CR g st.hp w c u → CellR g st.hp w id 0 c u := fun h => cellR_of_one hone h
 have hcpl : c.pl = true := by cases c <;> first | rfl | cases hone
 intro M0 w0 a w N Q hR hN
 obtain ⟨g, ⟨hp1, hp2⟩, hR⟩ := hR
 have e1 := hR.ev m
 rw [hm] at e1
 obtain ⟨_, e1⟩ := e1
 have e2 := hR.ev kx
 have e2 := keyOf_ok hkey e2
 have e3 := hR.ev v
 rw [hv] at e3
 obtain ⟨es, clock, m1, m2, m3⟩ := hR.hr.mp id kv hmm
 have hKv : KvOk kv es.toList := ⟨by simpa using m2, fun i p hp => by
  obtain ⟨⟨e, f1, f2, _⟩, _⟩ := m3 i p hp
  exact ⟨e, by simpa using f1, f2⟩⟩
 obtain ⟨h1, _⟩ := find_ok hK key w hKv hf
 have hfnd : fnd es.toList 0 none = none := rfl
 rw [hfnd] at h1
 have hl : es.size = kv.length := by simpa using hKv.1
 have r1 : (Instr.mapUpdate t (.map (some (g.γ (.ob id)))) key (a.eval v)).run P w = .ok () { w with heap := w.heap.setIfInBounds (g.γ (.ob id)) (.map (es.push { key := key, val := a.eval v, born := clock }) (clock + 1)) } := by
  simp [Instr.mapUpdate, run_underlying hu, MapKept.run_getObj_map m1, hK.ck key q hq, h1, MapKept.run_setObj_map _ m1]
 have hset := hR.mapset (es' := es.push { key := key, val := a.eval v, born := clock }) (clock := clock + 1) (kv' := kv ++ [(key, c)]) hmm (by simp [hl]) (fun i p hp => by
  rcases Nat.lt_or_ge i kv.length with hi | hi
  ·rw [List.getElem?_append_left hi] at hp
   obtain ⟨⟨e', g1, g2, g3⟩, g4⟩ := m3 i p hp
   exact ⟨⟨e', by rw [Array.getElem?_push_lt (by omega)]; rw [← g1]; simp [show i < es.size by omega], g2, g3⟩, g4⟩
  ·rw [List.getElem?_append_right hi] at hp
   have hi' : i = kv.length := by
    have := (List.getElem?_eq_some_iff.1 hp).1
    simp at this
    omega
   subst hi'
   simp at hp
   subst hp
   exact ⟨⟨{ key := key, val := a.eval v, born := clock }, by rw [← hl]; simp, rfl, hcell e3⟩, fun k' cs e => by
    simp only at e
    rw [e] at hcpl; cases hcpl⟩)
 have hrun : (execOp a.eval o).run P w = .ok .skip { w with heap := w.heap.setIfInBounds (g.γ (.ob id)) (.map (es.push { key := key, val := a.eval v, born := clock }) (clock + 1)) } := by
  unfold execOp
  simp [ho, e1, e2, r1]
 unfold Oper.wp
 rw [hrun]
 exact hN _ _ _ h ⟨g, ⟨by cases o.dst <;> (simp [ST.put]; omega), by cases o.dst <;> exact hp2⟩, hset.put (dok_lt hd) trivial⟩
/-- bytes as a string -/
theorem stp_str {src d el : TypeId} {x : Operand} {n q : Nat} {sl : Bool} {cells : List C} {ns : List Int} (hu1 : P.underlying src = some (.slice el)) (hu2 : P.underlying d = some .string) (hu3 : P.underlying el = some (.int .u8))
  (hd : dok o st.n = true) (ho : o.op = .convert src d x) (hx : st.ev x = .a (.c (.s id n))) (hrow' : st.hp[id]? = some (.r ⟨q, 1, sl, cells⟩)) (hns : ns.length = n) (e1 : cells.take n = ns.map (fun m => C.v (.int .u8 m)))
  (h : K (st.put o.dst (.a (.c (.v (.string ⟨⟨ns.map fun (m : Int) => UInt8.ofNat m.toNat⟩⟩)))))) : Stp P o st K := by
 refine stp_val hd (fun g w ρ hr hR => ?_) h
 obtain ⟨dst, op, ty, pos, af, gd⟩ := o
 simp only at ho
 subst ho
 have e2 := hR x
 rw [hx] at e2
 obtain ⟨_, hn, A, e2, e3, _⟩ := e2
 refine ⟨.string ⟨⟨ns.map fun (m : Int) => UInt8.ofNat m.toNat⟩⟩, ?_, rfl⟩
 have hconv : (Conv.bytesToString (.slice A n (g.κ id))).run P w = .ok (.string ⟨⟨ns.map fun (m : Int) => UInt8.ofNat m.toNat⟩⟩) w := by
  rcases hr.row id _ hrow' with ⟨h0, h2⟩ | ⟨h0, _, arr, ha, hla, hs, _, hcells⟩
  ·have hn0 : n = 0 := by omega
   subst hn0
   have : ns = [] := List.eq_nil_of_length_eq_zero hns
   subst this
   cases A with
   | none => simp [Conv.bytesToString, ByteArray.empty, ByteArray.emptyWithCapacity]; rfl
   | some a => simp [Conv.bytesToString, loadCells, loadCellsFrom, ByteArray.empty, ByteArray.emptyWithCapacity]; rfl
  ·rw [e3 h0]
   have hload : (loadCells ⟨g.γ (.ob id), 0, none⟩ n).run P w = .ok (ns.map (Value.int .u8)).toArray w := by
    unfold loadCells
    rw [run_loadCellsFrom _ _ _ 0 (ns.map (Value.int .u8)) #[] (by simpa using hns) (fun q u hq => ?_)]
    ·simp
    ·rw [cell_of_row _ _ _ _ _ _ ha]
     rw [List.getElem?_map, Option.map_eq_some_iff] at hq
     obtain ⟨m, hm, rfl⟩ := hq
     have hlt : q < n := by rw [← hns]; exact (List.getElem?_eq_some_iff.1 hm).1
     have hcq : cells[q]? = some (.v (.int .u8 m)) := by
      have : (cells.take n)[q]? = some (.v (.int .u8 m)) := by rw [e1]; simp [hm]
      rw [List.getElem?_take, if_pos hlt] at this
      exact this
     obtain ⟨u, f1, f2⟩ := hcells q _ hcq
     have f2 : u = .int .u8 m := f2
     subst f2
     simpa using f1
   simp only [Conv.bytesToString, Sem.run_bind, hload, Result.andThen_ok]
   rw [bytes_run (fun n s w => by simp)]
   simp [ByteArray.empty, ByteArray.emptyWithCapacity]
   rfl
 simp [execOp, convert, run_underlying hu1, run_underlying hu2, e2, run_underlying hu3, hconv]
end
end Go.Proofs.Ythlckclbjknldaa
namespace Go.Proofs.Ythlckclbjknldaa
set_option linter.unusedVariables false
set_option linter.unusedSimpArgs false
open Go.RowKit
set_option maxRecDepth 100000
attribute [local go_sem] List.set_cons_zero List.set_cons_succ List.map_cons List.map_nil List.take_succ_cons List.take_zero List.drop_zero List.drop_succ_cons C.pl C.one List.all_cons List.all_nil Bool.and_true Nat.mul_one Int.toNat_natCast

/-- the four bytes of a number -/
def kb (n : Int) : List Int := [IntKind.u8.wrap (n.fdiv (2 ^ (24 : Int).toNat)), IntKind.u8.wrap (n.fdiv (2 ^ (16 : Int).toNat)), IntKind.u8.wrap (n.fdiv (2 ^ (8 : Int).toNat)), IntKind.u8.wrap n]
def keyB (xs : List Int) : List Int := xs.flatMap kb
def keyS (xs : List Int) : Value := .string ⟨⟨(keyB xs).map fun (m : Int) => UInt8.ofNat m.toNat⟩⟩
def cB8 (l : List Int) : List C := l.map fun m => C.v (.int .u8 m)
theorem cB8_len (l : List Int) : (cB8 l).length = l.length := by simp [cB8]
theorem cB8_ren (f : List Nat) (l : List Int) : (cB8 l).map (C.ren f) = cB8 l := by simp [cB8, C.ren, Function.comp_def]
theorem keyB_len (xs : List Int) : (keyB xs).length = xs.length * 4 := by
 unfold keyB
 induction xs with
 | nil => rfl
 | cons x r ih => rw [List.flatMap_cons, List.length_append, ih, List.length_cons]; simp [kb]; omega
theorem keyB_push (xs : List Int) (x : Int) : (cB8 (keyB xs)).take (xs.length * 4) ++ [C.v (.int .u8 (IntKind.u8.wrap (x.fdiv (2 ^ (24 : Int).toNat)))), C.v (.int .u8 (IntKind.u8.wrap (x.fdiv (2 ^ (16 : Int).toNat)))), C.v (.int .u8 (IntKind.u8.wrap (x.fdiv (2 ^ (8 : Int).toNat)))), C.v (.int .u8 (IntKind.u8.wrap x))] = cB8 (keyB (xs ++ [x])) := by
 rw [List.take_of_length_le (by rw [cB8_len, keyB_len]; exact Nat.le_refl _)]
 unfold keyB cB8
 simp [kb]
theorem wrap8 (n : Int) : IntKind.u8.wrap n = n % 256 := by simp [IntKind.wrap, IntKind.signed, IntKind.bits]
theorem kb_inj {x y : Int} (hx : 0 ≤ x ∧ x < 2147483648) (hy : 0 ≤ y ∧ y < 2147483648) (h : kb x = kb y) : x = y := by
 unfold kb at h
 simp only [List.cons.injEq, and_true, wrap8] at h
 obtain ⟨h1, h2, h3, h4⟩ := h
 have e : ∀ z : Int, z.fdiv (2 ^ (24 : Int).toNat) = z / 16777216 ∧ z.fdiv (2 ^ (16 : Int).toNat) = z / 65536 ∧ z.fdiv (2 ^ (8 : Int).toNat) = z / 256 := fun z => ⟨Int.fdiv_eq_ediv_of_nonneg z (by decide), Int.fdiv_eq_ediv_of_nonneg z (by decide), Int.fdiv_eq_ediv_of_nonneg z (by decide)⟩
 rw [(e x).1, (e y).1] at h1
 rw [(e x).2.1, (e y).2.1] at h2
 rw [(e x).2.2, (e y).2.2] at h3
 omega
theorem kb_rng (x : Int) : ∀ m ∈ kb x, 0 ≤ m ∧ m < 256 := by
 intro m hm
 unfold kb at hm
 simp only [List.mem_cons, List.not_mem_nil, or_false, wrap8] at hm
 rcases hm with rfl | rfl | rfl | rfl <;> omega
theorem keyB_inj : ∀ {xs ys : List Int}, (∀ x ∈ xs, 0 ≤ x ∧ x < 2147483648) → (∀ y ∈ ys, 0 ≤ y ∧ y < 2147483648) → keyB xs = keyB ys → xs = ys
 | [], [], _, _, _ => rfl
 | [], y :: ys, _, _, h => by have := congrArg List.length h; rw [keyB_len, keyB_len] at this; simp at this
 | x :: xs, [], _, _, h => by have := congrArg List.length h; rw [keyB_len, keyB_len] at this; simp at this
 | x :: xs, y :: ys, hx, hy, h => by
  have h1 : kb x ++ keyB xs = kb y ++ keyB ys := h
  obtain ⟨h2, h3⟩ := List.append_inj h1 rfl
  rw [kb_inj (hx x (by simp)) (hy y (by simp)) h2, keyB_inj (fun a ha => hx a (List.mem_cons_of_mem _ ha)) (fun a ha => hy a (List.mem_cons_of_mem _ ha)) h3]
theorem keyB_rng (xs : List Int) : ∀ m ∈ keyB xs, 0 ≤ m ∧ m < 256 := by
 intro m hm
 obtain ⟨x, _, hx⟩ := List.mem_flatMap.1 hm
 exact kb_rng x m hx
theorem u8_map_inj : ∀ {l m : List Int}, (∀ x ∈ l, 0 ≤ x ∧ x < 256) → (∀ x ∈ m, 0 ≤ x ∧ x < 256) → (l.map fun (m : Int) => UInt8.ofNat m.toNat) = (m.map fun (m : Int) => UInt8.ofNat m.toNat) → l = m
 | [], [], _, _, _ => rfl
 | [], y :: ys, _, _, h => by simp at h
 | x :: xs, [], _, _, h => by simp at h
 | x :: xs, y :: ys, hx, hy, h => by
  simp only [List.map_cons, List.cons.injEq] at h
  have h1 := hx x (by simp)
  have h2 := hy y (by simp)
  have h3 := congrArg UInt8.toNat h.1
  simp only [UInt8.toNat_ofNat'] at h3
  have : x = y := by omega
  rw [this, u8_map_inj (fun a ha => hx a (List.mem_cons_of_mem _ ha)) (fun a ha => hy a (List.mem_cons_of_mem _ ha)) h.2]
theorem keyS_inj {xs ys : List Int} (hx : ∀ x ∈ xs, 0 ≤ x ∧ x < 2147483648) (hy : ∀ y ∈ ys, 0 ≤ y ∧ y < 2147483648) (h : keyS xs = keyS ys) : xs = ys := by
 unfold keyS at h
 injection h with h
 injection h with h
 injection h with h
 exact keyB_inj hx hy (u8_map_inj (keyB_rng _) (keyB_rng _) h)
set_option maxHeartbeats 1000000 in
theorem key_fc (xs : List Int) (hn : xs.length ≤ 100000000) : FC Try.prog 26 [aInts xs] [] (fun r o => o = [] ∧ r = .a (.c (.v (keyS xs)))) := by
 refine fc_intro Try.func26 rfl (by rw [Try.ntmps26]; simp) ?_
 rw [Try.ntmps26]
 simp only [enum, aInts]
 (repeat (first | (refine aw_seq ?_; intro K hK) | refine aw_block ?_ | refine aw_region ?_ | (refine lst_x rfl rfl ?_; intro K1 hK1; simp only [go_sem, tInts_len]; (first | refine hK1 _ ?_ | refine andk (hK1 _ ?_)); clear hK1 K1) | ((first | refine lst_nil ?_ | refine aw_skip ?_); refine hK _ ?_; clear hK K)))
 refine aw_loop (fun k : Nat => { tm := [(3, .a (.c (.s 0 (k * 4)))), (10, .a (.c (.t 1 (tInts xs)))), (11, .i xs.length), (12, .i k)], hp := [.r ⟨5, 1, false, cB8 (keyB (xs.take k))⟩], n := 33, pin := 0 }) (fun k => k ≤ xs.length) (fun k => xs.length - k) 0 ?_ ?_ ?_
 ·omega
 ·simp only [show Int.toNat 0 = 0 from rfl, List.replicate_zero, List.take_zero, keyB, List.flatMap_nil, cB8, List.map_nil, Nat.zero_mul]
  (refine le_tm ?_; simp only [LeTm, go_sem]; try simp)
 ·rintro k hk K hK
  have htl : (xs.take k).length = k := by simp; omega
  by_cases hlt : k < xs.length
  ·have d1 : decide ((k : Int) < (xs.length : Int)) = true := by simpa using hlt
   have hg := tInts_get (List.getElem?_eq_getElem hlt)
   have hp := keyB_push (xs.take k) xs[k]
   rw [htl, ← List.take_succ_eq_append_getElem hlt] at hp
   (repeat (first | (refine aw_seq ?_; intro K hK) | refine aw_block ?_ | refine aw_region ?_ | (refine lst_x rfl rfl ?_; intro K1 hK1; simp only [go_sem, d1]; (first | refine hK1 _ ?_ | refine andk (hK1 _ ?_)); clear hK1 K1) | ((first | refine lst_nil ?_ | refine aw_skip ?_); refine hK _ ?_; clear hK K)))
   (refine aw_cnd ?_; intro X Y hX hY; simp only [go_sem])
   refine hX ?_
   clear hX hY X Y
   (repeat (first | (refine aw_seq ?_; intro K hK) | refine aw_block ?_ | refine aw_region ?_ | (refine lst_x rfl rfl ?_; intro K1 hK1; simp only [go_sem, hg, tInts_len, cB8_len, keyB_len, htl, hp]; (first | refine hK1 _ ?_ | refine andk (hK1 _ ?_)); clear hK1 K1) | ((first | refine lst_nil ?_ | refine aw_skip ?_); refine hK _ ?_; clear hK K)))
   ((try refine lst_nil ?_); (try refine aw_skip ?_); try simp only [ThenA])
   refine hK _ (k + 1) (by omega) (by omega) ?_
   refine Le.trans (le_pick [2] rfl rfl) ?_
   (try simp only [List.set_nil, List.take_nil, List.take_zero, List.map_append, go_sem])
   (try simp only [cB8_ren])
   have e4 : k * 4 + 4 = (k + 1) * 4 := by omega
   (try simp only [e4])
   (refine le_tm ?_; simp only [LeTm, go_sem]; try simp)
  ·have d1 : decide ((k : Int) < (xs.length : Int)) = false := by simpa using hlt
   have hke : xs.take k = xs := List.take_of_length_le (by omega)
   have hkl : k = xs.length := by omega
   rw [hke]
   (repeat (first | (refine aw_seq ?_; intro K hK) | refine aw_block ?_ | refine aw_region ?_ | (refine lst_x rfl rfl ?_; intro K1 hK1; simp only [go_sem, d1]; (first | refine hK1 _ ?_ | refine andk (hK1 _ ?_)); clear hK1 K1) | ((first | refine lst_nil ?_ | refine aw_skip ?_); refine hK _ ?_; clear hK K)))
   (refine aw_cnd ?_; intro X Y hX hY; simp only [go_sem])
   refine hY ?_
   clear hX hY X Y
   (refine aw_exit ?_; simp only [ThenA, InBl, reduceIte, Nat.reduceEqDiff]; (first | refine hK _ ?_ | (clear hK K; refine hK _ ?_) | (clear hK K; clear hK K; refine hK _ ?_) | (clear hK K; clear hK K; clear hK K; refine hK _ ?_) | (clear hK K; clear hK K; clear hK K; clear hK K; refine hK _ ?_) | (clear hK K; clear hK K; clear hK K; clear hK K; clear hK K; refine hK _ ?_)); clear hK K)
   (repeat (first | (refine aw_seq ?_; intro K hK) | refine aw_block ?_ | refine aw_region ?_ | (refine lst_x rfl rfl ?_; intro K1 hK1; simp only [go_sem]; (first | refine hK1 _ ?_ | refine andk (hK1 _ ?_)); clear hK1 K1) | ((first | refine lst_nil ?_ | refine aw_skip ?_); refine hK _ ?_; clear hK K)))
   (refine lst_cons rfl ?_; intro K1 hK1; refine stp_str (id := 0) (n := k * 4) (q := 5) (sl := false) (cells := cB8 (keyB xs)) (ns := keyB xs) Try.underlying77 Try.underlying9 Try.underlying5 rfl rfl (by simp only [go_sem]) rfl (by rw [keyB_len]; omega) (by rw [hkl, List.take_of_length_le (by rw [cB8_len, keyB_len]; exact Nat.le_refl _)]; rfl) ?_; simp only [go_sem]; refine hK1 _ ?_; clear hK1 K1)
   (repeat (first | (refine aw_seq ?_; intro K hK) | refine aw_block ?_ | refine aw_region ?_ | (refine lst_x rfl rfl ?_; intro K1 hK1; simp only [go_sem]; (first | refine hK1 _ ?_ | refine andk (hK1 _ ?_)); clear hK1 K1) | ((first | refine lst_nil ?_ | refine aw_skip ?_); refine hK _ ?_; clear hK K)))
   ((try refine aw_ret ?_); (try simp only [ThenA, InBl]); refine ret_le (le_pick [] rfl rfl) ?_; (try simp only [List.set_nil, List.take_nil, List.take_zero, List.map_append, go_sem]); ((try refine aw_ret ?_); (try refine lst_nil ?_); (try simp only [ThenA, InBl]); refine ret_mk (by first | exact .inl rfl | exact .inr rfl) rfl ?_; simp only [rtn, resA, resL, resV, Try.results26, go_sem, true_and, and_true, keyS]))
end Go.Proofs.Ythlckclbjknldaa
