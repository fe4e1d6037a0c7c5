/- Loose and valid systems: rows.loose, rows.Valid, the reference's Loose, Valid. -/
import Derived.Test.YthlckclbjknldaaG11
namespace Go.Proofs.Ythlckclbjknldaa
set_option linter.unusedVariables false
set_option linter.unusedSimpArgs false
open Go.RowKit
set_option maxRecDepth 100000
attribute [local go_sem] List.set_cons_zero List.set_cons_succ List.map_cons List.map_nil List.take_succ_cons List.take_zero List.drop_zero List.drop_succ_cons C.pl C.one List.all_cons List.all_nil Bool.and_true

def OkA (n : Nat) (a : Ar) : Prop := 0 ≤ a.1 ∧ a.1 ≤ 1025 ∧ 0 ≤ a.2 ∧ a.2 < (n : Int)
theorem looB_yes {R : List (List Ar)} (h1 : 1 ≤ R.length) (h2 : R.length ≤ 16384) (h3 : totA (R.take R.length) ≤ 262144) (h4 : ∀ i r, i < R.length → R[i]? = some r → ∀ a ∈ r, OkA R.length a) : looB R = true := by
 rw [List.take_length] at h3
 rw [looB, decide_eq_true_iff]
 refine ⟨h1, h2, h3, fun r hr a ha => ?_⟩
 obtain ⟨i, hi⟩ := List.mem_iff_getElem?.1 hr
 exact h4 i r (List.getElem?_eq_some_iff.1 hi).1 hi a ha
theorem looB_tot {R : List (List Ar)} {k : Nat} (h : 262144 < totA (R.take k)) : looB R = false := by
 rw [looB, decide_eq_false_iff_not]
 intro h2
 have := totA_le R k
 have := h2.2.2.1
 unfold maxA at this
 omega
theorem looB_arc {R : List (List Ar)} {i j : Nat} {r : List Ar} {a : Ar} (hr : R[i]? = some r) (ha : r[j]? = some a) (h : ¬ OkA R.length a) : looB R = false := by
 rw [looB, decide_eq_false_iff_not]
 exact fun h2 => h (h2.2.2.2 r (List.mem_of_getElem? hr) a (List.mem_of_getElem? ha))
theorem looB_few {R : List (List Ar)} (h : ¬ 1 ≤ R.length) : looB R = false := by
 rw [looB, decide_eq_false_iff_not]; exact fun h2 => h h2.1
theorem looB_many {R : List (List Ar)} (h : ¬ R.length ≤ 16384) : looB R = false := by
 rw [looB, decide_eq_false_iff_not]; exact fun h2 => h h2.2.1
theorem valB_uns {R : List (List Ar)} {i j : Nat} {r : List Ar} {a b : Ar} (hr : R[i]? = some r) (ha : r[j]? = some a) (hb : r[j + 1]? = some b) (h : ltA a b = false) : valB R = false := by
 rw [valB, decide_eq_false_iff_not]
 exact fun h2 => sortA_not ha hb h (h2.2 r (List.mem_of_getElem? hr))
theorem valB_yes {R : List (List Ar)} (h : looB R = true) (h2 : ∀ i r, i < R.length → R[i]? = some r → SortA r) : valB R = true := by
 rw [looB, decide_eq_true_iff] at h
 rw [valB, decide_eq_true_iff]
 refine ⟨h, fun r hr => ?_⟩
 obtain ⟨i, hi⟩ := List.mem_iff_getElem?.1 hr
 exact h2 i r (List.getElem?_eq_some_iff.1 hi).1 hi


set_option maxHeartbeats 1000000 in
theorem loose_fc (R : List (List Ar)) (hn : R.length ≤ 140737488355328) (hr : ∀ r ∈ R, r.length ≤ 140737488355328) : FC Try.prog 34 [aLts R] [] (fun r o => o = [] ∧ r = .b (looB R)) := by
 refine fc_intro Try.func34 rfl (by rw [Try.ntmps34]; simp) ?_
 rw [Try.ntmps34]
 simp only [enum, aLts]
 by_cases g1 : (R.length : Int) < 1
 ·have e1 : decide ((R.length : Int) < 1) = true := by simpa using g1
  (repeat (first | (refine aw_seq ?_; intro K hK) | refine aw_block ?_ | refine aw_region ?_ | (refine lst_x rfl rfl ?_; intro K1 hK1; simp only [go_sem, e1, tRows_len, List.set_cons_zero, List.set_cons_succ]; (first | refine hK1 _ ?_ | refine andk (hK1 _ ?_)); clear hK1 K1) | ((first | refine lst_nil ?_ | refine aw_skip ?_); refine hK _ ?_; clear hK K)))
  (refine aw_cnd ?_; intro X Y hX hY; simp only [go_sem])
  refine hX ?_
  clear hX hY X Y
  (repeat (first | (refine aw_seq ?_; intro K hK) | refine aw_block ?_ | refine aw_region ?_ | (refine lst_x rfl rfl ?_; intro K1 hK1; simp only [go_sem]; (first | refine hK1 _ ?_ | refine andk (hK1 _ ?_)); clear hK1 K1) | ((first | refine lst_nil ?_ | refine aw_skip ?_); refine hK _ ?_; clear hK K)))
  ((try refine aw_ret ?_); (try simp only [ThenA, InBl]); refine ret_le (le_pick [] rfl rfl) ?_; (try simp only [List.set_nil, List.take_nil, List.take_zero, List.map_append, go_sem]); ((try refine aw_ret ?_); (try refine lst_nil ?_); (try simp only [ThenA, InBl]); refine ret_mk (by first | exact .inl rfl | exact .inr rfl) rfl ?_; simp only [rtn, resA, resL, resV, Try.results34, go_sem, true_and, and_true]))
  rw [looB_few (by omega)]
 have e1 : decide ((R.length : Int) < 1) = false := by simpa using g1
 by_cases g2 : (R.length : Int) > 16384
 ·have e2 : decide ((R.length : Int) > 16384) = true := by simpa using g2
  (repeat (first | (refine aw_seq ?_; intro K hK) | refine aw_block ?_ | refine aw_region ?_ | (refine lst_x rfl rfl ?_; intro K1 hK1; simp only [go_sem, e1, e2, tRows_len, List.set_cons_zero, List.set_cons_succ]; (first | refine hK1 _ ?_ | refine andk (hK1 _ ?_)); clear hK1 K1) | ((first | refine lst_nil ?_ | refine aw_skip ?_); refine hK _ ?_; clear hK K)))
  (refine aw_cnd ?_; intro X Y hX hY; simp only [go_sem])
  refine hX ?_
  clear hX hY X Y
  (repeat (first | (refine aw_seq ?_; intro K hK) | refine aw_block ?_ | refine aw_region ?_ | (refine lst_x rfl rfl ?_; intro K1 hK1; simp only [go_sem]; (first | refine hK1 _ ?_ | refine andk (hK1 _ ?_)); clear hK1 K1) | ((first | refine lst_nil ?_ | refine aw_skip ?_); refine hK _ ?_; clear hK K)))
  ((try refine aw_ret ?_); (try simp only [ThenA, InBl]); refine ret_le (le_pick [] rfl rfl) ?_; (try simp only [List.set_nil, List.take_nil, List.take_zero, List.map_append, go_sem]); ((try refine aw_ret ?_); (try refine lst_nil ?_); (try simp only [ThenA, InBl]); refine ret_mk (by first | exact .inl rfl | exact .inr rfl) rfl ?_; simp only [rtn, resA, resL, resV, Try.results34, go_sem, true_and, and_true]))
  rw [looB_many (by omega)]
 have e2 : decide ((R.length : Int) > 16384) = false := by simpa using g2
 (repeat (first | (refine aw_seq ?_; intro K hK) | refine aw_block ?_ | refine aw_region ?_ | (refine lst_x rfl rfl ?_; intro K1 hK1; simp only [go_sem, e1, e2, tRows_len, List.set_cons_zero, List.set_cons_succ]; (first | refine hK1 _ ?_ | refine andk (hK1 _ ?_)); clear hK1 K1) | ((first | refine lst_nil ?_ | refine aw_skip ?_); refine hK _ ?_; clear hK K)))
 (refine aw_cnd ?_; intro X Y hX hY; simp only [go_sem])
 refine hY ?_
 clear hX hY X Y
 (repeat (first | (refine aw_seq ?_; intro K hK) | refine aw_block ?_ | refine aw_region ?_ | (refine lst_x rfl rfl ?_; intro K1 hK1; simp only [go_sem, tRows_len]; (first | refine hK1 _ ?_ | refine andk (hK1 _ ?_)); clear hK1 K1) | ((first | refine lst_nil ?_ | refine aw_skip ?_); refine hK _ ?_; clear hK K)))
 refine aw_loop (fun k : Nat => { tm := [(1, .a (.c (.p 0 0))), (3, .i R.length), (4, .i (262144 - (totA (R.take k) : Int))), (19, .a (.c (.t 1 (tRows R)))), (20, .i R.length), (21, .i k)], hp := [.r ⟨27, 1, false, [.t 1 (tRows R)]⟩], n := 60, pin := 0 }) (fun k => k ≤ R.length ∧ totA (R.take k) ≤ 262144 ∧ ∀ i r, i < k → R[i]? = some r → ∀ a ∈ r, OkA R.length a) (fun k => R.length - k) 0 ?_ ?_ ?_
 ·exact ⟨by omega, by simp [totA], fun i _ hi => by omega⟩
 ·(refine le_tm ?_; simp only [LeTm, go_sem, List.take_zero, totA, List.map_nil, List.sum_nil, Int.natCast_zero, Int.sub_zero]; try simp)
 ·rintro k ⟨hk, hto, hc⟩ K hK
  by_cases hlt : k < R.length
  ·have hl1 : decide ((k : Int) < (R.length : Int)) = true := by simpa using hlt
   have hgk := List.getElem?_eq_getElem hlt
   have hrk := hr _ (List.getElem_mem hlt)
   have htk := totA_take hlt
   generalize hW : totA (R.take k) = W at *
   (repeat (first | (refine aw_seq ?_; intro K hK) | refine aw_block ?_ | refine aw_region ?_ | (refine lst_x rfl rfl ?_; intro K1 hK1; simp only [go_sem, hl1]; (first | refine hK1 _ ?_ | refine andk (hK1 _ ?_)); clear hK1 K1) | ((first | refine lst_nil ?_ | refine aw_skip ?_); refine hK _ ?_; clear hK K)))
   (refine aw_cnd ?_; intro X Y hX hY; simp only [go_sem])
   refine hX ?_
   clear hX hY X Y
   (repeat (first | (refine aw_seq ?_; intro K hK) | refine aw_block ?_ | refine aw_region ?_ | (refine lst_x rfl rfl ?_; intro K1 hK1; simp only [go_sem, tRows_get hgk, tRows_len, tArcs_len, half2]; (first | refine hK1 _ ?_ | refine andk (hK1 _ ?_)); clear hK1 K1) | ((first | refine lst_nil ?_ | refine aw_skip ?_); refine hK _ ?_; clear hK K)))
   (refine aw_cnd ?_; intro X Y hX hY; simp only [go_sem])
   refine ⟨fun h => hX ?_, fun h => hY ?_⟩
   ·have hbig : 262144 < totA (R.take (k + 1)) := by simp at h; omega
    clear hX hY X Y
    (repeat (first | (refine aw_seq ?_; intro K hK) | refine aw_block ?_ | refine aw_region ?_ | (refine lst_x rfl rfl ?_; intro K1 hK1; simp only [go_sem]; (first | refine hK1 _ ?_ | refine andk (hK1 _ ?_)); clear hK1 K1) | ((first | refine lst_nil ?_ | refine aw_skip ?_); refine hK _ ?_; clear hK K)))
    ((try refine aw_ret ?_); (try simp only [ThenA, InBl]); refine ret_le (le_pick [] rfl rfl) ?_; (try simp only [List.set_nil, List.take_nil, List.take_zero, List.map_append, go_sem]); ((try refine aw_ret ?_); (try refine lst_nil ?_); (try simp only [ThenA, InBl]); refine ret_mk (by first | exact .inl rfl | exact .inr rfl) rfl ?_; simp only [rtn, resA, resL, resV, Try.results34, go_sem, true_and, and_true]))
    rw [looB_tot hbig]
   ·have hsm : totA (R.take (k + 1)) ≤ 262144 := by simp at h; omega
    have e3 : (262144 - (W : Int) - (R[k].length : Int)) = 262144 - (totA (R.take (k + 1)) : Int) := by omega
    clear hX hY X Y
    (repeat (first | (refine aw_seq ?_; intro K hK) | refine aw_block ?_ | refine aw_region ?_ | (refine lst_x rfl rfl ?_; intro K1 hK1; simp only [go_sem, tArcs_len, half2, e3]; (first | refine hK1 _ ?_ | refine andk (hK1 _ ?_)); clear hK1 K1) | ((first | refine lst_nil ?_ | refine aw_skip ?_); refine hK _ ?_; clear hK K)))
    refine aw_loop (fun j : Nat => { tm := [(1, .a (.c (.p 0 0))), (3, .i R.length), (4, .i (262144 - (totA (R.take (k + 1)) : Int))), (19, .a (.c (.t 1 (tRows R)))), (20, .i R.length), (21, .i k), (33, .a (.c (.t 2 (tArcs R[k])))), (34, .i R[k].length), (35, .i j)], hp := [.r ⟨27, 1, false, [.t 1 (tRows R)]⟩], n := 60, pin := 0 }) (fun j => j ≤ R[k].length ∧ ∀ i a, i < j → R[k][i]? = some a → OkA R.length a) (fun j => R[k].length - j) 0 ?_ ?_ ?_
    ·exact ⟨by omega, fun i _ hi => by omega⟩
    ·(refine le_tm ?_; simp only [LeTm, go_sem]; try simp)
    ·rintro j ⟨hj, hj2⟩ K hK
     by_cases hltj : j < R[k].length
     ·have hl2 : decide ((j : Int) < (R[k].length : Int)) = true := by simpa using hltj
      have hgj := List.getElem?_eq_getElem hltj
      have haj := tArcs_at hltj
      (repeat (first | (refine aw_seq ?_; intro K hK) | refine aw_block ?_ | refine aw_region ?_ | (refine lst_x rfl rfl ?_; intro K1 hK1; simp only [go_sem, hl2]; (first | refine hK1 _ ?_ | refine andk (hK1 _ ?_)); clear hK1 K1) | ((first | refine lst_nil ?_ | refine aw_skip ?_); refine hK _ ?_; clear hK K)))
      (refine aw_cnd ?_; intro X Y hX hY; simp only [go_sem])
      refine hX ?_
      clear hX hY X Y
      have bad : ¬ OkA R.length R[k][j] → looB R = false := fun h => looB_arc hgk hgj h
      by_cases c1 : R[k][j].1 < 0
      ·have d1 : decide (R[k][j].1 < 0) = true := by simpa using c1
       (repeat (first | (refine aw_seq ?_; intro K hK) | refine aw_block ?_ | refine aw_region ?_ | (refine lst_x rfl rfl ?_; intro K1 hK1; simp only [go_sem, d1, tArcs_len, half2, haj]; (first | refine hK1 _ ?_ | refine andk (hK1 _ ?_)); clear hK1 K1) | ((first | refine lst_nil ?_ | refine aw_skip ?_); refine hK _ ?_; clear hK K)))
       (refine aw_cnd ?_; intro X Y hX hY; simp only [go_sem])
       refine hX ?_
       clear hX hY X Y
       (repeat (first | (refine aw_seq ?_; intro K hK) | refine aw_block ?_ | refine aw_region ?_ | (refine lst_x rfl rfl ?_; intro K1 hK1; simp only [go_sem]; (first | refine hK1 _ ?_ | refine andk (hK1 _ ?_)); clear hK1 K1) | ((first | refine lst_nil ?_ | refine aw_skip ?_); refine hK _ ?_; clear hK K)))
       ((try refine aw_ret ?_); (try simp only [ThenA, InBl]); refine ret_le (le_pick [] rfl rfl) ?_; (try simp only [List.set_nil, List.take_nil, List.take_zero, List.map_append, go_sem]); ((try refine aw_ret ?_); (try refine lst_nil ?_); (try simp only [ThenA, InBl]); refine ret_mk (by first | exact .inl rfl | exact .inr rfl) rfl ?_; simp only [rtn, resA, resL, resV, Try.results34, go_sem, true_and, and_true]))
       rw [bad (fun h => by have := h.1; omega)]
      have d1 : decide (R[k][j].1 < 0) = false := by simpa using c1
      by_cases c2 : R[k][j].1 > 1025
      ·have d2 : decide (R[k][j].1 > 1025) = true := by simpa using c2
       (repeat (first | (refine aw_seq ?_; intro K hK) | refine aw_block ?_ | refine aw_region ?_ | (refine lst_x rfl rfl ?_; intro K1 hK1; simp only [go_sem, d1, d2, tArcs_len, half2, haj]; (first | refine hK1 _ ?_ | refine andk (hK1 _ ?_)); clear hK1 K1) | ((first | refine lst_nil ?_ | refine aw_skip ?_); refine hK _ ?_; clear hK K)))
       (refine aw_cnd ?_; intro X Y hX hY; simp only [go_sem])
       refine hX ?_
       clear hX hY X Y
       (repeat (first | (refine aw_seq ?_; intro K hK) | refine aw_block ?_ | refine aw_region ?_ | (refine lst_x rfl rfl ?_; intro K1 hK1; simp only [go_sem]; (first | refine hK1 _ ?_ | refine andk (hK1 _ ?_)); clear hK1 K1) | ((first | refine lst_nil ?_ | refine aw_skip ?_); refine hK _ ?_; clear hK K)))
       ((try refine aw_ret ?_); (try simp only [ThenA, InBl]); refine ret_le (le_pick [] rfl rfl) ?_; (try simp only [List.set_nil, List.take_nil, List.take_zero, List.map_append, go_sem]); ((try refine aw_ret ?_); (try refine lst_nil ?_); (try simp only [ThenA, InBl]); refine ret_mk (by first | exact .inl rfl | exact .inr rfl) rfl ?_; simp only [rtn, resA, resL, resV, Try.results34, go_sem, true_and, and_true]))
       rw [bad (fun h => by have := h.2.1; omega)]
      have d2 : decide (R[k][j].1 > 1025) = false := by simpa using c2
      by_cases c3 : R[k][j].2 < 0
      ·have d3 : decide (R[k][j].2 < 0) = true := by simpa using c3
       (repeat (first | (refine aw_seq ?_; intro K hK) | refine aw_block ?_ | refine aw_region ?_ | (refine lst_x rfl rfl ?_; intro K1 hK1; simp only [go_sem, d1, d2, d3, tArcs_len, half2, haj]; (first | refine hK1 _ ?_ | refine andk (hK1 _ ?_)); clear hK1 K1) | ((first | refine lst_nil ?_ | refine aw_skip ?_); refine hK _ ?_; clear hK K)))
       (refine aw_cnd ?_; intro X Y hX hY; simp only [go_sem])
       refine hX ?_
       clear hX hY X Y
       (repeat (first | (refine aw_seq ?_; intro K hK) | refine aw_block ?_ | refine aw_region ?_ | (refine lst_x rfl rfl ?_; intro K1 hK1; simp only [go_sem]; (first | refine hK1 _ ?_ | refine andk (hK1 _ ?_)); clear hK1 K1) | ((first | refine lst_nil ?_ | refine aw_skip ?_); refine hK _ ?_; clear hK K)))
       ((try refine aw_ret ?_); (try simp only [ThenA, InBl]); refine ret_le (le_pick [] rfl rfl) ?_; (try simp only [List.set_nil, List.take_nil, List.take_zero, List.map_append, go_sem]); ((try refine aw_ret ?_); (try refine lst_nil ?_); (try simp only [ThenA, InBl]); refine ret_mk (by first | exact .inl rfl | exact .inr rfl) rfl ?_; simp only [rtn, resA, resL, resV, Try.results34, go_sem, true_and, and_true]))
       rw [bad (fun h => by have := h.2.2.1; omega)]
      have d3 : decide (R[k][j].2 < 0) = false := by simpa using c3
      by_cases c4 : R[k][j].2 ≥ (R.length : Int)
      ·have d4 : decide (R[k][j].2 ≥ (R.length : Int)) = true := by simpa using c4
       (repeat (first | (refine aw_seq ?_; intro K hK) | refine aw_block ?_ | refine aw_region ?_ | (refine lst_x rfl rfl ?_; intro K1 hK1; simp only [go_sem, d1, d2, d3, d4, tArcs_len, half2, haj]; (first | refine hK1 _ ?_ | refine andk (hK1 _ ?_)); clear hK1 K1) | ((first | refine lst_nil ?_ | refine aw_skip ?_); refine hK _ ?_; clear hK K)))
       (refine aw_cnd ?_; intro X Y hX hY; simp only [go_sem])
       refine hX ?_
       clear hX hY X Y
       (repeat (first | (refine aw_seq ?_; intro K hK) | refine aw_block ?_ | refine aw_region ?_ | (refine lst_x rfl rfl ?_; intro K1 hK1; simp only [go_sem]; (first | refine hK1 _ ?_ | refine andk (hK1 _ ?_)); clear hK1 K1) | ((first | refine lst_nil ?_ | refine aw_skip ?_); refine hK _ ?_; clear hK K)))
       ((try refine aw_ret ?_); (try simp only [ThenA, InBl]); refine ret_le (le_pick [] rfl rfl) ?_; (try simp only [List.set_nil, List.take_nil, List.take_zero, List.map_append, go_sem]); ((try refine aw_ret ?_); (try refine lst_nil ?_); (try simp only [ThenA, InBl]); refine ret_mk (by first | exact .inl rfl | exact .inr rfl) rfl ?_; simp only [rtn, resA, resL, resV, Try.results34, go_sem, true_and, and_true]))
       rw [bad (fun h => by have := h.2.2.2; omega)]
      have d4 : decide (R[k][j].2 ≥ (R.length : Int)) = false := by simpa using c4
      have hck : OkA R.length R[k][j] := ⟨by omega, by omega, by omega, by omega⟩
      (repeat (first | (refine aw_seq ?_; intro K hK) | refine aw_block ?_ | refine aw_region ?_ | (refine lst_x rfl rfl ?_; intro K1 hK1; simp only [go_sem, d1, d2, d3, d4, tArcs_len, half2, haj]; (first | refine hK1 _ ?_ | refine andk (hK1 _ ?_)); clear hK1 K1) | ((first | refine lst_nil ?_ | refine aw_skip ?_); refine hK _ ?_; clear hK K)))
      (refine aw_cnd ?_; intro X Y hX hY; simp only [go_sem])
      refine hY ?_
      clear hX hY X Y
      (repeat (first | (refine aw_seq ?_; intro K hK) | refine aw_block ?_ | refine aw_region ?_ | (refine lst_x rfl rfl ?_; intro K1 hK1; simp only [go_sem]; (first | refine hK1 _ ?_ | refine andk (hK1 _ ?_)); clear hK1 K1) | ((first | refine lst_nil ?_ | refine aw_skip ?_); refine hK _ ?_; clear hK K)))
      ((try refine lst_nil ?_); (try refine aw_skip ?_); try simp only [ThenA])
      refine hK _ (j + 1) ⟨by omega, fun i a hi ha => ?_⟩ (by omega) ?_
      ·by_cases e : i = j
       ·subst e; rw [hgj] at ha; cases ha; exact hck
       ·exact hj2 i a (by omega) ha
      ·refine Le.trans (le_pick [0] rfl rfl) ?_
       (try simp only [List.set_nil, List.take_nil, List.take_zero, List.map_append, go_sem])
       (refine le_tm ?_; simp only [LeTm, go_sem]; try simp)
     ·have hl2 : decide ((j : Int) < (R[k].length : Int)) = false := by simpa using hltj
      have hje : j = R[k].length := by omega
      (repeat (first | (refine aw_seq ?_; intro K hK) | refine aw_block ?_ | refine aw_region ?_ | (refine lst_x rfl rfl ?_; intro K1 hK1; simp only [go_sem, hl2]; (first | refine hK1 _ ?_ | refine andk (hK1 _ ?_)); clear hK1 K1) | ((first | refine lst_nil ?_ | refine aw_skip ?_); refine hK _ ?_; clear hK K)))
      (refine aw_cnd ?_; intro X Y hX hY; simp only [go_sem])
      refine hY ?_
      clear hX hY X Y
      (refine aw_exit ?_; simp only [ThenA, InBl, reduceIte, Nat.reduceEqDiff]; (first | refine hK _ ?_ | (clear hK K; refine hK _ ?_) | (clear hK K; clear hK K; refine hK _ ?_) | (clear hK K; clear hK K; clear hK K; refine hK _ ?_) | (clear hK K; clear hK K; clear hK K; clear hK K; refine hK _ ?_) | (clear hK K; clear hK K; clear hK K; clear hK K; clear hK K; refine hK _ ?_)); clear hK K)
      (repeat (first | (refine aw_seq ?_; intro K hK) | refine aw_block ?_ | refine aw_region ?_ | (refine lst_x rfl rfl ?_; intro K1 hK1; simp only [go_sem]; (first | refine hK1 _ ?_ | refine andk (hK1 _ ?_)); clear hK1 K1) | ((first | refine lst_nil ?_ | refine aw_skip ?_); refine hK _ ?_; clear hK K)))
      ((try refine lst_nil ?_); (try refine aw_skip ?_); try simp only [ThenA])
      refine hK _ (k + 1) ⟨by omega, hsm, fun i r hi hir a ha => ?_⟩ (by omega) ?_
      ·by_cases e : i = k
       ·subst e; rw [hgk] at hir; cases hir
        obtain ⟨q, hq⟩ := List.mem_iff_getElem?.1 ha
        exact hj2 q a (by rw [hje]; exact (List.getElem?_eq_some_iff.1 hq).1) hq
       ·exact hc i r (by omega) hir a ha
      ·(refine le_tm ?_; simp only [LeTm, go_sem]; try simp)
  ·have hl1 : decide ((k : Int) < (R.length : Int)) = false := by simpa using hlt
   have hke : k = R.length := by omega
   (repeat (first | (refine aw_seq ?_; intro K hK) | refine aw_block ?_ | refine aw_region ?_ | (refine lst_x rfl rfl ?_; intro K1 hK1; simp only [go_sem, hl1]; (first | refine hK1 _ ?_ | refine andk (hK1 _ ?_)); clear hK1 K1) | ((first | refine lst_nil ?_ | refine aw_skip ?_); refine hK _ ?_; clear hK K)))
   (refine aw_cnd ?_; intro X Y hX hY; simp only [go_sem])
   refine hY ?_
   clear hX hY X Y
   (refine aw_exit ?_; simp only [ThenA, InBl, reduceIte, Nat.reduceEqDiff]; (first | refine hK _ ?_ | (clear hK K; refine hK _ ?_) | (clear hK K; clear hK K; refine hK _ ?_) | (clear hK K; clear hK K; clear hK K; refine hK _ ?_) | (clear hK K; clear hK K; clear hK K; clear hK K; refine hK _ ?_) | (clear hK K; clear hK K; clear hK K; clear hK K; clear hK K; refine hK _ ?_)); clear hK K)
   (repeat (first | (refine aw_seq ?_; intro K hK) | refine aw_block ?_ | refine aw_region ?_ | (refine lst_x rfl rfl ?_; intro K1 hK1; simp only [go_sem]; (first | refine hK1 _ ?_ | refine andk (hK1 _ ?_)); clear hK1 K1) | ((first | refine lst_nil ?_ | refine aw_skip ?_); refine hK _ ?_; clear hK K)))
   ((try refine aw_ret ?_); (try simp only [ThenA, InBl]); refine ret_le (le_pick [] rfl rfl) ?_; (try simp only [List.set_nil, List.take_nil, List.take_zero, List.map_append, go_sem]); ((try refine aw_ret ?_); (try refine lst_nil ?_); (try simp only [ThenA, InBl]); refine ret_mk (by first | exact .inl rfl | exact .inr rfl) rfl ?_; simp only [rtn, resA, resL, resV, Try.results34, go_sem, true_and, and_true]))
   rw [looB_yes (by omega) (by omega) (by rw [← hke]; exact hto) (by rw [← hke]; intro i r hi; rw [hke]; exact hc i r hi)]

set_option maxHeartbeats 1000000 in
theorem valid_fc (R : List (List Ar)) (hn : R.length ≤ 140737488355328) (hr : ∀ r ∈ R, r.length ≤ 140737488355328) : FC Try.prog 19 [aLts R] [] (fun r o => o = [] ∧ r = .b (valB R)) := by
 refine fc_intro Try.func19 rfl (by rw [Try.ntmps19]; simp) ?_
 rw [Try.ntmps19]
 simp only [enum, aLts]
 (repeat (first | (refine aw_seq ?_; intro K hK) | refine aw_block ?_ | refine aw_region ?_ | (refine lst_x rfl rfl ?_; intro K1 hK1; simp only [go_sem, List.set_cons_zero, List.set_cons_succ, C.pl, C.one, List.all_cons, List.all_nil, Bool.and_true, List.take_succ_cons, List.take_zero, List.drop_zero]; (first | refine hK1 _ ?_ | refine andk (hK1 _ ?_)); clear hK1 K1) | ((first | refine lst_nil ?_ | refine aw_skip ?_); refine hK _ ?_; clear hK K)))
 (refine lst_cons rfl ?_; intro K1 hK1; refine (stp_call0 (ids := []) (loose_fc R hn hr) rfl rfl (by simp only [go_sem]) (by kernel_rfl) (by (simp only [List.append_nil, go_sem]) <;> rfl) ?_).stp)
 rintro _ _ ⟨rfl, rfl⟩
 (simp only [aInts, aSets, List.append_nil, List.nil_append, List.length_map, go_sem]; refine hK1 _ ?_; clear hK1 K1)
 by_cases g0 : looB R = true
 rotate_left
 ·have g0' : looB R = false := by simpa using g0
  (repeat (first | (refine aw_seq ?_; intro K hK) | refine aw_block ?_ | refine aw_region ?_ | (refine lst_x rfl rfl ?_; intro K1 hK1; simp only [go_sem, g0', Bool.not_false]; (first | refine hK1 _ ?_ | refine andk (hK1 _ ?_)); clear hK1 K1) | ((first | refine lst_nil ?_ | refine aw_skip ?_); refine hK _ ?_; clear hK K)))
  (refine aw_cnd ?_; intro X Y hX hY; simp only [go_sem])
  refine hX ?_
  clear hX hY X Y
  (repeat (first | (refine aw_seq ?_; intro K hK) | refine aw_block ?_ | refine aw_region ?_ | (refine lst_x rfl rfl ?_; intro K1 hK1; simp only [go_sem]; (first | refine hK1 _ ?_ | refine andk (hK1 _ ?_)); clear hK1 K1) | ((first | refine lst_nil ?_ | refine aw_skip ?_); refine hK _ ?_; clear hK K)))
  ((try refine aw_ret ?_); (try simp only [ThenA, InBl]); refine ret_le (le_pick [] rfl rfl) ?_; (try simp only [List.set_nil, List.take_nil, List.take_zero, List.map_append, go_sem]); ((try refine aw_ret ?_); (try refine lst_nil ?_); (try simp only [ThenA, InBl]); refine ret_mk (by first | exact .inl rfl | exact .inr rfl) rfl ?_; simp only [rtn, resA, resL, resV, Try.results19, go_sem, true_and, and_true]))
  rw [valB_no g0']
 (repeat (first | (refine aw_seq ?_; intro K hK) | refine aw_block ?_ | refine aw_region ?_ | (refine lst_x rfl rfl ?_; intro K1 hK1; simp only [go_sem, g0, Bool.not_true]; (first | refine hK1 _ ?_ | refine andk (hK1 _ ?_)); clear hK1 K1) | ((first | refine lst_nil ?_ | refine aw_skip ?_); refine hK _ ?_; clear hK K)))
 (refine aw_cnd ?_; intro X Y hX hY; simp only [go_sem])
 refine hY ?_
 clear hX hY X Y
 (repeat (first | (refine aw_seq ?_; intro K hK) | refine aw_block ?_ | refine aw_region ?_ | (refine lst_x rfl rfl ?_; intro K1 hK1; simp only [go_sem, tRows_len]; (first | refine hK1 _ ?_ | refine andk (hK1 _ ?_)); clear hK1 K1) | ((first | refine lst_nil ?_ | refine aw_skip ?_); refine hK _ ?_; clear hK K)))
 refine aw_loop (fun k : Nat => { tm := [(1, .a (.c (.p 0 0))), (10, .a (.c (.t 1 (tRows R)))), (11, .i R.length), (12, .i k)], hp := [.r ⟨27, 1, false, [.t 1 (tRows R)]⟩], n := 34, pin := 0 }) (fun k => k ≤ R.length ∧ ∀ i r, i < k → R[i]? = some r → SortA r) (fun k => R.length - k) 0 ?_ ?_ ?_
 ·exact ⟨by omega, fun i _ hi => by omega⟩
 ·(refine le_tm ?_; simp only [LeTm, go_sem]; try simp)
 ·rintro k ⟨hk, hc⟩ K hK
  by_cases hlt : k < R.length
  ·have hl1 : decide ((k : Int) < (R.length : Int)) = true := by simpa using hlt
   have hgk := List.getElem?_eq_getElem hlt
   have hrk := hr _ (List.getElem_mem hlt)
   (repeat (first | (refine aw_seq ?_; intro K hK) | refine aw_block ?_ | refine aw_region ?_ | (refine lst_x rfl rfl ?_; intro K1 hK1; simp only [go_sem, hl1]; (first | refine hK1 _ ?_ | refine andk (hK1 _ ?_)); clear hK1 K1) | ((first | refine lst_nil ?_ | refine aw_skip ?_); refine hK _ ?_; clear hK K)))
   (refine aw_cnd ?_; intro X Y hX hY; simp only [go_sem])
   refine hX ?_
   clear hX hY X Y
   (repeat (first | (refine aw_seq ?_; intro K hK) | refine aw_block ?_ | refine aw_region ?_ | (refine lst_x rfl rfl ?_; intro K1 hK1; simp only [go_sem, tRows_get hgk, tRows_len]; (first | refine hK1 _ ?_ | refine andk (hK1 _ ?_)); clear hK1 K1) | ((first | refine lst_nil ?_ | refine aw_skip ?_); refine hK _ ?_; clear hK K)))
   refine aw_loop (fun j : Nat => { tm := [(1, .a (.c (.p 0 0))), (10, .a (.c (.t 1 (tRows R)))), (11, .i R.length), (12, .i k), (4, .a (.c (.t 2 (tArcs R[k])))), (5, .i (j + 1 : Nat))], hp := [.r ⟨27, 1, false, [.t 1 (tRows R)]⟩], n := 34, pin := 0 }) (fun j => j ≤ R[k].length ∧ ∀ i a b, i < j → R[k][i]? = some a → R[k][i + 1]? = some b → ltA a b = true) (fun j => R[k].length - j) 0 ?_ ?_ ?_
   ·exact ⟨by omega, fun i _ _ hi => by omega⟩
   ·(refine le_tm ?_; simp only [LeTm, go_sem]; try simp)
   ·rintro j ⟨hj, hj2⟩ K hK
    by_cases hltj : j + 1 < R[k].length
    ·have hl2 : decide (((j + 1 : Nat) : Int) < (R[k].length : Int)) = true := by simp; omega
     have hltj0 : j < R[k].length := by omega
     have hgj := List.getElem?_eq_getElem hltj0
     have hgj1 := List.getElem?_eq_getElem hltj
     have haj := tArcs_at hltj0
     have haj1 := tArcs_at hltj
     have e1 : ((j + 1 : Nat) : Int) - 1 = (j : Int) := by omega
     (repeat (first | (refine aw_seq ?_; intro K hK) | refine aw_block ?_ | refine aw_region ?_ | (refine lst_x rfl rfl ?_; intro K1 hK1; simp only [go_sem, hl2, tArcs_len, half2]; (first | refine hK1 _ ?_ | refine andk (hK1 _ ?_)); clear hK1 K1) | ((first | refine lst_nil ?_ | refine aw_skip ?_); refine hK _ ?_; clear hK K)))
     (refine aw_cnd ?_; intro X Y hX hY; simp only [go_sem])
     refine hX ?_
     clear hX hY X Y
     (repeat (first | (refine aw_seq ?_; intro K hK) | refine aw_block ?_ | refine aw_region ?_ | (refine lst_x rfl rfl ?_; intro K1 hK1; simp only [go_sem]; (first | refine hK1 _ ?_ | refine andk (hK1 _ ?_)); clear hK1 K1) | ((first | refine lst_nil ?_ | refine aw_skip ?_); refine hK _ ?_; clear hK K)))
     (refine aw_regionU 9 [(0, 0), (1, 0), (2, 0), (3, 0), (4, 1), (5, 0), (6, 0), (7, 0), (8, 1), (9, 2), (10, 0)] (by kernel_rfl) (by kernel_rfl) (by intro c st h; simp [ThenA, InBl, Ret] at h) ?_)
     (repeat (first | ((first | refine u_0x rfl rfl rfl ?_ | refine u_1x rfl rfl rfl ?_); intro K1 hK1; simp only [go_sem, e1, tArcs_len, tArcs_len, half2, haj, haj1]; (first | refine hK1 _ ?_ | refine andk (hK1 _ ?_)); clear hK1 K1) | (refine u_2x rfl rfl rfl rfl ?_; intro K1 hK1; simp only [go_sem, e1, tArcs_len, tArcs_len, half2, haj, haj1]; (first | refine hK1 _ ?_ | refine andk (hK1 _ ?_)); clear hK1 K1) | (refine u_nil ?_; refine hK _ ?_; clear hK K)))
     (refine u_w rfl rfl rfl ?_; intro K1 hK1; refine (stp_call0 (ids := []) (rcmp_fc R[k][j] R[k][j + 1]) rfl rfl (by simp only [go_sem]) (by kernel_rfl) (by (simp only [List.append_nil, go_sem]) <;> rfl) ?_).stp)
     rintro _ _ ⟨rfl, rfl⟩
     (simp only [aInts, aSets, List.append_nil, List.nil_append, List.length_map, go_sem]; refine hK1 _ ?_; clear hK1 K1)
     cases hlt2 : ltA R[k][j] R[k][j + 1] with
     | false =>
      (repeat (first | ((first | refine u_0x rfl rfl rfl ?_ | refine u_1x rfl rfl rfl ?_); intro K1 hK1; simp only [go_sem, cmpR_ge, hlt2, Bool.not_false]; (first | refine hK1 _ ?_ | refine andk (hK1 _ ?_)); clear hK1 K1) | (refine u_2x rfl rfl rfl rfl ?_; intro K1 hK1; simp only [go_sem, cmpR_ge, hlt2, Bool.not_false]; (first | refine hK1 _ ?_ | refine andk (hK1 _ ?_)); clear hK1 K1) | (refine u_nil ?_; refine hK _ ?_; clear hK K)))
      (refine aw_cnd ?_; intro X Y hX hY; simp only [go_sem])
      refine hX ?_
      clear hX hY X Y
      (repeat (first | (refine aw_seq ?_; intro K hK) | refine aw_block ?_ | refine aw_region ?_ | (refine lst_x rfl rfl ?_; intro K1 hK1; simp only [go_sem]; (first | refine hK1 _ ?_ | refine andk (hK1 _ ?_)); clear hK1 K1) | ((first | refine lst_nil ?_ | refine aw_skip ?_); refine hK _ ?_; clear hK K)))
      ((try refine aw_ret ?_); (try simp only [ThenA, InBl]); refine ret_le (le_pick [] rfl rfl) ?_; (try simp only [List.set_nil, List.take_nil, List.take_zero, List.map_append, go_sem]); ((try refine aw_ret ?_); (try refine lst_nil ?_); (try simp only [ThenA, InBl]); refine ret_mk (by first | exact .inl rfl | exact .inr rfl) rfl ?_; simp only [rtn, resA, resL, resV, Try.results19, go_sem, true_and, and_true]))
      rw [valB_uns hgk hgj hgj1 hlt2]
     | true =>
      (repeat (first | ((first | refine u_0x rfl rfl rfl ?_ | refine u_1x rfl rfl rfl ?_); intro K1 hK1; simp only [go_sem, cmpR_ge, hlt2, Bool.not_true]; (first | refine hK1 _ ?_ | refine andk (hK1 _ ?_)); clear hK1 K1) | (refine u_2x rfl rfl rfl rfl ?_; intro K1 hK1; simp only [go_sem, cmpR_ge, hlt2, Bool.not_true]; (first | refine hK1 _ ?_ | refine andk (hK1 _ ?_)); clear hK1 K1) | (refine u_nil ?_; refine hK _ ?_; clear hK K)))
      (refine aw_cnd ?_; intro X Y hX hY; simp only [go_sem])
      refine hY ?_
      clear hX hY X Y
      (repeat (first | (refine aw_seq ?_; intro K hK) | refine aw_block ?_ | refine aw_region ?_ | (refine lst_x rfl rfl ?_; intro K1 hK1; simp only [go_sem]; (first | refine hK1 _ ?_ | refine andk (hK1 _ ?_)); clear hK1 K1) | ((first | refine lst_nil ?_ | refine aw_skip ?_); refine hK _ ?_; clear hK K)))
      ((try refine lst_nil ?_); (try refine aw_skip ?_); try simp only [ThenA])
      refine hK _ (j + 1) ⟨by omega, fun i a b hi ha hb => ?_⟩ (by omega) ?_
      ·by_cases e : i = j
       ·subst e; rw [hgj] at ha; rw [hgj1] at hb; cases ha; cases hb; exact hlt2
       ·exact hj2 i a b (by omega) ha hb
      ·have e2 : (((j + 1 : Nat) : Int) + 1) = ((j + 1 + 1 : Nat) : Int) := by omega
       (refine le_tm ?_; simp only [LeTm, go_sem, e2]; try simp)
    ·have hl2 : decide (((j + 1 : Nat) : Int) < (R[k].length : Int)) = false := by simp; omega
     (repeat (first | (refine aw_seq ?_; intro K hK) | refine aw_block ?_ | refine aw_region ?_ | (refine lst_x rfl rfl ?_; intro K1 hK1; simp only [go_sem, hl2, tArcs_len, half2]; (first | refine hK1 _ ?_ | refine andk (hK1 _ ?_)); clear hK1 K1) | ((first | refine lst_nil ?_ | refine aw_skip ?_); refine hK _ ?_; clear hK K)))
     (refine aw_cnd ?_; intro X Y hX hY; simp only [go_sem])
     refine hY ?_
     clear hX hY X Y
     (refine aw_exit ?_; simp only [ThenA, InBl, reduceIte, Nat.reduceEqDiff]; (first | refine hK _ ?_ | (clear hK K; refine hK _ ?_) | (clear hK K; clear hK K; refine hK _ ?_) | (clear hK K; clear hK K; clear hK K; refine hK _ ?_) | (clear hK K; clear hK K; clear hK K; clear hK K; refine hK _ ?_) | (clear hK K; clear hK K; clear hK K; clear hK K; clear hK K; refine hK _ ?_)); clear hK K)
     (repeat (first | (refine aw_seq ?_; intro K hK) | refine aw_block ?_ | refine aw_region ?_ | (refine lst_x rfl rfl ?_; intro K1 hK1; simp only [go_sem]; (first | refine hK1 _ ?_ | refine andk (hK1 _ ?_)); clear hK1 K1) | ((first | refine lst_nil ?_ | refine aw_skip ?_); refine hK _ ?_; clear hK K)))
     ((try refine lst_nil ?_); (try refine aw_skip ?_); try simp only [ThenA])
     refine hK _ (k + 1) ⟨by omega, fun i r hi hir => ?_⟩ (by omega) ?_
     ·by_cases e : i = k
      ·subst e; rw [hgk] at hir; cases hir
       exact sortA_get fun i a b ha hb => hj2 i a b (by have := (List.getElem?_eq_some_iff.1 hb).1; omega) ha hb
      ·exact hc i r (by omega) hir
     ·(refine le_tm ?_; simp only [LeTm, go_sem]; try simp)
  ·have hl1 : decide ((k : Int) < (R.length : Int)) = false := by simpa using hlt
   (repeat (first | (refine aw_seq ?_; intro K hK) | refine aw_block ?_ | refine aw_region ?_ | (refine lst_x rfl rfl ?_; intro K1 hK1; simp only [go_sem, hl1]; (first | refine hK1 _ ?_ | refine andk (hK1 _ ?_)); clear hK1 K1) | ((first | refine lst_nil ?_ | refine aw_skip ?_); refine hK _ ?_; clear hK K)))
   (refine aw_cnd ?_; intro X Y hX hY; simp only [go_sem])
   refine hY ?_
   clear hX hY X Y
   (refine aw_exit ?_; simp only [ThenA, InBl, reduceIte, Nat.reduceEqDiff]; (first | refine hK _ ?_ | (clear hK K; refine hK _ ?_) | (clear hK K; clear hK K; refine hK _ ?_) | (clear hK K; clear hK K; clear hK K; refine hK _ ?_) | (clear hK K; clear hK K; clear hK K; clear hK K; refine hK _ ?_) | (clear hK K; clear hK K; clear hK K; clear hK K; clear hK K; refine hK _ ?_)); clear hK K)
   (repeat (first | (refine aw_seq ?_; intro K hK) | refine aw_block ?_ | refine aw_region ?_ | (refine lst_x rfl rfl ?_; intro K1 hK1; simp only [go_sem]; (first | refine hK1 _ ?_ | refine andk (hK1 _ ?_)); clear hK1 K1) | ((first | refine lst_nil ?_ | refine aw_skip ?_); refine hK _ ?_; clear hK K)))
   ((try refine aw_ret ?_); (try simp only [ThenA, InBl]); refine ret_le (le_pick [] rfl rfl) ?_; (try simp only [List.set_nil, List.take_nil, List.take_zero, List.map_append, go_sem]); ((try refine aw_ret ?_); (try refine lst_nil ?_); (try simp only [ThenA, InBl]); refine ret_mk (by first | exact .inl rfl | exact .inr rfl) rfl ?_; simp only [rtn, resA, resL, resV, Try.results19, go_sem, true_and, and_true]))
   rw [valB_yes g0 (fun i r hi => hc i r (by omega))]
end Go.Proofs.Ythlckclbjknldaa
