/- diamond.TauLoops. The system without diamonds, plain. -/
import Derived.Test.YthlckclbjknldaaG42
import Derived.Test.YthlckclbjknldaaG43
import Derived.Test.YthlckclbjknldaaG12
import Derived.Test.YthlckclbjknldaaTl1
import Derived.Test.YthlckclbjknldaaG60
import Derived.Test.YthlckclbjknldaaMnil
namespace Go.Proofs.Ythlckclbjknldaa
set_option linter.unusedVariables false
set_option linter.unusedSimpArgs false
open Go.RowKit
set_option maxRecDepth 100000
attribute [local go_sem] List.set_cons_zero List.set_cons_succ List.map_cons List.map_nil List.take_succ_cons List.take_zero List.drop_zero List.drop_succ_cons C.pl C.one List.all_cons List.all_nil Bool.and_true Nat.mul_one Int.toNat_natCast

theorem set_two2 (L : List C) (s : Nat) (x y : C) : (L.set s x).set s y = L.set s y := by simp
set_option maxHeartbeats 8000000 in
theorem tauL_fc (R : List (List Ar)) (hv : valB R = true) (h1 : 1 ≤ R.length) (hn : R.length ≤ 1000000) (hr : ∀ r ∈ R, r.length ≤ 1000000) : FC Try.prog 8 [aLts R] [] (fun r o => ∃ D : List Int, D.length = R.length ∧ (∀ v, v < R.length → Least (Adj true R) v (fnL D (-1) v)) ∧ ∃ q, q = canonR (tlOut (clsN D) (ixS D R.length).2 R R.length) ∧ o = [.r ⟨27, 1, false, [.t 1 (tRows q.1)]⟩] ∧ r = .tup [.g [.t 1 (tRows q.1)], .c (.v (.int .i64 0))]) := by
 refine fc_intro Try.func8 rfl (by rw [Try.ntmps8]; simp) ?_
 rw [Try.ntmps8]
 simp only [enum, aLts]
 have hlo : looB R = true := decide_eq_true (of_decide_eq_true hv).1
 (repeat (first | (refine aw_seq ?_; intro K hK) | refine aw_block ?_ | refine aw_region ?_ | (refine lst_x rfl rfl ?_; intro K1 hK1; simp only [go_sem]; (first | refine hK1 _ ?_ | refine andk (hK1 _ ?_)); clear hK1 K1) | ((first | refine lst_nil ?_ | refine aw_skip ?_); refine hK _ ?_; clear hK K)))
 (refine lst_cons rfl ?_; intro K1 hK1; refine (stp_call0 (ids := []) (valid_fc R (by omega) (fun r h => by have := hr r h; omega)) rfl rfl (by simp only [go_sem]) (by kernel_rfl) (by (simp only [List.append_nil, go_sem]) <;> rfl) ?_).stp)
 rintro _ _ ⟨rfl, rfl⟩
 (simp only [aInts, aSets, List.append_nil, List.nil_append, List.length_map, go_sem]; refine hK1 _ ?_; clear hK1 K1)
 (repeat (first | (refine aw_seq ?_; intro K hK) | refine aw_block ?_ | refine aw_region ?_ | (refine lst_x rfl rfl ?_; intro K1 hK1; simp only [go_sem, hv, Bool.not_true]; (first | refine hK1 _ ?_ | refine andk (hK1 _ ?_)); clear hK1 K1) | ((first | refine lst_nil ?_ | refine aw_skip ?_); refine hK _ ?_; clear hK K)))
 (refine aw_cnd ?_; intro X Y hX hY; simp only [go_sem])
 refine hY ?_
 clear hX hY X Y
 (repeat (first | (refine aw_seq ?_; intro K hK) | refine aw_block ?_ | refine aw_region ?_ | (refine lst_x rfl rfl ?_; intro K1 hK1; simp only [go_sem]; (first | refine hK1 _ ?_ | refine andk (hK1 _ ?_)); clear hK1 K1) | ((first | refine lst_nil ?_ | refine aw_skip ?_); refine hK _ ?_; clear hK K)))
 (refine lst_cons rfl ?_; intro K1 hK1; refine (stp_call0 (ids := []) (comp_fc R true hv h1 hn hr) rfl rfl (by simp only [go_sem]) (by kernel_rfl) (by (simp only [List.append_nil, go_sem]) <;> rfl) ?_).stp)
 rintro _ _ ⟨D, hC, hL, rfl, rfl⟩
 (simp only [aInts, aSets, rInts, cInts_up, List.append_nil, List.nil_append, List.length_map, go_sem]; refine hK1 _ ?_; clear hK1 K1)
 have hrep := least_rep (adj_lt true hlo) hC hL
 (repeat (first | (refine aw_seq ?_; intro K hK) | refine aw_block ?_ | refine aw_region ?_ | (refine lst_x rfl rfl ?_; intro K1 hK1; simp only [go_sem, tRows_len]; (first | refine hK1 _ ?_ | refine andk (hK1 _ ?_)); clear hK1 K1) | ((first | refine lst_nil ?_ | refine aw_skip ?_); refine hK _ ?_; clear hK K)))
 have e0 : List.replicate R.length (C.v (.int .i64 0)) = cInts (List.replicate R.length 0) := by simp [cInts]
 rw [e0]
 refine aw_loop (fun k : Nat => { tm := [(1, .a (.c (.p 0 0))), (2, .a (.c (.p 1 0))), (4, .a (.c (.s 2 R.length))), (5, .a (.c (.s 3 R.length))), (6, .i (ixS D k).2), (28, .a (.c (.s 2 R.length))), (29, .i R.length), (30, .i k)], hp := [.r ⟨27, 1, false, [.t 1 (tRows R)]⟩, .r ⟨27, 1, false, [.v (.slice none 0 0)]⟩, .r ⟨3, 1, true, cInts D⟩, .r ⟨3, 1, true, cInts (ixS D k).1⟩], n := 99, pin := 0 }) (fun k => k ≤ R.length) (fun k => R.length - k) 0 ?_ ?_ ?_
 ·omega
 ·simp only [ixS, hC]
  (refine le_tm ?_; simp only [LeTm, go_sem]; try simp)
 ·rintro k hk K hK
  have hxl := ixS_len D k
  have hxk := ixS_le D k
  by_cases hlt : k < R.length
  ·have d1 : decide ((k : Int) < (R.length : Int)) = true := by simpa using hlt
   have gd : (cInts D)[k]? = some (.v (.int .i64 D[k])) := cInts_get (List.getElem?_eq_getElem (by omega))
   by_cases hq : D[k] = (k : Int)
   ·have d2 : ((k : Int) == D[k]) = true := by rw [hq]; simp
    have hs : ixS D (k + 1) = ((ixS D k).1.set k ((ixS D k).2 : Int), (ixS D k).2 + 1) := by
     rw [ixS, if_pos (by rw [List.getElem?_eq_getElem (by omega), hq])]
    (repeat (first | (refine aw_seq ?_; intro K hK) | refine aw_block ?_ | refine aw_region ?_ | (refine lst_x rfl rfl ?_; intro K1 hK1; simp only [go_sem, d1]; (first | refine hK1 _ ?_ | refine andk (hK1 _ ?_)); clear hK1 K1) | ((first | refine lst_nil ?_ | refine aw_skip ?_); refine hK _ ?_; clear hK K)))
    (refine aw_cnd ?_; intro X Y hX hY; simp only [go_sem])
    refine hX ?_
    clear hX hY X Y
    (repeat (first | (refine aw_seq ?_; intro K hK) | refine aw_block ?_ | refine aw_region ?_ | (refine lst_x rfl rfl ?_; intro K1 hK1; simp only [go_sem, gd, cInts_len, hC, d2]; (first | refine hK1 _ ?_ | refine andk (hK1 _ ?_)); clear hK1 K1) | ((first | refine lst_nil ?_ | refine aw_skip ?_); refine hK _ ?_; clear hK K)))
    (refine aw_cnd ?_; intro X Y hX hY; simp only [go_sem])
    refine hX ?_
    clear hX hY X Y
    (repeat (first | (refine aw_seq ?_; intro K hK) | refine aw_block ?_ | refine aw_region ?_ | (refine lst_x rfl rfl ?_; intro K1 hK1; simp only [go_sem, cInts_len, hxl, hC, ST.put, setC, A0.cells, cInts_set]; (first | refine hK1 _ ?_ | refine andk (hK1 _ ?_)); clear hK1 K1) | ((first | refine lst_nil ?_ | refine aw_skip ?_); refine hK _ ?_; clear hK K)))
    ((try refine lst_nil ?_); (try refine aw_skip ?_); try simp only [ThenA])
    refine hK _ (k + 1) (by omega) (by omega) ?_
    rw [hs]
    (refine le_tm ?_; simp only [LeTm, go_sem]; try simp)
   ·have d2 : ((k : Int) == D[k]) = false := by simp; omega
    have hs : ixS D (k + 1) = ixS D k := by
     rw [ixS, if_neg (by rw [List.getElem?_eq_getElem (by omega)]; simpa using hq)]
    (repeat (first | (refine aw_seq ?_; intro K hK) | refine aw_block ?_ | refine aw_region ?_ | (refine lst_x rfl rfl ?_; intro K1 hK1; simp only [go_sem, d1]; (first | refine hK1 _ ?_ | refine andk (hK1 _ ?_)); clear hK1 K1) | ((first | refine lst_nil ?_ | refine aw_skip ?_); refine hK _ ?_; clear hK K)))
    (refine aw_cnd ?_; intro X Y hX hY; simp only [go_sem])
    refine hX ?_
    clear hX hY X Y
    (repeat (first | (refine aw_seq ?_; intro K hK) | refine aw_block ?_ | refine aw_region ?_ | (refine lst_x rfl rfl ?_; intro K1 hK1; simp only [go_sem, gd, cInts_len, hC, d2]; (first | refine hK1 _ ?_ | refine andk (hK1 _ ?_)); clear hK1 K1) | ((first | refine lst_nil ?_ | refine aw_skip ?_); refine hK _ ?_; clear hK K)))
    (refine aw_cnd ?_; intro X Y hX hY; simp only [go_sem])
    refine hY ?_
    clear hX hY X Y
    (repeat (first | (refine aw_seq ?_; intro K hK) | refine aw_block ?_ | refine aw_region ?_ | (refine lst_x rfl rfl ?_; intro K1 hK1; simp only [go_sem]; (first | refine hK1 _ ?_ | refine andk (hK1 _ ?_)); clear hK1 K1) | ((first | refine lst_nil ?_ | refine aw_skip ?_); refine hK _ ?_; clear hK K)))
    ((try refine lst_nil ?_); (try refine aw_skip ?_); try simp only [ThenA])
    refine hK _ (k + 1) (by omega) (by omega) ?_
    rw [hs]
    (refine le_tm ?_; simp only [LeTm, go_sem]; try simp)
  ·have d1 : decide ((k : Int) < (R.length : Int)) = false := by simpa using hlt
   have hke : k = R.length := by omega
   generalize hm : (ixS D k).2 = m at *
   generalize hx : (ixS D k).1 = ix at *
   rw [hke] at hm hx
   (repeat (first | (refine aw_seq ?_; intro K hK) | refine aw_block ?_ | refine aw_region ?_ | (refine lst_x rfl rfl ?_; intro K1 hK1; simp only [go_sem, d1]; (first | refine hK1 _ ?_ | refine andk (hK1 _ ?_)); clear hK1 K1) | ((first | refine lst_nil ?_ | refine aw_skip ?_); refine hK _ ?_; clear hK K)))
   (refine aw_cnd ?_; intro X Y hX hY; simp only [go_sem])
   refine hY ?_
   clear hX hY X Y
   (refine aw_exit ?_; simp only [ThenA, InBl, reduceIte, Nat.reduceEqDiff]; (first | refine hK _ ?_ | (clear hK K; refine hK _ ?_) | (clear hK K; clear hK K; refine hK _ ?_) | (clear hK K; clear hK K; clear hK K; refine hK _ ?_) | (clear hK K; clear hK K; clear hK K; clear hK K; refine hK _ ?_) | (clear hK K; clear hK K; clear hK K; clear hK K; clear hK K; refine hK _ ?_)); clear hK K)
   (repeat (first | (refine aw_seq ?_; intro K hK) | refine aw_block ?_ | refine aw_region ?_ | (refine lst_x rfl rfl ?_; intro K1 hK1; simp only [go_sem, tRows_len]; (first | refine hK1 _ ?_ | refine andk (hK1 _ ?_)); clear hK1 K1) | ((first | refine lst_nil ?_ | refine aw_skip ?_); refine hK _ ?_; clear hK K)))
   obtain ⟨f, hf⟩ : ∃ f, f = clsN D := ⟨_, rfl⟩
   have hmle : m ≤ R.length := by omega
   have hcls : ∀ s, s < R.length → ∃ u : Nat, u < R.length ∧ D[s]? = some (u : Int) ∧ f s < m ∧ ix[u]? = some (f s : Int) := fun s hs => by
    rw [hf, ← hm, ← hx]; exact cls_ok hC hrep hs
   have hfm : ∀ v, v < R.length → f v < m := fun v hv => by obtain ⟨_, _, _, h, _⟩ := hcls v hv; exact h
   have hbd := (of_decide_eq_true hlo).2.2.2
   have htA : totA R ≤ 262144 := (of_decide_eq_true hlo).2.2.1
   have e1 : List.replicate m (C.o (2, 34) []) = cRowsO (tlOut f m R 0) := by simp [cRowsO, tlOut, tArcs]
   rw [e1]
   refine aw_loop (fun s : Nat => { tm := [(1, .a (.c (.p 0 0))), (2, .a (.c (.p 1 0))), (4, .a (.c (.s 2 R.length))), (5, .a (.c (.s 3 R.length))), (9, .a (.c (.s 4 m))), (48, .a (.c (.t 1 (tRows R)))), (49, .i R.length), (50, .i s)], hp := [.r ⟨27, 1, false, [.t 1 (tRows R)]⟩, .r ⟨27, 1, false, [.v (.slice none 0 0)]⟩, .r ⟨3, 1, true, cInts D⟩, .r ⟨3, 1, true, cInts ix⟩, .r ⟨32, 1, true, cRowsO (tlOut f m R s)⟩], n := 99, pin := 0 }) (fun s => s ≤ R.length) (fun s => R.length - s) 0 ?_ ?_ ?_
   ·omega
   ·(refine le_tm ?_; simp only [LeTm, go_sem]; try simp)
   ·rintro s hs K hK
    by_cases hlt2 : s < R.length
    ·have d2 : decide ((s : Int) < (R.length : Int)) = true := by simpa using hlt2
     have hgR := List.getElem?_eq_getElem hlt2
     have hrl := hr _ (List.getElem_mem hlt2)
     obtain ⟨us, u1, u2, u3, u4⟩ := hcls s hlt2
     have gD := cInts_get u2
     have gI := cInts_get u4
     have htot := tlOut_tot hfm s hs
     have htl2 := totA_le R s
     have hto := totA_take hlt2
     have htl3 := totA_le R (s + 1)
     have hbs := hbd _ (List.getElem_mem hlt2)
     have htl : tlOut f m R (s + 1) = tlRow f (f s) (tlOut f m R s) R[s] := by
      rw [tlOut, List.getD_eq_getElem?_getD, hgR, Option.getD_some]
     generalize hrow : R[s] = row at *
     (repeat (first | (refine aw_seq ?_; intro K hK) | refine aw_block ?_ | refine aw_region ?_ | (refine lst_x rfl rfl ?_; intro K1 hK1; simp only [go_sem, d2]; (first | refine hK1 _ ?_ | refine andk (hK1 _ ?_)); clear hK1 K1) | ((first | refine lst_nil ?_ | refine aw_skip ?_); refine hK _ ?_; clear hK K)))
     (refine aw_cnd ?_; intro X Y hX hY; simp only [go_sem])
     refine hX ?_
     clear hX hY X Y
     (repeat (first | (refine aw_seq ?_; intro K hK) | refine aw_block ?_ | refine aw_region ?_ | (refine lst_x rfl rfl ?_; intro K1 hK1; simp only [go_sem, tRows_len, tRows_get hgR, cInts_len, hC, hxl, gD, gI, tArcs_len, half2]; (first | refine hK1 _ ?_ | refine andk (hK1 _ ?_)); clear hK1 K1) | ((first | refine lst_nil ?_ | refine aw_skip ?_); refine hK _ ?_; clear hK K)))
     refine aw_loop (fun k : Nat => { tm := [(1, .a (.c (.p 0 0))), (2, .a (.c (.p 1 0))), (4, .a (.c (.s 2 R.length))), (5, .a (.c (.s 3 R.length))), (9, .a (.c (.s 4 m))), (12, .i (f s)), (48, .a (.c (.t 1 (tRows R)))), (49, .i R.length), (50, .i s), (62, .a (.c (.t 2 (tArcs row)))), (63, .i row.length), (64, .i k)], hp := [.r ⟨27, 1, false, [.t 1 (tRows R)]⟩, .r ⟨27, 1, false, [.v (.slice none 0 0)]⟩, .r ⟨3, 1, true, cInts D⟩, .r ⟨3, 1, true, cInts ix⟩, .r ⟨32, 1, true, cRowsO (tlRow f (f s) (tlOut f m R s) (row.take k))⟩], n := 99, pin := 0 }) (fun k => k ≤ row.length) (fun k => row.length - k) 0 ?_ ?_ ?_
     ·omega
     ·simp only [List.take_zero, tlRow, List.foldl_nil]
      (refine le_tm ?_; simp only [LeTm, go_sem]; try simp)
     ·rintro k hk K hK
      by_cases hlt3 : k < row.length
      ·have d3 : decide ((k : Int) < (row.length : Int)) = true := by simpa using hlt3
       have hat := tArcs_at hlt3
       have hb := hbs _ (List.getElem_mem hlt3)
       obtain ⟨e, tn, hya⟩ : ∃ (e : Int) (tn : Nat), row[k] = (e, (tn : Int)) := ⟨row[k].1, row[k].2.toNat, by
        have : (row[k].2.toNat : Int) = row[k].2 := by omega
        rw [this]⟩
       rw [hya] at hat hb
       have htn : tn < R.length := by have := hb.2.2.2; simp only at this; omega
       obtain ⟨ut, v1, v2, v3, v4⟩ := hcls tn htn
       have gDt := cInts_get v2
       have gIt := cInts_get v4
       have hol : (tlRow f (f s) (tlOut f m R s) (row.take k)).length = m := by rw [tlRow_len, tlOut_len]
       have hot : totA (tlRow f (f s) (tlOut f m R s) (row.take k)) ≤ 262144 := by
        rw [tlRow_tot f _ _ (by rw [tlOut_len]; exact u3), htot]
        simp; omega
       have hsn : tlRow f (f s) (tlOut f m R s) (row.take (k + 1)) = tlA f (f s) (tlRow f (f s) (tlOut f m R s) (row.take k)) (e, (tn : Int)) := by
        rw [List.take_succ_eq_append_getElem hlt3, tlRow_snoc, hya]
       generalize tlRow f (f s) (tlOut f m R s) (row.take k) = o at *
       have hrw := totA_row o (f s)
       have hgo : o[f s]? = some (o.getD (f s) []) := by
        rw [List.getD_eq_getElem?_getD, List.getElem?_eq_getElem (by omega)]; rfl
       have hA : tlA f (f s) o (e, (tn : Int)) = o.set (f s) (o.getD (f s) [] ++ [(e, (f tn : Int))]) := rfl
       generalize o.getD (f s) [] = oc at *
       (repeat (first | (refine aw_seq ?_; intro K hK) | refine aw_block ?_ | refine aw_region ?_ | (refine lst_x rfl rfl ?_; intro K1 hK1; simp only [go_sem, d3]; (first | refine hK1 _ ?_ | refine andk (hK1 _ ?_)); clear hK1 K1) | ((first | refine lst_nil ?_ | refine aw_skip ?_); refine hK _ ?_; clear hK K)))
       (refine aw_cnd ?_; intro X Y hX hY; simp only [go_sem])
       refine hX ?_
       clear hX hY X Y
       (repeat (first | (refine aw_seq ?_; intro K hK) | refine aw_block ?_ | refine aw_region ?_ | (refine lst_x rfl rfl ?_; intro K1 hK1; simp only [go_sem, hat, tArcs_len, half2, ST.put, setC, A0.cells]; (first | refine hK1 _ ?_ | refine andk (hK1 _ ?_)); clear hK1 K1) | ((first | refine lst_nil ?_ | refine aw_skip ?_); refine hK _ ?_; clear hK K)))
       (refine aw_regionZ [] (.m 0 0 0 (.m 1 0 0 (.m 2 0 0 (.m 3 0 0 (.m 4 0 0 (.m 5 1 18 (.m 6 0 0 (.m 7 1 17 (.m 8 0 0 (.m 9 0 0 (.m 10 0 0 (.m 11 1 17 (.m 12 0 0 (.m 13 1 17 (.m 14 0 0 (.m 15 1 17 (.m 16 0 0 (.a 17 (.a 18 (.m 19 0 0 (.a 20 .e))))))))))))))))))))) (by kernel_rfl) (by kernel_rfl) (by intro c st h; simp [ThenA, InBl, Ret] at h) ?_)
       (repeat (first | ((first | refine z_0 rfl rfl rfl ?_ | refine z_1 rfl rfl rfl rfl rfl rfl rfl ?_ | refine z_1b rfl rfl rfl ?_); intro K1 hK1; simp only [go_sem, cRowsO_len, cRowsO_get hgo, hol, cInts_len, hC, hxl, gDt, gIt]; (first | refine hK1 _ ?_ | refine andk (hK1 _ ?_)); clear hK1 K1) | (refine z_nil ⟨by simp, by simp, ?_⟩; refine hK _ ?_; clear hK K)))
       (refine z_2 rfl rfl ?_; intro K1 hK1; refine stpF_a rfl ?_; simp only [go_sem]; (first | refine hK1 _ ?_ | refine andk (hK1 _ ?_)); clear hK1 K1)
       (refine z_2y rfl rfl rfl ?_; intro K1 hK1; refine stpY_ap rfl rfl rfl rfl (by first | rfl | simp only [rowsB, List.getD_cons_zero, List.getD_cons_succ, hne, List.isEmpty_cons, Bool.not_false, Bool.true_and, Bool.and_true, Bool.and_self]) rfl ?_; simp only [go_sem, tArcs_c, tArcs_len, half2, cArcs_snoc, cRowsO_get hgo]; (first | refine hK1 _ ?_ | refine andk (hK1 _ ?_)); clear hK1 K1)
       (repeat (first | ((first | refine z_0 rfl rfl rfl ?_ | refine z_1 rfl rfl rfl rfl rfl rfl rfl ?_ | refine z_1b rfl rfl rfl ?_); intro K1 hK1; simp only [go_sem, cRowsO_len, hol]; (first | refine hK1 _ ?_ | refine andk (hK1 _ ?_)); clear hK1 K1) | (refine z_nil ⟨by simp, by simp, ?_⟩; refine hK _ ?_; clear hK K)))
       (refine z_3 rfl rfl rfl rfl ?_; intro K1 hK1; refine stp_ev rfl ?_; simp only [go_sem, cRowsO_len, List.length_set, set_two2, hol]; (first | refine hK1 _ ?_ | refine andk (hK1 _ ?_)); clear hK1 K1)
       refine z_nil ⟨by simp, by simp, ?_⟩
       (try simp only [ThenA, InBl])
       refine hK _ ?_
       clear hK K
       have hj6 : ((cRowsO o).set (f s) (C.s 7 (oc.length + 1)))[f s]? = some (.s 7 (oc.length + 1)) := by rw [List.getElem?_set_self (by rw [cRowsO_len]; omega)]
       have hset6 : ((cRowsO o).set (f s) (C.s 7 (oc.length + 1))).set (f s) (.o (2, 34) (tArcs (oc ++ [(e, (f tn : Int))]))) = cRowsO (o.set (f s) (oc ++ [(e, (f tn : Int))])) := by rw [set_two2, cRowsO_set]
       refine aw_le (le_sink (r := ⟨34, 2, true, cArcs (oc ++ [(e, (f tn : Int))])⟩) (ri := ⟨32, 1, true, (cRowsO o).set (f s) (C.s 7 (oc.length + 1))⟩) (ts := tArcs (oc ++ [(e, (f tn : Int))])) 4 (f s) 7 (oc.length + 1) (by decide) rfl hj6 rfl rfl (show 0 < 2 by omega) (by rw [cArcs_len]; simp) (fz_ca _)) ?_
       simp only [hset6, go_sem]
       (repeat (first | (refine aw_seq ?_; intro K hK) | refine aw_block ?_ | refine aw_region ?_ | (refine lst_x rfl rfl ?_; intro K1 hK1; simp only [go_sem]; (first | refine hK1 _ ?_ | refine andk (hK1 _ ?_)); clear hK1 K1) | ((first | refine lst_nil ?_ | refine aw_skip ?_); refine hK _ ?_; clear hK K)))
       ((try refine lst_nil ?_); (try refine aw_skip ?_); try simp only [ThenA])
       refine hK _ (k + 1) (by omega) (by omega) ?_
       refine Le.trans (le_pick [0, 1, 2, 3, 4] rfl rfl) ?_
       (try simp only [List.set_nil, List.take_nil, List.take_zero, List.map_append, go_sem])
       (try simp only [cInts_ren, cRowsO_ren])
       rw [hsn, hA]
       (refine le_tm ?_; simp only [LeTm, go_sem]; try simp)
      ·have d3 : decide ((k : Int) < (row.length : Int)) = false := by simpa using hlt3
       have hke3 : row.take k = row := List.take_of_length_le (by omega)
       rw [hke3, ← htl]
       (repeat (first | (refine aw_seq ?_; intro K hK) | refine aw_block ?_ | refine aw_region ?_ | (refine lst_x rfl rfl ?_; intro K1 hK1; simp only [go_sem, d3]; (first | refine hK1 _ ?_ | refine andk (hK1 _ ?_)); clear hK1 K1) | ((first | refine lst_nil ?_ | refine aw_skip ?_); refine hK _ ?_; clear hK K)))
       (refine aw_cnd ?_; intro X Y hX hY; simp only [go_sem])
       refine hY ?_
       clear hX hY X Y
       (refine aw_exit ?_; simp only [ThenA, InBl, reduceIte, Nat.reduceEqDiff]; (first | refine hK _ ?_ | (clear hK K; refine hK _ ?_) | (clear hK K; clear hK K; refine hK _ ?_) | (clear hK K; clear hK K; clear hK K; refine hK _ ?_) | (clear hK K; clear hK K; clear hK K; clear hK K; refine hK _ ?_) | (clear hK K; clear hK K; clear hK K; clear hK K; clear hK K; refine hK _ ?_)); clear hK K)
       (repeat (first | (refine aw_seq ?_; intro K hK) | refine aw_block ?_ | refine aw_region ?_ | (refine lst_x rfl rfl ?_; intro K1 hK1; simp only [go_sem]; (first | refine hK1 _ ?_ | refine andk (hK1 _ ?_)); clear hK1 K1) | ((first | refine lst_nil ?_ | refine aw_skip ?_); refine hK _ ?_; clear hK K)))
       ((try refine lst_nil ?_); (try refine aw_skip ?_); try simp only [ThenA])
       refine hK _ (s + 1) (by omega) (by omega) ?_
       (refine le_tm ?_; simp only [LeTm, go_sem]; try simp)
    ·have d2 : decide ((s : Int) < (R.length : Int)) = false := by simpa using hlt2
     have hse : s = R.length := by omega
     rw [hse] at d2
     rw [hse]
     (repeat (first | (refine aw_seq ?_; intro K hK) | refine aw_block ?_ | refine aw_region ?_ | (refine lst_x rfl rfl ?_; intro K1 hK1; simp only [go_sem, d2]; (first | refine hK1 _ ?_ | refine andk (hK1 _ ?_)); clear hK1 K1) | ((first | refine lst_nil ?_ | refine aw_skip ?_); refine hK _ ?_; clear hK K)))
     (refine aw_cnd ?_; intro X Y hX hY; simp only [go_sem])
     refine hY ?_
     clear hX hY X Y
     (refine aw_exit ?_; simp only [ThenA, InBl, reduceIte, Nat.reduceEqDiff]; (first | refine hK _ ?_ | (clear hK K; refine hK _ ?_) | (clear hK K; clear hK K; refine hK _ ?_) | (clear hK K; clear hK K; clear hK K; refine hK _ ?_) | (clear hK K; clear hK K; clear hK K; clear hK K; refine hK _ ?_) | (clear hK K; clear hK K; clear hK K; clear hK K; clear hK K; refine hK _ ?_)); clear hK K)
     have hTl := tlOut_len f m R R.length
     have hTt := tlOut_tot hfm R.length (Nat.le_refl _)
     rw [List.take_length] at hTt
     have hTP := tlOut_P (f := f) (m := m) (R := R) (fun r hr0 a ha => by
      have h := hbd r hr0 a ha
      exact ⟨h.1, h.2.1, hfm _ (by omega)⟩) R.length (Nat.le_refl _)
     generalize hT : tlOut f m R R.length = T at *
     have hm1 : 1 ≤ m := by have := hfm 0 (by omega); omega
     have hlT : looB T = true := by
      refine decide_eq_true ⟨by omega, ?_, ?_, ?_⟩
      ·have := (of_decide_eq_true hlo).2.1; omega
      ·have := (of_decide_eq_true hlo).2.2.1; omega
      ·rw [hTl]; exact hTP
     have hrT : ∀ r ∈ T, r.length ≤ 1000000 := fun r hr0 => by
      obtain ⟨j, hj, rfl⟩ := List.getElem_of_mem hr0
      have h := totA_row T j
      rw [List.getD_eq_getElem?_getD, List.getElem?_eq_getElem hj, Option.getD_some] at h
      omega
     refine aw_le (le_ot 4 rfl) ?_
     simp only [cRowsO_ot, go_sem]
     have htk : (tRows T).take m = tRows T := List.take_of_length_le (by rw [tRows_len]; omega)
     (refine aw_le (le_frz (r := ⟨32, 1, true, cRows T⟩) 4 (tRows T) rfl (fz_cr _) (show 0 < (1 : Nat) by omega)) ?_; simp only [ST.frz, A0.frz, AV.frz, C.frz, Nat.le_refl, List.set_cons_zero, List.set_cons_succ, go_sem, htk, tRows_len, hTl])
     (repeat (first | (refine aw_seq ?_; intro K hK) | refine aw_block ?_ | refine aw_region ?_ | (refine lst_x rfl rfl ?_; intro K1 hK1; simp only [go_sem]; (first | refine hK1 _ ?_ | refine andk (hK1 _ ?_)); clear hK1 K1) | ((first | refine lst_nil ?_ | refine aw_skip ?_); refine hK _ ?_; clear hK K)))
     (refine lst_cons rfl ?_; intro K1 hK1; refine (stp_call0 (ids := []) (canonA_fc T hlT (by omega) hrT) rfl rfl (by simp only [go_sem]) (by kernel_rfl) (by (simp only [List.append_nil, go_sem]) <;> rfl) ?_).stp)
     rintro _ _ ⟨rfl, rfl⟩
     (simp only [aInts, aSets, List.append_nil, List.nil_append, List.length_map, go_sem]; refine hK1 _ ?_; clear hK1 K1)
     (repeat (first | (refine aw_seq ?_; intro K hK) | refine aw_block ?_ | refine aw_region ?_ | (refine lst_x rfl rfl ?_; intro K1 hK1; simp only [go_sem, ST.put, setC, A0.cells]; (first | refine hK1 _ ?_ | refine andk (hK1 _ ?_)); clear hK1 K1) | ((first | refine lst_nil ?_ | refine aw_skip ?_); refine hK _ ?_; clear hK K)))
     ((try refine aw_ret ?_); (try simp only [ThenA, InBl]); refine ret_le (le_pick [1] rfl rfl) ?_; (try simp only [List.set_nil, List.take_nil, List.take_zero, List.map_append, go_sem]); ((try refine aw_ret ?_); (try refine lst_nil ?_); (try simp only [ThenA, InBl]); refine ret_mk (by first | exact .inl rfl | exact .inr rfl) rfl ?_; simp only [rtn, resA, resL, resV, Try.results8, go_sem, true_and, and_true]))
     exact ⟨D, hC, hL, canonR T, by rw [← hT, hf, hm], rfl, rfl⟩
end Go.Proofs.Ythlckclbjknldaa
namespace Go.Proofs.Ythlckclbjknldaa
set_option linter.unusedVariables false
set_option linter.unusedSimpArgs false
open Go.RowKit

theorem sum_filter_le {α : Type} (f : α → Nat) (p : α → Bool) : ∀ l : List α, ((l.filter p).map f).sum ≤ (l.map f).sum
 | [] => by simp
 | a :: r => by
  have := sum_filter_le f p r
  rw [List.filter_cons]
  split <;> simp only [List.map_cons, List.sum_cons] <;> omega
theorem tot_range (F : List (List Ar)) : totA F = ((List.range F.length).map fun s => (F.getD s []).length).sum := by
 unfold totA
 congr 1
 refine List.ext_getElem (by simp) fun i h1 h2 => ?_
 simp at h1
 simp [List.getD_eq_getElem?_getD, List.getElem?_eq_getElem h1]
/-- the silent closure of a state -/
noncomputable def sclo (F : List (List Ar)) (n : Nat) : List Nat := ordN F.length (fun u => @decide (Rc (Adj true F) n u) (Classical.propDecidable _))
theorem sclo_eq {F : List (List Ar)} {n : Nat} {p : Nat → Bool} (h : ∀ u, u < F.length → (p u = true ↔ Rc (Adj true F) n u)) : ordN F.length p = sclo F n := by
 refine lt_ext (ordN_sorted _ _) (ordN_sorted _ _) fun u => ?_
 unfold sclo
 rw [mem_ordN, mem_ordN]
 constructor
 ·rintro ⟨h1, h2⟩
  exact ⟨h1, by simpa using (h u h1).1 h2⟩
 ·rintro ⟨h1, h2⟩
  exact ⟨h1, (h u h1).2 (by simpa using h2)⟩
theorem sclo_lt {F : List (List Ar)} {n : Nat} : ∀ s ∈ sclo F n, s < F.length := fun _ hs => (mem_ordN.1 hs).1
theorem sclo_len (F : List (List Ar)) (n : Nat) : (sclo F n).length ≤ F.length := by
 have := List.length_filter_le (fun u => @decide (Rc (Adj true F) n u) (Classical.propDecidable _)) (List.range F.length)
 rw [List.length_range] at this
 exact this
theorem unR_len (F : List (List Ar)) (n : Nat) (cl : List Nat) : (unR F n cl).length ≤ (cl.map fun s => (F.getD s []).length).sum := by
 induction cl with
 | nil => simp [unR]
 | cons s r ih =>
  have h1 := List.length_filterMap_le (unA1 n s) (F.getD s [])
  simp only [unR, List.flatMap_cons, List.length_append, List.map_cons, List.sum_cons] at ih ⊢
  omega
theorem unS_len (F : List (List Ar)) (n : Nat) : (unS F n (sclo F n)).length ≤ totA F + F.length := by
 have h1 := unR_len F n (sclo F n)
 have h2 : ((sclo F n).map fun s => (F.getD s []).length).sum ≤ totA F := by rw [tot_range]; exact sum_filter_le _ _ _
 have h3 := minR_len ((unM F (sclo F n)).map (·.1))
 have h4 := unM_len F (sclo F n)
 have h5 := sclo_len F n
 rw [List.length_map] at h3
 unfold unS
 rw [List.length_append, List.length_map]
 omega
noncomputable def dmRow (F : List (List Ar)) (n : Nat) : List Ar := if stB (F.getD n []) then F.getD n [] else unS F n (sclo F n)
noncomputable def dmL (F : List (List Ar)) (k : Nat) : List (List Ar) := (List.range k).map (dmRow F)
noncomputable def dmR (F : List (List Ar)) : List (List Ar) := dmL F F.length
theorem dmL_snoc (F : List (List Ar)) (k : Nat) : dmL F (k + 1) = dmL F k ++ [dmRow F k] := by simp [dmL, List.range_succ]
theorem dmL_len (F : List (List Ar)) (k : Nat) : (dmL F k).length = k := by simp [dmL]
theorem unS_mem {F : List (List Ar)} {n : Nat} {cl : List Nat} {a : Ar} (h : a ∈ unS F n cl) : (∃ s ∈ cl, a ∈ F.getD s []) ∨ (a.1 = 0 ∧ a.2 = (n : Int)) ∨ ∃ s : Nat, a = (0, (s : Int)) ∧ s ∈ cl := by
 have hsub : ∀ (cl : List Nat) (M : Lm), ∀ p ∈ cl.foldl (unM1 F) M, p ∈ M ∨ p.2 ∈ cl := by
  intro cl
  induction cl with
  | nil => intro M p hp; exact .inl hp
  | cons s r ih =>
   intro M p hp
   rcases ih _ p hp with h | h
   ·unfold unM1 at h
    split at h
    ·split at h
     ·exact .inl h
     ·rcases List.mem_append.1 h with h | h
      ·exact .inl h
      ·simp at h; subst h; exact .inr (by simp)
    ·exact .inl h
   ·exact .inr (List.mem_cons_of_mem _ h)
 rcases List.mem_append.1 h with h | h
 ·obtain ⟨s, hs, h1⟩ := List.mem_flatMap.1 h
  obtain ⟨b, hb, h2⟩ := List.mem_filterMap.1 h1
  unfold unA1 at h2
  split at h2
  ·injection h2 with h2; subst h2; exact .inl ⟨s, hs, hb⟩
  ·split at h2
   ·injection h2 with h2; subst h2; exact .inr (.inl ⟨rfl, rfl⟩)
   ·cases h2
 ·obtain ⟨x, hx, rfl⟩ := List.mem_map.1 h
  have hx2 := minR_sub hx
  unfold unE findL
  cases hf : (unM F cl).find? (fun p => decide (p.1 = x)) with
  | none =>
   obtain ⟨p, hp, rfl⟩ := List.mem_map.1 hx2
   have := List.find?_eq_none.1 hf p hp
   simp at this
  | some p =>
   rcases hsub cl [] p (List.mem_of_find?_eq_some hf) with h | h
   ·simp at h
   ·exact .inr (.inr ⟨p.2, rfl, h⟩)
theorem dm_bd {F : List (List Ar)} (hF : looB F = true) : ∀ r ∈ dmR F, (∀ a ∈ r, 0 ≤ a.1 ∧ a.1 ≤ 1025 ∧ 0 ≤ a.2 ∧ a.2 < ((dmR F).length : Int)) ∧ r.length ≤ 1000000 := by
 have hp : LooP F := of_decide_eq_true hF
 have hl : (dmR F).length = F.length := dmL_len F F.length
 intro r hr
 obtain ⟨n, hn, rfl⟩ := List.mem_map.1 hr
 have hn2 : n < F.length := by simpa using hn
 have hg : ∀ s, s < F.length → F.getD s [] ∈ F := fun s hs => by rw [List.getD_eq_getElem?_getD, List.getElem?_eq_getElem hs]; exact List.getElem_mem hs
 have h2 : F.length ≤ 16384 := hp.2.1
 have h3 : totA F ≤ 262144 := hp.2.2.1
 rw [hl]
 unfold dmRow
 split
 ·refine ⟨fun a ha => hp.2.2.2 _ (hg n hn2) a ha, ?_⟩
  have := totA_row F n
  omega
 ·refine ⟨fun a ha => ?_, ?_⟩
  ·rcases unS_mem ha with ⟨s, hs, h⟩ | ⟨e1, e2⟩ | ⟨s, rfl, hs⟩
   ·exact hp.2.2.2 _ (hg s (sclo_lt s hs)) a h
   ·omega
   ·have := sclo_lt s hs
    simp only; omega
  ·have := unS_len F n
   omega
/-- TauLoops gives a valid system -/
theorem tl_val {R : List (List Ar)} {D : List Int} (hv : valB R = true) (hD : D.length = R.length) (hL : ∀ v, v < R.length → Least (Adj true R) v (fnL D (-1) v)) : valB (canonR (tlOut (clsN D) (ixS D R.length).2 R R.length)).1 = true := by
 have hlo : looB R = true := decide_eq_true (of_decide_eq_true hv).1
 have hp : LooP R := of_decide_eq_true hlo
 have h1 := hp.1
 have hbd := hp.2.2.2
 have hrep := least_rep (adj_lt true hlo) hD hL
 have hfm : ∀ v, v < R.length → clsN D v < (ixS D R.length).2 := fun v hv => by obtain ⟨_, _, _, h, _⟩ := cls_ok hD hrep hv; exact h
 have hTl := tlOut_len (clsN D) (ixS D R.length).2 R R.length
 have hTt := tlOut_tot hfm R.length (Nat.le_refl _)
 rw [List.take_length] at hTt
 have hTP := tlOut_P (f := clsN D) (m := (ixS D R.length).2) (R := R) (fun r hr0 a ha => by
  have h := hbd r hr0 a ha
  exact ⟨h.1, h.2.1, hfm _ (by omega)⟩) R.length (Nat.le_refl _)
 have hmle := ixS_le D R.length
 refine canonR_val (decide_eq_true ⟨?_, ?_, ?_, ?_⟩)
 ·rw [hTl]; have := hfm 0 (by omega); omega
 ·rw [hTl]; exact Nat.le_trans hmle hp.2.1
 ·rw [hTt]; exact hp.2.2.1
 ·rw [hTl]; exact hTP
theorem cRows_fill (L : List (List Ar)) (m : Nat) (x : List Ar) : (cRows (L ++ List.replicate (m + 1) [])).set L.length (.t 2 (tArcs x)) = cRows ((L ++ [x]) ++ List.replicate m []) := by
 rw [cRows_set, List.set_append_right _ _ (Nat.le_refl _), Nat.sub_self, List.replicate_succ, List.set_cons_zero]
 simp
theorem cRows_ot (n : Nat) : (List.replicate n (C.o (2, 34) [])).map otC = cRows (List.replicate n []) := by simp [cRows, otC, tArcs]
end Go.Proofs.Ythlckclbjknldaa
