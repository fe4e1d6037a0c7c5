/- weak.Quotient. -/
import Derived.Test.YtglchakimolfdaaDoorZk
import Derived.Test.YtglchakimolfdaaDoorG67
import Derived.Test.YtglchakimolfdaaDoorG68
import Derived.Test.YtglchakimolfdaaDoorG52
namespace Go.Proofs.YtglchakimolfdaaDoor
set_option linter.unusedVariables false
set_option linter.unusedSimpArgs false
open Go.RowKit
set_option maxRecDepth 100000
attribute [local go_sem] List.set_cons_zero List.set_cons_succ List.map_cons List.map_nil List.take_succ_cons List.take_zero List.drop_zero List.drop_succ_cons C.pl C.one List.all_cons List.all_nil Bool.and_true Nat.mul_one Int.toNat_natCast

def quO (x : List (List Ar)) (r : AV) (o : List Ob) : Prop :=
 if totA x ≤ 262144 then o = [.r ⟨27, 1, false, [.t 1 (tRows x)]⟩] ∧ r = .tup [.g [.t 1 (tRows x)], .c (.v (.int .i64 0))]
 else o = [.r ⟨27, 1, false, [.v (.slice none 0 0)]⟩] ∧ r = .tup [.g [.v (.slice none 0 0)], .c (.v (.int .i64 10))]
set_option maxHeartbeats 8000000 in
theorem quo_fc (R : List (List Ar)) (cl : List Int) (hv : valB R = true) (hC : numB cl R.length = true) (hn : R.length ≤ 1000000) (hr : ∀ r ∈ R, r.length ≤ 1000000) : FC Tryd.prog 33 [aLts R, aInts cl] [] (fun r o => ∃ B, DvL R B ∧ quO (canonR (qR R cl B)).1 r o) := by
 refine fc_intro Tryd.func33 rfl (by rw [Tryd.ntmps33]; simp) ?_
 rw [Tryd.ntmps33]
 simp only [enum, aLts, aInts]
 have hlo : looB R = true := decide_eq_true (of_decide_eq_true hv).1
 have h1 : 1 ≤ R.length := (of_decide_eq_true hlo).1
 have hR16 : R.length ≤ 16384 := (of_decide_eq_true hlo).2.1
 have htA : totA R ≤ 262144 := (of_decide_eq_true hlo).2.2.1
 have hbd := (of_decide_eq_true hlo).2.2.2
 obtain ⟨hCl, hmn, hcl, hmx⟩ := num_ok hC
 have hcl1 : 0 < cl.length := by omega
 have hmax : maxL cl[0] cl + 1 = (mxN cl : Int) := by
  have h0 : 0 ≤ cl[0] := by
   have := (hcl 0 (by omega)).2
   rw [List.getElem?_eq_getElem hcl1] at this
   injection this with this
   omega
  rw [← hmx]
  cases cl with
  | nil => simp at hcl1
  | cons x l => exact (mxI_cons l h0).symm
 have hm1 : 1 ≤ mxN cl := by have := (hcl 0 (by omega)).1; omega
 (refine wk0 ?_;(repeat clear hK K);repeat refine kq fun K hK=>?_)
 (refine ckz (valid_fc R (by omega) (fun r h => by have := hr r h; omega)) ?_; intro K1 hK1)
 rintro _ _ ⟨rfl, rfl⟩
 (refine bkz ?_; clear hK1 K1)
 (refine wk1 (an @hv (an @Bool.not_true @tRows_len)) ?_;(repeat clear hK K);repeat refine kq fun K hK=>?_)
 (refine lst_goU rfl rfl (by simp only [go_sem] <;> rfl) ?_; intro K1 hK1; refine (stp_call0 (ids := []) (num_fc cl R.length (by omega)) rfl rfl (by simp only [go_sem]) (by kernel_rfl) (by (simp only [List.append_nil, go_sem]) <;> rfl) ?_).stp)
 rintro _ _ ⟨rfl, rfl⟩
 (refine bkz ?_; clear hK1 K1)
 (refine wk1 (an @hC @Bool.not_true) ?_;(repeat clear hK K);repeat refine kq fun K hK=>?_)
 refine cyz ?_
 (refine wk0 ?_;(repeat clear hK K);repeat refine kq fun K hK=>?_)
 (refine ckz (dvgT_fc R hv hn hr) ?_; intro K1 hK1)
 rintro _ _ ⟨B, hB, rfl, rfl⟩
 (refine bkz ?_; clear hK1 K1)
 have hBl := hB.1
 have hB2 : ∀ s, s < R.length → B[s]? = some (B.getD s false) := fun s hs => by rw [List.getD_eq_getElem?_getD, List.getElem?_eq_getElem (by omega)]; rfl
 have hend : ∀ r o, quO (canonR (qR R cl B)).1 r o → ∃ B, DvL R B ∧ quO (canonR (qR R cl B)).1 r o := fun r o h => ⟨B, hB, h⟩
 (refine wk0 ?_;(repeat clear hK K);repeat refine kq fun K hK=>?_)
 (refine ckz (max_fc cl hcl1 (by omega)) ?_; intro K1 hK1)
 rintro _ _ ⟨rfl, rfl⟩
 (refine bkz ?_; clear hK1 K1)
 have hqR := qR_bd (B := B) hlo hC
 have hqe : qR R cl B = qlOut (lcL (clf cl) (mxN cl) B R.length) (qpOut (clf cl) (mxN cl) R R.length) (mxN cl) := rfl
 rw [hqe] at hqR
 generalize maxL cl[0] cl = mx at *
 generalize hm : mxN cl = m at *
 generalize hf : clf cl = f at *
 (refine wk1 (an @hmax @tRows_len) ?_;(repeat clear hK K);repeat refine kq fun K hK=>?_)
 have e1 : List.replicate m (C.o (2, 23) []) = cRowsO (qpOut f m R 0) := by simp [cRowsO, qpOut, tArcs]
 have e2 : List.replicate m (C.v (.bool false)) = cBs (lcL f m B 0) := by
  have : lcL f m B 0 = List.replicate m false := List.ext_getElem (by simp [lcL]) fun i h1 h2 => by simp [lcL]
  rw [this]; simp [cBs]
 rw [e1, e2]
 have hfm : ∀ v, v < R.length → f v < m := fun v hv => (hcl v hv).1
 refine aw_loop (fun s : Nat => { tm := [(1, .a (.c (.t 1 (tInts cl)))), (2, .a (.c (.p 0 0))), (4, .a (.c (.p 1 0))), (6, .a (.c (.t 1 (tBs B)))), (7, .a (.c (.s 2 m))), (8, .a (.c (.s 3 m))), (40, .a (.c (.t 1 (tRows R)))), (41, .i R.length), (42, .i s)], hp := [.r ⟨27, 1, false, [.t 1 (tRows R)]⟩, .r ⟨27, 1, false, [.v (.slice none 0 0)]⟩, .r ⟨24, 1, true, cRowsO (qpOut f m R s)⟩, .r ⟨4, 1, true, cBs (lcL f m B s)⟩], n := 130, pin := 0 }) (fun s => s ≤ R.length) (fun s => R.length - s) 0 ?_ ?_ ?_
 ·omega
 ·exact lmz
 ·rintro s hs K hK
  by_cases hlt : s < R.length
  ·have d1 : decide ((s : Int) < (R.length : Int)) = true := by simpa using hlt
   have hgR := List.getElem?_eq_getElem hlt
   have hrl := hr _ (List.getElem_mem hlt)
   obtain ⟨hfs, hgs⟩ := hcl s hlt
   have gC := tInts_get hgs
   have gB := tBs_get (hB2 s hlt)
   have hlset := lcL_set (B := B) hfs
   have hll := lcL_len f m B s
   have gL : (cBs (lcL f m B s))[f s]? = some (.v (.bool ((lcL f m B s).getD (f s) false))) := cBs_get (by rw [List.getD_eq_getElem?_getD, List.getElem?_eq_getElem (by omega)]; rfl)
   have htot := qpOut_tot f m R s hs
   have hto := totA_take hlt
   have htl3 := totA_le R (s + 1)
   have hbs := hbd _ (List.getElem_mem hlt)
   have htl : qpOut f m R (s + 1) = qpRow f (f s) (qpOut f m R s) R[s] := by
    rw [qpOut, List.getD_eq_getElem?_getD, hgR, Option.getD_some]
   generalize hrow : R[s] = row at *
   cases hlb : (lcL f m B s).getD (f s) false with
   | true =>
    rw [hlb] at gL hlset
    rw [Bool.true_or] at hlset
    (refine wk1 @d1 ?_;(repeat clear hK K);repeat refine kq fun K hK=>?_)
    refine cxz ?_
    (refine wks1 (an @tRows_len (an (tRows_get hgR) (an @tInts_len (an @hCl (an @gC (an @cBs_len (an @hll (an @gL (an @tBs_len (an @hBl (an @gB (an @cBs_set (an @hlset (an @tArcs_len @half2)))))))))))))) ?_;(repeat clear hK K);repeat refine kq fun K hK=>?_)
    refine aw_loop (fun k : Nat => { tm := [(1, .a (.c (.t 1 (tInts cl)))), (2, .a (.c (.p 0 0))), (4, .a (.c (.p 1 0))), (6, .a (.c (.t 1 (tBs B)))), (7, .a (.c (.s 2 m))), (8, .a (.c (.s 3 m))), (9, .i s), (11, .i (f s)), (40, .a (.c (.t 1 (tRows R)))), (41, .i R.length), (42, .i s), (64, .a (.c (.t 2 (tArcs row)))), (65, .i row.length), (66, .i k)], hp := [.r ⟨27, 1, false, [.t 1 (tRows R)]⟩, .r ⟨27, 1, false, [.v (.slice none 0 0)]⟩, .r ⟨24, 1, true, cRowsO (qpRow f (f s) (qpOut f m R s) (row.take k))⟩, .r ⟨4, 1, true, cBs (lcL f m B (s + 1))⟩], n := 130, pin := 0 }) (fun k => k ≤ row.length) (fun k => row.length - k) 0 ?_ ?_ ?_
    ·omega
    ·simp only [List.take_zero, qpRow, List.foldl_nil]
     exact lmz
    ·rintro k hk K hK
     by_cases hlt3 : k < row.length
     ·have d3 : decide ((k : Int) < (row.length : Int)) = true := by simpa using hlt3
      have hat := tArcs_at hlt3
      have hb := hbs _ (List.getElem_mem hlt3)
      have hsn := qpRow_snoc f (f s) (qpOut f m R s) (row.take k) row[k]
      rw [← List.take_succ_eq_append_getElem hlt3] at hsn
      generalize row[k] = a at *
      obtain ⟨e, t⟩ := a
      simp only at hat hb
      obtain ⟨_, _, ht0, ht1⟩ := hb
      obtain ⟨tn, rfl⟩ : ∃ tn : Nat, t = (tn : Int) := ⟨t.toNat, by omega⟩
      have htn : tn < R.length := by omega
      obtain ⟨hft, hgt⟩ := hcl tn htn
      have gT := tInts_get hgt
      have hol : (qpRow f (f s) (qpOut f m R s) (row.take k)).length = m := by rw [qpRow_len, qpOut_len]
      have hot := qpRow_tot f (f s) (row.take k) (qpOut f m R s)
      rw [List.length_take] at hot
      generalize qpRow f (f s) (qpOut f m R s) (row.take k) = o at *
      have hrw := totA_row o (f s)
      have hgo : o[f s]? = some (o.getD (f s) []) := by
       rw [List.getD_eq_getElem?_getD, List.getElem?_eq_getElem (by omega)]; rfl
      by_cases hq : e ≠ 0 ∨ f tn ≠ f s
      ·have hx : qp1 f (f s) (e, (tn : Int)) = some (e, (f tn : Int)) := by
        show (if e ≠ 0 ∨ f tn ≠ f s then some (e, (f tn : Int)) else none) = _
        rw [if_pos hq]
       have hA : pushO (qp1 f (f s) (e, (tn : Int))) (f s) o = o.set (f s) (o.getD (f s) [] ++ [(e, (f tn : Int))]) := by rw [hx]; rfl
       generalize o.getD (f s) [] = oc at *
       by_cases he : e = 0
       ·have d4 : (e != 0) = false := by simp [he]
        have d5 : ((f tn : Int) != (f s : Int)) = true := by
         have := hq.resolve_left (by simp [he])
         simp; omega
        (refine wk1 @d3 ?_;(repeat clear hK K);repeat refine kq fun K hK=>?_)
        refine cxz ?_
        (refine wks1 (an @hat (an @tArcs_len (an @half2 (an @d4 (an @d5 (an @tInts_len (an @hCl @gT))))))) ?_;(repeat clear hK K);repeat refine kq fun K hK=>?_)
        refine cxz ?_
        (refine wk0 ?_;(repeat clear hK K);repeat refine kq fun K hK=>?_)
        (refine aw_regionZ [] (.m 0 0 0 (.m 1 0 0 (.m 2 0 0 (.m 3 0 0 (.m 4 0 0 (.m 5 1 15 (.m 6 0 0 (.m 7 1 14 (.m 8 0 0 (.m 9 0 0 (.m 10 1 14 (.m 11 0 0 (.m 12 1 14 (.m 13 0 0 (.a 14 (.a 15 (.m 16 0 0 (.a 17 .e)))))))))))))))))) (by kernel_rfl) (by kernel_rfl) (by intro c st h; simp [ThenA, InBl, Ret] at h) ?_)
        (refine zk1 (an @cRowsO_len (an (cRowsO_get hgo) (an @hol (an @tInts_len (an @hCl @gT))))) ?_; repeat clear hK K)
        (refine z_2 rfl rfl ?_; intro K1 hK1; refine stpF_a rfl ?_; simp only [go_sem]; (first | refine hK1 _ ?_ | refine andk (hK1 _ ?_)); clear hK1 K1)
        (refine z_2y rfl rfl rfl ?_; intro K1 hK1; refine stpY_ap rfl rfl rfl rfl (by first | rfl | simp only [rowsB, List.getD_cons_zero, List.getD_cons_succ, hne, List.isEmpty_cons, Bool.not_false, Bool.true_and, Bool.and_true, Bool.and_self]) rfl ?_; simp only [go_sem, tArcs_c, tArcs_len, half2, cArcs_snoc, cRowsO_get hgo]; (first | refine hK1 _ ?_ | refine andk (hK1 _ ?_)); clear hK1 K1)
        (refine zk1 (an @cRowsO_len @hol) ?_; repeat clear hK K)
        (refine z_3 rfl rfl rfl rfl ?_; intro K1 hK1; refine stp_ev rfl ?_; simp only [go_sem, cRowsO_len, List.length_set, set_two2, hol]; (first | refine hK1 _ ?_ | refine andk (hK1 _ ?_)); clear hK1 K1)
        refine z_nil ⟨by simp, by simp, ?_⟩
        (try simp only [ThenA, InBl])
        refine hK _ ?_
        clear hK K
        have hj6 : ((cRowsO o).set (f s) (C.s 6 (oc.length + 1)))[f s]? = some (.s 6 (oc.length + 1)) := by rw [List.getElem?_set_self (by rw [cRowsO_len]; omega)]
        have hset6 : ((cRowsO o).set (f s) (C.s 6 (oc.length + 1))).set (f s) (.o (2, 23) (tArcs (oc ++ [(e, (f tn : Int))]))) = cRowsO (o.set (f s) (oc ++ [(e, (f tn : Int))])) := by rw [set_two2, cRowsO_set]
        refine aw_le (le_sink (r := ⟨23, 2, true, cArcs (oc ++ [(e, (f tn : Int))])⟩) (ri := ⟨24, 1, true, (cRowsO o).set (f s) (C.s 6 (oc.length + 1))⟩) (ts := tArcs (oc ++ [(e, (f tn : Int))])) 2 (f s) 6 (oc.length + 1) (by decide) rfl hj6 rfl rfl (show 0 < 2 by omega) (by rw [cArcs_len]; simp) (fz_ca _)) ?_
        simp only [hset6, go_sem]
        (refine wk0 ?_;(repeat clear hK K);repeat refine kq fun K hK=>?_)
        refine rnz ?_
        refine hK _ (k + 1) (by omega) (by omega) ?_
        refine Le.trans (le_pick [0, 1, 2, 3] rfl rfl) ?_
        (try simp only [List.set_nil, List.take_nil, List.take_zero, List.map_append, go_sem])
        (try simp only [cBs_ren, cRowsO_ren])
        rw [hsn, hA]
        exact lmz
       ·have d4 : (e != 0) = true := by simpa using he
        (refine wk1 @d3 ?_;(repeat clear hK K);repeat refine kq fun K hK=>?_)
        refine cxz ?_
        (refine wks1 (an @hat (an @tArcs_len (an @half2 (an @d4 (an @tInts_len (an @hCl @gT)))))) ?_;(repeat clear hK K);repeat refine kq fun K hK=>?_)
        refine cxz ?_
        (refine wk0 ?_;(repeat clear hK K);repeat refine kq fun K hK=>?_)
        (refine aw_regionZ [] (.m 0 0 0 (.m 1 0 0 (.m 2 0 0 (.m 3 0 0 (.m 4 0 0 (.m 5 1 15 (.m 6 0 0 (.m 7 1 14 (.m 8 0 0 (.m 9 0 0 (.m 10 1 14 (.m 11 0 0 (.m 12 1 14 (.m 13 0 0 (.a 14 (.a 15 (.m 16 0 0 (.a 17 .e)))))))))))))))))) (by kernel_rfl) (by kernel_rfl) (by intro c st h; simp [ThenA, InBl, Ret] at h) ?_)
        (refine zk1 (an @cRowsO_len (an (cRowsO_get hgo) (an @hol (an @tInts_len (an @hCl @gT))))) ?_; repeat clear hK K)
        (refine z_2 rfl rfl ?_; intro K1 hK1; refine stpF_a rfl ?_; simp only [go_sem]; (first | refine hK1 _ ?_ | refine andk (hK1 _ ?_)); clear hK1 K1)
        (refine z_2y rfl rfl rfl ?_; intro K1 hK1; refine stpY_ap rfl rfl rfl rfl (by first | rfl | simp only [rowsB, List.getD_cons_zero, List.getD_cons_succ, hne, List.isEmpty_cons, Bool.not_false, Bool.true_and, Bool.and_true, Bool.and_self]) rfl ?_; simp only [go_sem, tArcs_c, tArcs_len, half2, cArcs_snoc, cRowsO_get hgo]; (first | refine hK1 _ ?_ | refine andk (hK1 _ ?_)); clear hK1 K1)
        (refine zk1 (an @cRowsO_len @hol) ?_; repeat clear hK K)
        (refine z_3 rfl rfl rfl rfl ?_; intro K1 hK1; refine stp_ev rfl ?_; simp only [go_sem, cRowsO_len, List.length_set, set_two2, hol]; (first | refine hK1 _ ?_ | refine andk (hK1 _ ?_)); clear hK1 K1)
        refine z_nil ⟨by simp, by simp, ?_⟩
        (try simp only [ThenA, InBl])
        refine hK _ ?_
        clear hK K
        have hj6 : ((cRowsO o).set (f s) (C.s 6 (oc.length + 1)))[f s]? = some (.s 6 (oc.length + 1)) := by rw [List.getElem?_set_self (by rw [cRowsO_len]; omega)]
        have hset6 : ((cRowsO o).set (f s) (C.s 6 (oc.length + 1))).set (f s) (.o (2, 23) (tArcs (oc ++ [(e, (f tn : Int))]))) = cRowsO (o.set (f s) (oc ++ [(e, (f tn : Int))])) := by rw [set_two2, cRowsO_set]
        refine aw_le (le_sink (r := ⟨23, 2, true, cArcs (oc ++ [(e, (f tn : Int))])⟩) (ri := ⟨24, 1, true, (cRowsO o).set (f s) (C.s 6 (oc.length + 1))⟩) (ts := tArcs (oc ++ [(e, (f tn : Int))])) 2 (f s) 6 (oc.length + 1) (by decide) rfl hj6 rfl rfl (show 0 < 2 by omega) (by rw [cArcs_len]; simp) (fz_ca _)) ?_
        simp only [hset6, go_sem]
        (refine wk0 ?_;(repeat clear hK K);repeat refine kq fun K hK=>?_)
        refine rnz ?_
        refine hK _ (k + 1) (by omega) (by omega) ?_
        refine Le.trans (le_pick [0, 1, 2, 3] rfl rfl) ?_
        (try simp only [List.set_nil, List.take_nil, List.take_zero, List.map_append, go_sem])
        (try simp only [cBs_ren, cRowsO_ren])
        rw [hsn, hA]
        exact lmz
      ·have hx : qp1 f (f s) (e, (tn : Int)) = none := by
        show (if e ≠ 0 ∨ f tn ≠ f s then some (e, (f tn : Int)) else none) = _
        rw [if_neg hq]
       have hA : pushO (qp1 f (f s) (e, (tn : Int))) (f s) o = o := by rw [hx]; rfl
       have he : e = 0 := Decidable.not_not.1 fun h => hq (.inl h)
       have hff : f tn = f s := Decidable.not_not.1 fun h => hq (.inr h)
       have d4 : (e != 0) = false := by simp [he]
       have d5 : ((f tn : Int) != (f s : Int)) = false := by simp [hff]
       (refine wk1 @d3 ?_;(repeat clear hK K);repeat refine kq fun K hK=>?_)
       refine cxz ?_
       (refine wks1 (an @hat (an @tArcs_len (an @half2 (an @d4 (an @d5 (an @tInts_len (an @hCl @gT))))))) ?_;(repeat clear hK K);repeat refine kq fun K hK=>?_)
       refine cyz ?_
       (refine wk0 ?_;(repeat clear hK K);repeat refine kq fun K hK=>?_)
       refine rnz ?_
       refine hK _ (k + 1) (by omega) (by omega) ?_
       refine Le.trans (le_pick [0, 1, 2, 3] rfl rfl) ?_
       (try simp only [List.set_nil, List.take_nil, List.take_zero, List.map_append, go_sem])
       (try simp only [cBs_ren, cRowsO_ren])
       rw [hsn, hA]
       exact lmz
     ·have d3 : decide ((k : Int) < (row.length : Int)) = false := by simpa using hlt3
      have hke3 : row.take k = row := List.take_of_length_le (by omega)
      rw [hke3, ← htl]
      (refine wk1 @d3 ?_;(repeat clear hK K);repeat refine kq fun K hK=>?_)
      refine cyz ?_
      (refine ekz ?_;repeat clear hK K)
      (refine wk0 ?_;(repeat clear hK K);repeat refine kq fun K hK=>?_)
      refine rnz ?_
      refine hK _ (s + 1) (by omega) (by omega) ?_
      exact lmz
   | false =>
    rw [hlb] at gL hlset
    rw [Bool.false_or] at hlset
    (refine wk1 @d1 ?_;(repeat clear hK K);repeat refine kq fun K hK=>?_)
    refine cxz ?_
    (refine wks1 (an @tRows_len (an (tRows_get hgR) (an @tInts_len (an @hCl (an @gC (an @cBs_len (an @hll (an @gL (an @tBs_len (an @hBl (an @gB (an @cBs_set (an @hlset (an @tArcs_len @half2)))))))))))))) ?_;(repeat clear hK K);repeat refine kq fun K hK=>?_)
    refine aw_loop (fun k : Nat => { tm := [(1, .a (.c (.t 1 (tInts cl)))), (2, .a (.c (.p 0 0))), (4, .a (.c (.p 1 0))), (6, .a (.c (.t 1 (tBs B)))), (7, .a (.c (.s 2 m))), (8, .a (.c (.s 3 m))), (9, .i s), (11, .i (f s)), (40, .a (.c (.t 1 (tRows R)))), (41, .i R.length), (42, .i s), (64, .a (.c (.t 2 (tArcs row)))), (65, .i row.length), (66, .i k)], hp := [.r ⟨27, 1, false, [.t 1 (tRows R)]⟩, .r ⟨27, 1, false, [.v (.slice none 0 0)]⟩, .r ⟨24, 1, true, cRowsO (qpRow f (f s) (qpOut f m R s) (row.take k))⟩, .r ⟨4, 1, true, cBs (lcL f m B (s + 1))⟩], n := 130, pin := 0 }) (fun k => k ≤ row.length) (fun k => row.length - k) 0 ?_ ?_ ?_
    ·omega
    ·simp only [List.take_zero, qpRow, List.foldl_nil]
     exact lmz
    ·rintro k hk K hK
     by_cases hlt3 : k < row.length
     ·have d3 : decide ((k : Int) < (row.length : Int)) = true := by simpa using hlt3
      have hat := tArcs_at hlt3
      have hb := hbs _ (List.getElem_mem hlt3)
      have hsn := qpRow_snoc f (f s) (qpOut f m R s) (row.take k) row[k]
      rw [← List.take_succ_eq_append_getElem hlt3] at hsn
      generalize row[k] = a at *
      obtain ⟨e, t⟩ := a
      simp only at hat hb
      obtain ⟨_, _, ht0, ht1⟩ := hb
      obtain ⟨tn, rfl⟩ : ∃ tn : Nat, t = (tn : Int) := ⟨t.toNat, by omega⟩
      have htn : tn < R.length := by omega
      obtain ⟨hft, hgt⟩ := hcl tn htn
      have gT := tInts_get hgt
      have hol : (qpRow f (f s) (qpOut f m R s) (row.take k)).length = m := by rw [qpRow_len, qpOut_len]
      have hot := qpRow_tot f (f s) (row.take k) (qpOut f m R s)
      rw [List.length_take] at hot
      generalize qpRow f (f s) (qpOut f m R s) (row.take k) = o at *
      have hrw := totA_row o (f s)
      have hgo : o[f s]? = some (o.getD (f s) []) := by
       rw [List.getD_eq_getElem?_getD, List.getElem?_eq_getElem (by omega)]; rfl
      by_cases hq : e ≠ 0 ∨ f tn ≠ f s
      ·have hx : qp1 f (f s) (e, (tn : Int)) = some (e, (f tn : Int)) := by
        show (if e ≠ 0 ∨ f tn ≠ f s then some (e, (f tn : Int)) else none) = _
        rw [if_pos hq]
       have hA : pushO (qp1 f (f s) (e, (tn : Int))) (f s) o = o.set (f s) (o.getD (f s) [] ++ [(e, (f tn : Int))]) := by rw [hx]; rfl
       generalize o.getD (f s) [] = oc at *
       by_cases he : e = 0
       ·have d4 : (e != 0) = false := by simp [he]
        have d5 : ((f tn : Int) != (f s : Int)) = true := by
         have := hq.resolve_left (by simp [he])
         simp; omega
        (refine wk1 @d3 ?_;(repeat clear hK K);repeat refine kq fun K hK=>?_)
        refine cxz ?_
        (refine wks1 (an @hat (an @tArcs_len (an @half2 (an @d4 (an @d5 (an @tInts_len (an @hCl @gT))))))) ?_;(repeat clear hK K);repeat refine kq fun K hK=>?_)
        refine cxz ?_
        (refine wk0 ?_;(repeat clear hK K);repeat refine kq fun K hK=>?_)
        (refine aw_regionZ [] (.m 0 0 0 (.m 1 0 0 (.m 2 0 0 (.m 3 0 0 (.m 4 0 0 (.m 5 1 15 (.m 6 0 0 (.m 7 1 14 (.m 8 0 0 (.m 9 0 0 (.m 10 1 14 (.m 11 0 0 (.m 12 1 14 (.m 13 0 0 (.a 14 (.a 15 (.m 16 0 0 (.a 17 .e)))))))))))))))))) (by kernel_rfl) (by kernel_rfl) (by intro c st h; simp [ThenA, InBl, Ret] at h) ?_)
        (refine zk1 (an @cRowsO_len (an (cRowsO_get hgo) (an @hol (an @tInts_len (an @hCl @gT))))) ?_; repeat clear hK K)
        (refine z_2 rfl rfl ?_; intro K1 hK1; refine stpF_a rfl ?_; simp only [go_sem]; (first | refine hK1 _ ?_ | refine andk (hK1 _ ?_)); clear hK1 K1)
        (refine z_2y rfl rfl rfl ?_; intro K1 hK1; refine stpY_ap rfl rfl rfl rfl (by first | rfl | simp only [rowsB, List.getD_cons_zero, List.getD_cons_succ, hne, List.isEmpty_cons, Bool.not_false, Bool.true_and, Bool.and_true, Bool.and_self]) rfl ?_; simp only [go_sem, tArcs_c, tArcs_len, half2, cArcs_snoc, cRowsO_get hgo]; (first | refine hK1 _ ?_ | refine andk (hK1 _ ?_)); clear hK1 K1)
        (refine zk1 (an @cRowsO_len @hol) ?_; repeat clear hK K)
        (refine z_3 rfl rfl rfl rfl ?_; intro K1 hK1; refine stp_ev rfl ?_; simp only [go_sem, cRowsO_len, List.length_set, set_two2, hol]; (first | refine hK1 _ ?_ | refine andk (hK1 _ ?_)); clear hK1 K1)
        refine z_nil ⟨by simp, by simp, ?_⟩
        (try simp only [ThenA, InBl])
        refine hK _ ?_
        clear hK K
        have hj6 : ((cRowsO o).set (f s) (C.s 6 (oc.length + 1)))[f s]? = some (.s 6 (oc.length + 1)) := by rw [List.getElem?_set_self (by rw [cRowsO_len]; omega)]
        have hset6 : ((cRowsO o).set (f s) (C.s 6 (oc.length + 1))).set (f s) (.o (2, 23) (tArcs (oc ++ [(e, (f tn : Int))]))) = cRowsO (o.set (f s) (oc ++ [(e, (f tn : Int))])) := by rw [set_two2, cRowsO_set]
        refine aw_le (le_sink (r := ⟨23, 2, true, cArcs (oc ++ [(e, (f tn : Int))])⟩) (ri := ⟨24, 1, true, (cRowsO o).set (f s) (C.s 6 (oc.length + 1))⟩) (ts := tArcs (oc ++ [(e, (f tn : Int))])) 2 (f s) 6 (oc.length + 1) (by decide) rfl hj6 rfl rfl (show 0 < 2 by omega) (by rw [cArcs_len]; simp) (fz_ca _)) ?_
        simp only [hset6, go_sem]
        (refine wk0 ?_;(repeat clear hK K);repeat refine kq fun K hK=>?_)
        refine rnz ?_
        refine hK _ (k + 1) (by omega) (by omega) ?_
        refine Le.trans (le_pick [0, 1, 2, 3] rfl rfl) ?_
        (try simp only [List.set_nil, List.take_nil, List.take_zero, List.map_append, go_sem])
        (try simp only [cBs_ren, cRowsO_ren])
        rw [hsn, hA]
        exact lmz
       ·have d4 : (e != 0) = true := by simpa using he
        (refine wk1 @d3 ?_;(repeat clear hK K);repeat refine kq fun K hK=>?_)
        refine cxz ?_
        (refine wks1 (an @hat (an @tArcs_len (an @half2 (an @d4 (an @tInts_len (an @hCl @gT)))))) ?_;(repeat clear hK K);repeat refine kq fun K hK=>?_)
        refine cxz ?_
        (refine wk0 ?_;(repeat clear hK K);repeat refine kq fun K hK=>?_)
        (refine aw_regionZ [] (.m 0 0 0 (.m 1 0 0 (.m 2 0 0 (.m 3 0 0 (.m 4 0 0 (.m 5 1 15 (.m 6 0 0 (.m 7 1 14 (.m 8 0 0 (.m 9 0 0 (.m 10 1 14 (.m 11 0 0 (.m 12 1 14 (.m 13 0 0 (.a 14 (.a 15 (.m 16 0 0 (.a 17 .e)))))))))))))))))) (by kernel_rfl) (by kernel_rfl) (by intro c st h; simp [ThenA, InBl, Ret] at h) ?_)
        (refine zk1 (an @cRowsO_len (an (cRowsO_get hgo) (an @hol (an @tInts_len (an @hCl @gT))))) ?_; repeat clear hK K)
        (refine z_2 rfl rfl ?_; intro K1 hK1; refine stpF_a rfl ?_; simp only [go_sem]; (first | refine hK1 _ ?_ | refine andk (hK1 _ ?_)); clear hK1 K1)
        (refine z_2y rfl rfl rfl ?_; intro K1 hK1; refine stpY_ap rfl rfl rfl rfl (by first | rfl | simp only [rowsB, List.getD_cons_zero, List.getD_cons_succ, hne, List.isEmpty_cons, Bool.not_false, Bool.true_and, Bool.and_true, Bool.and_self]) rfl ?_; simp only [go_sem, tArcs_c, tArcs_len, half2, cArcs_snoc, cRowsO_get hgo]; (first | refine hK1 _ ?_ | refine andk (hK1 _ ?_)); clear hK1 K1)
        (refine zk1 (an @cRowsO_len @hol) ?_; repeat clear hK K)
        (refine z_3 rfl rfl rfl rfl ?_; intro K1 hK1; refine stp_ev rfl ?_; simp only [go_sem, cRowsO_len, List.length_set, set_two2, hol]; (first | refine hK1 _ ?_ | refine andk (hK1 _ ?_)); clear hK1 K1)
        refine z_nil ⟨by simp, by simp, ?_⟩
        (try simp only [ThenA, InBl])
        refine hK _ ?_
        clear hK K
        have hj6 : ((cRowsO o).set (f s) (C.s 6 (oc.length + 1)))[f s]? = some (.s 6 (oc.length + 1)) := by rw [List.getElem?_set_self (by rw [cRowsO_len]; omega)]
        have hset6 : ((cRowsO o).set (f s) (C.s 6 (oc.length + 1))).set (f s) (.o (2, 23) (tArcs (oc ++ [(e, (f tn : Int))]))) = cRowsO (o.set (f s) (oc ++ [(e, (f tn : Int))])) := by rw [set_two2, cRowsO_set]
        refine aw_le (le_sink (r := ⟨23, 2, true, cArcs (oc ++ [(e, (f tn : Int))])⟩) (ri := ⟨24, 1, true, (cRowsO o).set (f s) (C.s 6 (oc.length + 1))⟩) (ts := tArcs (oc ++ [(e, (f tn : Int))])) 2 (f s) 6 (oc.length + 1) (by decide) rfl hj6 rfl rfl (show 0 < 2 by omega) (by rw [cArcs_len]; simp) (fz_ca _)) ?_
        simp only [hset6, go_sem]
        (refine wk0 ?_;(repeat clear hK K);repeat refine kq fun K hK=>?_)
        refine rnz ?_
        refine hK _ (k + 1) (by omega) (by omega) ?_
        refine Le.trans (le_pick [0, 1, 2, 3] rfl rfl) ?_
        (try simp only [List.set_nil, List.take_nil, List.take_zero, List.map_append, go_sem])
        (try simp only [cBs_ren, cRowsO_ren])
        rw [hsn, hA]
        exact lmz
      ·have hx : qp1 f (f s) (e, (tn : Int)) = none := by
        show (if e ≠ 0 ∨ f tn ≠ f s then some (e, (f tn : Int)) else none) = _
        rw [if_neg hq]
       have hA : pushO (qp1 f (f s) (e, (tn : Int))) (f s) o = o := by rw [hx]; rfl
       have he : e = 0 := Decidable.not_not.1 fun h => hq (.inl h)
       have hff : f tn = f s := Decidable.not_not.1 fun h => hq (.inr h)
       have d4 : (e != 0) = false := by simp [he]
       have d5 : ((f tn : Int) != (f s : Int)) = false := by simp [hff]
       (refine wk1 @d3 ?_;(repeat clear hK K);repeat refine kq fun K hK=>?_)
       refine cxz ?_
       (refine wks1 (an @hat (an @tArcs_len (an @half2 (an @d4 (an @d5 (an @tInts_len (an @hCl @gT))))))) ?_;(repeat clear hK K);repeat refine kq fun K hK=>?_)
       refine cyz ?_
       (refine wk0 ?_;(repeat clear hK K);repeat refine kq fun K hK=>?_)
       refine rnz ?_
       refine hK _ (k + 1) (by omega) (by omega) ?_
       refine Le.trans (le_pick [0, 1, 2, 3] rfl rfl) ?_
       (try simp only [List.set_nil, List.take_nil, List.take_zero, List.map_append, go_sem])
       (try simp only [cBs_ren, cRowsO_ren])
       rw [hsn, hA]
       exact lmz
     ·have d3 : decide ((k : Int) < (row.length : Int)) = false := by simpa using hlt3
      have hke3 : row.take k = row := List.take_of_length_le (by omega)
      rw [hke3, ← htl]
      (refine wk1 @d3 ?_;(repeat clear hK K);repeat refine kq fun K hK=>?_)
      refine cyz ?_
      (refine ekz ?_;repeat clear hK K)
      (refine wk0 ?_;(repeat clear hK K);repeat refine kq fun K hK=>?_)
      refine rnz ?_
      refine hK _ (s + 1) (by omega) (by omega) ?_
      exact lmz
  ·have d1 : decide ((s : Int) < (R.length : Int)) = false := by simpa using hlt
   have hse : s = R.length := by omega
   rw [hse] at d1
   rw [hse]
   (refine wk1 @d1 ?_;(repeat clear hK K);repeat refine kq fun K hK=>?_)
   refine cyz ?_
   (refine ekz ?_;repeat clear hK K)
   have hLl := lcL_len f m B R.length
   have hOl := qpOut_len f m R R.length
   have hOt := qpOut_tot f m R R.length (Nat.le_refl _)
   rw [List.take_length] at hOt
   generalize lcL f m B R.length = L at *
   generalize qpOut f m R R.length = O at *
   (refine aw_le (le_frz (r := ⟨4, 1, true, cBs L⟩) 3 (tBs L) rfl (fz_bs _) (show 0 < (1 : Nat) by omega)) ?_; simp only [ST.frz, A0.frz, AV.frz, C.frz, Nat.le_refl, List.set_cons_zero, List.set_cons_succ, go_sem, show (tBs L).take m = tBs L from List.take_of_length_le (by rw [tBs_len]; omega), tBs_len, hLl])
   (refine wk1 (an @tBs_len @hLl) ?_;(repeat clear hK K);repeat refine kq fun K hK=>?_)
   refine aw_le (le_pick [1, 2] rfl rfl) ?_
   (try simp only [List.set_nil, List.take_nil, List.take_zero, List.map_append, go_sem])
   (try simp only [cRowsO_ren])
   refine aw_loop (fun k : Nat => { tm := [(4, .a (.c (.p 0 0))), (7, .a (.c (.s 1 m))), (101, .a (.c (.t 1 (tBs L)))), (102, .i m), (103, .i k)], hp := [.r ⟨27, 1, false, [.v (.slice none 0 0)]⟩, .r ⟨24, 1, true, cRowsO (qlOut L O k)⟩], n := 130, pin := 0 }) (fun k => k ≤ m) (fun k => m - k) 0 ?_ ?_ ?_
   ·omega
   ·simp only [qlOut]
    exact lmz
   ·rintro k hk K hK
    by_cases hlk : k < m
    ·have d2 : decide ((k : Int) < (m : Int)) = true := by simpa using hlk
     have gL : (tBs L)[k]? = some (.v (.bool (L.getD k false))) := tBs_get (by rw [List.getD_eq_getElem?_getD, List.getElem?_eq_getElem (by omega)]; rfl)
     have hol := qlOut_len L O k
     have hot := qlOut_tot L O k
     have hsn : qlOut L O (k + 1) = pushO (lpO (L.getD k false) k) k (qlOut L O k) := rfl
     rw [hOl] at hol
     generalize qlOut L O k = o at *
     have hrw := totA_row o k
     have hgo : o[k]? = some (o.getD k []) := by
      rw [List.getD_eq_getElem?_getD, List.getElem?_eq_getElem (by omega)]; rfl
     cases hb : L.getD k false with
     | true =>
      rw [hb] at gL hsn
      have hA : pushO (lpO true k) k o = o.set k (o.getD k [] ++ [(0, (k : Int))]) := rfl
      generalize o.getD k [] = oc at *
      (refine wk1 @d2 ?_;(repeat clear hK K);repeat refine kq fun K hK=>?_)
      refine cxz ?_
      (refine wk1 (an @tBs_len (an @hLl @gL)) ?_;(repeat clear hK K);repeat refine kq fun K hK=>?_)
      refine cxz ?_
      (refine wks1 (an @cRowsO_len (an (cRowsO_get hgo) (an @hol (an @set_two2 (an @List.length_set.{0} (an @List.set_cons_zero.{0} (an @List.set_cons_succ.{0} (an @List.take_succ_cons.{0} (an @List.take_zero.{0} (an @List.drop_zero.{0} (an @List.length_take.{0} (an @List.length_drop.{0} (an @List.length_append.{0} (an @tArcs_len (an @half2 (an @tArcs_take (an @tArcs_drop (an @tArcs_c (an @cArcs_len (an @cArcs_one (an @cArcs_snoc (an @cArcs_app @cArcs_take)))))))))))))))))))))) ?_;(repeat clear hK K);repeat refine kq fun K hK=>?_)
      have hj6 : ((cRowsO o).set k (C.s 3 (oc.length + 1)))[k]? = some (.s 3 (oc.length + 1)) := by rw [List.getElem?_set_self (by rw [cRowsO_len]; omega)]
      have hset6 : ((cRowsO o).set k (C.s 3 (oc.length + 1))).set k (.o (2, 23) (tArcs (oc ++ [(0, (k : Int))]))) = cRowsO (o.set k (oc ++ [(0, (k : Int))])) := by rw [set_two2, cRowsO_set]
      refine rnz ?_
      refine hK _ (k + 1) (by omega) (by omega) ?_
      refine Le.trans (le_sink (r := ⟨23, 2, true, cArcs (oc ++ [(0, (k : Int))])⟩) (ri := ⟨24, 1, true, (cRowsO o).set k (C.s 3 (oc.length + 1))⟩) (ts := tArcs (oc ++ [(0, (k : Int))])) 1 k 3 (oc.length + 1) (by decide) rfl hj6 rfl rfl (show 0 < 2 by omega) (by rw [cArcs_len]; simp) (fz_ca _)) ?_
      simp only [hset6, go_sem]
      refine Le.trans (le_pick [0, 1] rfl rfl) ?_
      (try simp only [List.set_nil, List.take_nil, List.take_zero, List.map_append, go_sem])
      (try simp only [cRowsO_ren])
      rw [hsn, hA]
      exact lmz
     | false =>
      rw [hb] at gL hsn
      have hA : pushO (lpO false k) k o = o := rfl
      (refine wk1 @d2 ?_;(repeat clear hK K);repeat refine kq fun K hK=>?_)
      refine cxz ?_
      (refine wk1 (an @tBs_len (an @hLl @gL)) ?_;(repeat clear hK K);repeat refine kq fun K hK=>?_)
      refine cyz ?_
      (refine wk0 ?_;(repeat clear hK K);repeat refine kq fun K hK=>?_)
      refine rnz ?_
      refine hK _ (k + 1) (by omega) (by omega) ?_
      rw [hsn, hA]
      exact lmz
    ·have d2 : decide ((k : Int) < (m : Int)) = false := by simpa using hlk
     have hke : k = m := by omega
     rw [hke] at d2
     rw [hke]
     (refine wk1 @d2 ?_;(repeat clear hK K);repeat refine kq fun K hK=>?_)
     refine cyz ?_
     (refine ekz ?_;repeat clear hK K)
     obtain ⟨hql, hqb, hqt⟩ := hqR
     generalize qlOut L O m = T at *
     have hrT : ∀ r ∈ T, r.length ≤ 1000000 := fun r hr0 => by
      obtain ⟨j, hj, rfl⟩ := List.getElem_of_mem hr0
      have h := totA_row T j
      rw [List.getD_eq_getElem?_getD, List.getElem?_eq_getElem hj, Option.getD_some] at h
      omega
     have hco := fcanon_fc T (by omega) (fun r hr0 a ha => by have := hqb r hr0 a ha; exact ⟨this.2.2.1, this.2.2.2⟩) (by omega) hrT
     generalize hxe : (canonR T).1 = x at *
     refine aw_le (le_ot 1 rfl) ?_
     simp only [cRowsO_ot, go_sem]
     have htk : (tRows T).take m = tRows T := List.take_of_length_le (by rw [tRows_len]; omega)
     (refine aw_le (le_frz (r := ⟨24, 1, true, cRows T⟩) 1 (tRows T) rfl (fz_cr _) (show 0 < (1 : Nat) by omega)) ?_; simp only [ST.frz, A0.frz, AV.frz, C.frz, Nat.le_refl, List.set_cons_zero, List.set_cons_succ, go_sem, htk, tRows_len, hql])
     (refine wk0 ?_;(repeat clear hK K);repeat refine kq fun K hK=>?_)
     (refine ckz hco ?_; intro K1 hK1)
     intro r0 o0 h0
     by_cases ht : totA x ≤ 262144
     ·rw [fcR, if_pos ht] at h0
      obtain ⟨rfl, rfl⟩ := h0
      (refine bkz ?_; clear hK1 K1)
      (refine wks1 @Bool.not_true ?_;(repeat clear hK K);repeat refine kq fun K hK=>?_)
      refine cyz ?_
      (refine wks0 ?_;(repeat clear hK K);repeat refine kq fun K hK=>?_)
      refine rp0 [0] Tryd.results33 ?_
      refine hend _ _ ?_
      rw [hqe, hxe, quO, if_pos ht]
      exact ⟨rfl, rfl⟩
     ·rw [fcR, if_neg ht] at h0
      obtain ⟨rfl, rfl⟩ := h0
      (refine bkz ?_; clear hK1 K1)
      (refine wks1 @Bool.not_false ?_;(repeat clear hK K);repeat refine kq fun K hK=>?_)
      refine cxz ?_
      (refine wks0 ?_;(repeat clear hK K);repeat refine kq fun K hK=>?_)
      refine rp0 [0] Tryd.results33 ?_
      refine hend _ _ ?_
      rw [hqe, hxe, quO, if_neg ht]
      exact ⟨rfl, rfl⟩
end Go.Proofs.YtglchakimolfdaaDoor
