/- weak.Quotient. The quotient by delay bisimulation, plain: keys that agree with the delay arrows, systems side by side, and the quotient against the system. ref23.Canonical. ref28.TauLoops. diamond.TauLoops at a system that is not valid. ref23: SameRow, Same at equal systems. Bounds of the canonical form, Same at nil systems, Chain at 8. The delay quotient's canonical form against the system: the plain law of DelayCompress. delay.Quotient at a valid system and its classes; delay.Compress. law27.sane by the contracts, at its one system. -/
import Derived.Test.YtahnebicgbjonaaGreatZk
import Derived.Test.YtahnebicgbjonaaGreatG12
import Derived.Test.YtahnebicgbjonaaGreatTl3
import Derived.Test.YtahnebicgbjonaaGreatOd1
import Derived.Test.YtahnebicgbjonaaGreatG45
import Derived.Test.YtahnebicgbjonaaGreatMG
import Derived.Test.YtahnebicgbjonaaGreatG84
import Derived.Test.YtahnebicgbjonaaGreatMda
import Derived.Test.YtahnebicgbjonaaGreatMI
namespace Go.Proofs.YtahnebicgbjonaaGreat
set_option linter.unusedVariables false
set_option linter.unusedSimpArgs false
open Go.RowKit
set_option maxRecDepth 100000
attribute [local go_sem] List.set_cons_zero List.set_cons_succ List.map_cons List.map_nil List.take_succ_cons List.take_zero List.drop_zero List.drop_succ_cons C.pl C.one List.all_cons List.all_nil Bool.and_true Nat.mul_one Int.toNat_natCast

def quO (x : List (List Ar)) (r : AV) (o : List Ob) : Prop :=
 if totA x ≤ 262144 then o = [.r ⟨25, 1, false, [.t 1 (tRows x)]⟩] ∧ r = .tup [.g [.t 1 (tRows x)], .c (.v (.int .i64 0))]
 else o = [.r ⟨25, 1, false, [.v (.slice none 0 0)]⟩] ∧ r = .tup [.g [.v (.slice none 0 0)], .c (.v (.int .i64 10))]
set_option maxHeartbeats 8000000 in
theorem quo_fc (R : List (List Ar)) (cl : List Int) (hv : valB R = true) (hC : numB cl R.length = true) (hn : R.length ≤ 1000000) (hr : ∀ r ∈ R, r.length ≤ 1000000) : FC Tryz.prog 50 [aLts R, aInts cl] [] (fun r o => ∃ B, DvL R B ∧ quO (canonR (qR R cl B)).1 r o) := by
 refine fc_intro Tryz.func50 rfl (by rw [Tryz.ntmps50]; simp) ?_
 rw [Tryz.ntmps50]
 simp only [enum, aLts, aInts]
 have hlo : looB R = true := decide_eq_true (of_decide_eq_true hv).1
 have h1 : 1 ≤ R.length := (of_decide_eq_true hlo).1
 have hR16 : R.length ≤ 16384 := (of_decide_eq_true hlo).2.1
 have htA : totA R ≤ 262144 := (of_decide_eq_true hlo).2.2.1
 have hbd := (of_decide_eq_true hlo).2.2.2
 obtain ⟨hCl, hmn, hcl, hmx⟩ := num_ok hC
 have hcl1 : 0 < cl.length := by omega
 have hmax : maxL cl[0] cl + 1 = (mxN cl : Int) := by
  have h0 : 0 ≤ cl[0] := by
   have := (hcl 0 (by omega)).2
   rw [List.getElem?_eq_getElem hcl1] at this
   injection this with this
   omega
  rw [← hmx]
  cases cl with
  | nil => simp at hcl1
  | cons x l => exact (mxI_cons l h0).symm
 have hm1 : 1 ≤ mxN cl := by have := (hcl 0 (by omega)).1; omega
 (refine wk0 ?_;(repeat clear hK K);repeat refine kq fun K hK=>?_)
 (refine ckz (valid_fc R (by omega) (fun r h => by have := hr r h; omega)) ?_; intro K1 hK1)
 rintro _ _ ⟨rfl, rfl⟩
 (refine bkz ?_; clear hK1 K1)
 (refine wk1 (an @hv (an @Bool.not_true @tRows_len)) ?_;(repeat clear hK K);repeat refine kq fun K hK=>?_)
 (refine lst_goU rfl rfl (by simp only [go_sem] <;> rfl) ?_; intro K1 hK1; refine (stp_call0 (ids := []) (num_fc cl R.length (by omega)) rfl rfl (by simp only [go_sem]) (by kernel_rfl) (by (simp only [List.append_nil, go_sem]) <;> rfl) ?_).stp)
 rintro _ _ ⟨rfl, rfl⟩
 (refine bkz ?_; clear hK1 K1)
 (refine wk1 (an @hC @Bool.not_true) ?_;(repeat clear hK K);repeat refine kq fun K hK=>?_)
 refine cyz ?_
 (refine wk0 ?_;(repeat clear hK K);repeat refine kq fun K hK=>?_)
 (refine ckz (dvgT_fc R hv hn hr) ?_; intro K1 hK1)
 rintro _ _ ⟨B, hB, rfl, rfl⟩
 (refine bkz ?_; clear hK1 K1)
 have hBl := hB.1
 have hB2 : ∀ s, s < R.length → B[s]? = some (B.getD s false) := fun s hs => by rw [List.getD_eq_getElem?_getD, List.getElem?_eq_getElem (by omega)]; rfl
 have hend : ∀ r o, quO (canonR (qR R cl B)).1 r o → ∃ B, DvL R B ∧ quO (canonR (qR R cl B)).1 r o := fun r o h => ⟨B, hB, h⟩
 (refine wk0 ?_;(repeat clear hK K);repeat refine kq fun K hK=>?_)
 (refine ckz (max_fc cl hcl1 (by omega)) ?_; intro K1 hK1)
 rintro _ _ ⟨rfl, rfl⟩
 (refine bkz ?_; clear hK1 K1)
 have hqR := qR_bd (B := B) hlo hC
 have hqe : qR R cl B = qlOut (lcL (clf cl) (mxN cl) B R.length) (qpOut (clf cl) (mxN cl) R R.length) (mxN cl) := rfl
 rw [hqe] at hqR
 generalize maxL cl[0] cl = mx at *
 generalize hm : mxN cl = m at *
 generalize hf : clf cl = f at *
 (refine wk1 (an @hmax @tRows_len) ?_;(repeat clear hK K);repeat refine kq fun K hK=>?_)
 have e1 : List.replicate m (C.o (2, 49) []) = cRowsO (qpOut f m R 0) := by simp [cRowsO, qpOut, tArcs]
 have e2 : List.replicate m (C.v (.bool false)) = cBs (lcL f m B 0) := by
  have : lcL f m B 0 = List.replicate m false := List.ext_getElem (by simp [lcL]) fun i h1 h2 => by simp [lcL]
  rw [this]; simp [cBs]
 rw [e1, e2]
 have hfm : ∀ v, v < R.length → f v < m := fun v hv => (hcl v hv).1
 refine aw_loop (fun s : Nat => { tm := [(1, .a (.c (.t 1 (tInts cl)))), (2, .a (.c (.p 0 0))), (4, .a (.c (.p 1 0))), (6, .a (.c (.t 1 (tBs B)))), (7, .a (.c (.s 2 m))), (8, .a (.c (.s 3 m))), (40, .a (.c (.t 1 (tRows R)))), (41, .i R.length), (42, .i s)], hp := [.r ⟨25, 1, false, [.t 1 (tRows R)]⟩, .r ⟨25, 1, false, [.v (.slice none 0 0)]⟩, .r ⟨45, 1, true, cRowsO (qpOut f m R s)⟩, .r ⟨4, 1, true, cBs (lcL f m B s)⟩], n := 130, pin := 0 }) (fun s => s ≤ R.length) (fun s => R.length - s) 0 ?_ ?_ ?_
 ·omega
 ·exact lmz
 ·rintro s hs K hK
  by_cases hlt : s < R.length
  ·have d1 : decide ((s : Int) < (R.length : Int)) = true := by simpa using hlt
   have hgR := List.getElem?_eq_getElem hlt
   have hrl := hr _ (List.getElem_mem hlt)
   obtain ⟨hfs, hgs⟩ := hcl s hlt
   have gC := tInts_get hgs
   have gB := tBs_get (hB2 s hlt)
   have hlset := lcL_set (B := B) hfs
   have hll := lcL_len f m B s
   have gL : (cBs (lcL f m B s))[f s]? = some (.v (.bool ((lcL f m B s).getD (f s) false))) := cBs_get (by rw [List.getD_eq_getElem?_getD, List.getElem?_eq_getElem (by omega)]; rfl)
   have htot := qpOut_tot f m R s hs
   have hto := totA_take hlt
   have htl3 := totA_le R (s + 1)
   have hbs := hbd _ (List.getElem_mem hlt)
   have htl : qpOut f m R (s + 1) = qpRow f (f s) (qpOut f m R s) R[s] := by
    rw [qpOut, List.getD_eq_getElem?_getD, hgR, Option.getD_some]
   generalize hrow : R[s] = row at *
   cases hlb : (lcL f m B s).getD (f s) false with
   | true =>
    rw [hlb] at gL hlset
    rw [Bool.true_or] at hlset
    (refine wk1 @d1 ?_;(repeat clear hK K);repeat refine kq fun K hK=>?_)
    refine cxz ?_
    (refine wks1 (an @tRows_len (an (tRows_get hgR) (an @tInts_len (an @hCl (an @gC (an @cBs_len (an @hll (an @gL (an @tBs_len (an @hBl (an @gB (an @cBs_set (an @hlset (an @tArcs_len @half2)))))))))))))) ?_;(repeat clear hK K);repeat refine kq fun K hK=>?_)
    refine aw_loop (fun k : Nat => { tm := [(1, .a (.c (.t 1 (tInts cl)))), (2, .a (.c (.p 0 0))), (4, .a (.c (.p 1 0))), (6, .a (.c (.t 1 (tBs B)))), (7, .a (.c (.s 2 m))), (8, .a (.c (.s 3 m))), (9, .i s), (11, .i (f s)), (40, .a (.c (.t 1 (tRows R)))), (41, .i R.length), (42, .i s), (64, .a (.c (.t 2 (tArcs row)))), (65, .i row.length), (66, .i k)], hp := [.r ⟨25, 1, false, [.t 1 (tRows R)]⟩, .r ⟨25, 1, false, [.v (.slice none 0 0)]⟩, .r ⟨45, 1, true, cRowsO (qpRow f (f s) (qpOut f m R s) (row.take k))⟩, .r ⟨4, 1, true, cBs (lcL f m B (s + 1))⟩], n := 130, pin := 0 }) (fun k => k ≤ row.length) (fun k => row.length - k) 0 ?_ ?_ ?_
    ·omega
    ·simp only [List.take_zero, qpRow, List.foldl_nil]
     exact lmz
    ·rintro k hk K hK
     by_cases hlt3 : k < row.length
     ·have d3 : decide ((k : Int) < (row.length : Int)) = true := by simpa using hlt3
      have hat := tArcs_at hlt3
      have hb := hbs _ (List.getElem_mem hlt3)
      have hsn := qpRow_snoc f (f s) (qpOut f m R s) (row.take k) row[k]
      rw [← List.take_succ_eq_append_getElem hlt3] at hsn
      generalize row[k] = a at *
      obtain ⟨e, t⟩ := a
      simp only at hat hb
      obtain ⟨_, _, ht0, ht1⟩ := hb
      obtain ⟨tn, rfl⟩ : ∃ tn : Nat, t = (tn : Int) := ⟨t.toNat, by omega⟩
      have htn : tn < R.length := by omega
      obtain ⟨hft, hgt⟩ := hcl tn htn
      have gT := tInts_get hgt
      have hol : (qpRow f (f s) (qpOut f m R s) (row.take k)).length = m := by rw [qpRow_len, qpOut_len]
      have hot := qpRow_tot f (f s) (row.take k) (qpOut f m R s)
      rw [List.length_take] at hot
      generalize qpRow f (f s) (qpOut f m R s) (row.take k) = o at *
      have hrw := totA_row o (f s)
      have hgo : o[f s]? = some (o.getD (f s) []) := by
       rw [List.getD_eq_getElem?_getD, List.getElem?_eq_getElem (by omega)]; rfl
      by_cases hq : e ≠ 0 ∨ f tn ≠ f s
      ·have hx : qp1 f (f s) (e, (tn : Int)) = some (e, (f tn : Int)) := by
        show (if e ≠ 0 ∨ f tn ≠ f s then some (e, (f tn : Int)) else none) = _
        rw [if_pos hq]
       have hA : pushO (qp1 f (f s) (e, (tn : Int))) (f s) o = o.set (f s) (o.getD (f s) [] ++ [(e, (f tn : Int))]) := by rw [hx]; rfl
       generalize o.getD (f s) [] = oc at *
       by_cases he : e = 0
       ·have d4 : (e != 0) = false := by simp [he]
        have d5 : ((f tn : Int) != (f s : Int)) = true := by
         have := hq.resolve_left (by simp [he])
         simp; omega
        (refine wk1 @d3 ?_;(repeat clear hK K);repeat refine kq fun K hK=>?_)
        refine cxz ?_
        (refine wks1 (an @hat (an @tArcs_len (an @half2 (an @d4 (an @d5 (an @tInts_len (an @hCl @gT))))))) ?_;(repeat clear hK K);repeat refine kq fun K hK=>?_)
        refine cxz ?_
        (refine wk0 ?_;(repeat clear hK K);repeat refine kq fun K hK=>?_)
        (refine aw_regionZ [] (.m 0 0 0 (.m 1 0 0 (.m 2 0 0 (.m 3 0 0 (.m 4 0 0 (.m 5 1 15 (.m 6 0 0 (.m 7 1 14 (.m 8 0 0 (.m 9 0 0 (.m 10 1 14 (.m 11 0 0 (.m 12 1 14 (.m 13 0 0 (.a 14 (.a 15 (.m 16 0 0 (.a 17 .e)))))))))))))))))) (by kernel_rfl) (by kernel_rfl) (by intro c st h; simp [ThenA, InBl, Ret] at h) ?_)
        (refine zk1 (an @cRowsO_len (an (cRowsO_get hgo) (an @hol (an @tInts_len (an @hCl @gT))))) ?_; repeat clear hK K)
        (refine z_2 rfl rfl ?_; intro K1 hK1; refine stpF_a rfl ?_; simp only [go_sem]; (first | refine hK1 _ ?_ | refine andk (hK1 _ ?_)); clear hK1 K1)
        (refine z_2y rfl rfl rfl ?_; intro K1 hK1; refine stpY_ap rfl rfl rfl rfl (by first | rfl | simp only [rowsB, List.getD_cons_zero, List.getD_cons_succ, hne, List.isEmpty_cons, Bool.not_false, Bool.true_and, Bool.and_true, Bool.and_self]) rfl ?_; simp only [go_sem, tArcs_c, tArcs_len, half2, cArcs_snoc, cRowsO_get hgo]; (first | refine hK1 _ ?_ | refine andk (hK1 _ ?_)); clear hK1 K1)
        (refine zk1 (an @cRowsO_len @hol) ?_; repeat clear hK K)
        (refine z_3 rfl rfl rfl rfl ?_; intro K1 hK1; refine stp_ev rfl ?_; simp only [go_sem, cRowsO_len, List.length_set, set_two2, hol]; (first | refine hK1 _ ?_ | refine andk (hK1 _ ?_)); clear hK1 K1)
        refine z_nil ⟨by simp, by simp, ?_⟩
        (try simp only [ThenA, InBl])
        refine hK _ ?_
        clear hK K
        have hj6 : ((cRowsO o).set (f s) (C.s 6 (oc.length + 1)))[f s]? = some (.s 6 (oc.length + 1)) := by rw [List.getElem?_set_self (by rw [cRowsO_len]; omega)]
        have hset6 : ((cRowsO o).set (f s) (C.s 6 (oc.length + 1))).set (f s) (.o (2, 49) (tArcs (oc ++ [(e, (f tn : Int))]))) = cRowsO (o.set (f s) (oc ++ [(e, (f tn : Int))])) := by rw [set_two2, cRowsO_set]
        refine aw_le (le_sink (r := ⟨49, 2, true, cArcs (oc ++ [(e, (f tn : Int))])⟩) (ri := ⟨45, 1, true, (cRowsO o).set (f s) (C.s 6 (oc.length + 1))⟩) (ts := tArcs (oc ++ [(e, (f tn : Int))])) 2 (f s) 6 (oc.length + 1) (by decide) rfl hj6 rfl rfl (show 0 < 2 by omega) (by rw [cArcs_len]; simp) (fz_ca _)) ?_
        simp only [hset6, go_sem]
        (refine wk0 ?_;(repeat clear hK K);repeat refine kq fun K hK=>?_)
        refine rnz ?_
        refine hK _ (k + 1) (by omega) (by omega) ?_
        refine Le.trans (le_pick [0, 1, 2, 3] rfl rfl) ?_
        (try simp only [List.set_nil, List.take_nil, List.take_zero, List.map_append, go_sem])
        (try simp only [cBs_ren, cRowsO_ren])
        rw [hsn, hA]
        exact lmz
       ·have d4 : (e != 0) = true := by simpa using he
        (refine wk1 @d3 ?_;(repeat clear hK K);repeat refine kq fun K hK=>?_)
        refine cxz ?_
        (refine wks1 (an @hat (an @tArcs_len (an @half2 (an @d4 (an @tInts_len (an @hCl @gT)))))) ?_;(repeat clear hK K);repeat refine kq fun K hK=>?_)
        refine cxz ?_
        (refine wk0 ?_;(repeat clear hK K);repeat refine kq fun K hK=>?_)
        (refine aw_regionZ [] (.m 0 0 0 (.m 1 0 0 (.m 2 0 0 (.m 3 0 0 (.m 4 0 0 (.m 5 1 15 (.m 6 0 0 (.m 7 1 14 (.m 8 0 0 (.m 9 0 0 (.m 10 1 14 (.m 11 0 0 (.m 12 1 14 (.m 13 0 0 (.a 14 (.a 15 (.m 16 0 0 (.a 17 .e)))))))))))))))))) (by kernel_rfl) (by kernel_rfl) (by intro c st h; simp [ThenA, InBl, Ret] at h) ?_)
        (refine zk1 (an @cRowsO_len (an (cRowsO_get hgo) (an @hol (an @tInts_len (an @hCl @gT))))) ?_; repeat clear hK K)
        (refine z_2 rfl rfl ?_; intro K1 hK1; refine stpF_a rfl ?_; simp only [go_sem]; (first | refine hK1 _ ?_ | refine andk (hK1 _ ?_)); clear hK1 K1)
        (refine z_2y rfl rfl rfl ?_; intro K1 hK1; refine stpY_ap rfl rfl rfl rfl (by first | rfl | simp only [rowsB, List.getD_cons_zero, List.getD_cons_succ, hne, List.isEmpty_cons, Bool.not_false, Bool.true_and, Bool.and_true, Bool.and_self]) rfl ?_; simp only [go_sem, tArcs_c, tArcs_len, half2, cArcs_snoc, cRowsO_get hgo]; (first | refine hK1 _ ?_ | refine andk (hK1 _ ?_)); clear hK1 K1)
        (refine zk1 (an @cRowsO_len @hol) ?_; repeat clear hK K)
        (refine z_3 rfl rfl rfl rfl ?_; intro K1 hK1; refine stp_ev rfl ?_; simp only [go_sem, cRowsO_len, List.length_set, set_two2, hol]; (first | refine hK1 _ ?_ | refine andk (hK1 _ ?_)); clear hK1 K1)
        refine z_nil ⟨by simp, by simp, ?_⟩
        (try simp only [ThenA, InBl])
        refine hK _ ?_
        clear hK K
        have hj6 : ((cRowsO o).set (f s) (C.s 6 (oc.length + 1)))[f s]? = some (.s 6 (oc.length + 1)) := by rw [List.getElem?_set_self (by rw [cRowsO_len]; omega)]
        have hset6 : ((cRowsO o).set (f s) (C.s 6 (oc.length + 1))).set (f s) (.o (2, 49) (tArcs (oc ++ [(e, (f tn : Int))]))) = cRowsO (o.set (f s) (oc ++ [(e, (f tn : Int))])) := by rw [set_two2, cRowsO_set]
        refine aw_le (le_sink (r := ⟨49, 2, true, cArcs (oc ++ [(e, (f tn : Int))])⟩) (ri := ⟨45, 1, true, (cRowsO o).set (f s) (C.s 6 (oc.length + 1))⟩) (ts := tArcs (oc ++ [(e, (f tn : Int))])) 2 (f s) 6 (oc.length + 1) (by decide) rfl hj6 rfl rfl (show 0 < 2 by omega) (by rw [cArcs_len]; simp) (fz_ca _)) ?_
        simp only [hset6, go_sem]
        (refine wk0 ?_;(repeat clear hK K);repeat refine kq fun K hK=>?_)
        refine rnz ?_
        refine hK _ (k + 1) (by omega) (by omega) ?_
        refine Le.trans (le_pick [0, 1, 2, 3] rfl rfl) ?_
        (try simp only [List.set_nil, List.take_nil, List.take_zero, List.map_append, go_sem])
        (try simp only [cBs_ren, cRowsO_ren])
        rw [hsn, hA]
        exact lmz
      ·have hx : qp1 f (f s) (e, (tn : Int)) = none := by
        show (if e ≠ 0 ∨ f tn ≠ f s then some (e, (f tn : Int)) else none) = _
        rw [if_neg hq]
       have hA : pushO (qp1 f (f s) (e, (tn : Int))) (f s) o = o := by rw [hx]; rfl
       have he : e = 0 := Decidable.not_not.1 fun h => hq (.inl h)
       have hff : f tn = f s := Decidable.not_not.1 fun h => hq (.inr h)
       have d4 : (e != 0) = false := by simp [he]
       have d5 : ((f tn : Int) != (f s : Int)) = false := by simp [hff]
       (refine wk1 @d3 ?_;(repeat clear hK K);repeat refine kq fun K hK=>?_)
       refine cxz ?_
       (refine wks1 (an @hat (an @tArcs_len (an @half2 (an @d4 (an @d5 (an @tInts_len (an @hCl @gT))))))) ?_;(repeat clear hK K);repeat refine kq fun K hK=>?_)
       refine cyz ?_
       (refine wk0 ?_;(repeat clear hK K);repeat refine kq fun K hK=>?_)
       refine rnz ?_
       refine hK _ (k + 1) (by omega) (by omega) ?_
       refine Le.trans (le_pick [0, 1, 2, 3] rfl rfl) ?_
       (try simp only [List.set_nil, List.take_nil, List.take_zero, List.map_append, go_sem])
       (try simp only [cBs_ren, cRowsO_ren])
       rw [hsn, hA]
       exact lmz
     ·have d3 : decide ((k : Int) < (row.length : Int)) = false := by simpa using hlt3
      have hke3 : row.take k = row := List.take_of_length_le (by omega)
      rw [hke3, ← htl]
      (refine wk1 @d3 ?_;(repeat clear hK K);repeat refine kq fun K hK=>?_)
      refine cyz ?_
      (refine ekz ?_;repeat clear hK K)
      (refine wk0 ?_;(repeat clear hK K);repeat refine kq fun K hK=>?_)
      refine rnz ?_
      refine hK _ (s + 1) (by omega) (by omega) ?_
      exact lmz
   | false =>
    rw [hlb] at gL hlset
    rw [Bool.false_or] at hlset
    (refine wk1 @d1 ?_;(repeat clear hK K);repeat refine kq fun K hK=>?_)
    refine cxz ?_
    (refine wks1 (an @tRows_len (an (tRows_get hgR) (an @tInts_len (an @hCl (an @gC (an @cBs_len (an @hll (an @gL (an @tBs_len (an @hBl (an @gB (an @cBs_set (an @hlset (an @tArcs_len @half2)))))))))))))) ?_;(repeat clear hK K);repeat refine kq fun K hK=>?_)
    refine aw_loop (fun k : Nat => { tm := [(1, .a (.c (.t 1 (tInts cl)))), (2, .a (.c (.p 0 0))), (4, .a (.c (.p 1 0))), (6, .a (.c (.t 1 (tBs B)))), (7, .a (.c (.s 2 m))), (8, .a (.c (.s 3 m))), (9, .i s), (11, .i (f s)), (40, .a (.c (.t 1 (tRows R)))), (41, .i R.length), (42, .i s), (64, .a (.c (.t 2 (tArcs row)))), (65, .i row.length), (66, .i k)], hp := [.r ⟨25, 1, false, [.t 1 (tRows R)]⟩, .r ⟨25, 1, false, [.v (.slice none 0 0)]⟩, .r ⟨45, 1, true, cRowsO (qpRow f (f s) (qpOut f m R s) (row.take k))⟩, .r ⟨4, 1, true, cBs (lcL f m B (s + 1))⟩], n := 130, pin := 0 }) (fun k => k ≤ row.length) (fun k => row.length - k) 0 ?_ ?_ ?_
    ·omega
    ·simp only [List.take_zero, qpRow, List.foldl_nil]
     exact lmz
    ·rintro k hk K hK
     by_cases hlt3 : k < row.length
     ·have d3 : decide ((k : Int) < (row.length : Int)) = true := by simpa using hlt3
      have hat := tArcs_at hlt3
      have hb := hbs _ (List.getElem_mem hlt3)
      have hsn := qpRow_snoc f (f s) (qpOut f m R s) (row.take k) row[k]
      rw [← List.take_succ_eq_append_getElem hlt3] at hsn
      generalize row[k] = a at *
      obtain ⟨e, t⟩ := a
      simp only at hat hb
      obtain ⟨_, _, ht0, ht1⟩ := hb
      obtain ⟨tn, rfl⟩ : ∃ tn : Nat, t = (tn : Int) := ⟨t.toNat, by omega⟩
      have htn : tn < R.length := by omega
      obtain ⟨hft, hgt⟩ := hcl tn htn
      have gT := tInts_get hgt
      have hol : (qpRow f (f s) (qpOut f m R s) (row.take k)).length = m := by rw [qpRow_len, qpOut_len]
      have hot := qpRow_tot f (f s) (row.take k) (qpOut f m R s)
      rw [List.length_take] at hot
      generalize qpRow f (f s) (qpOut f m R s) (row.take k) = o at *
      have hrw := totA_row o (f s)
      have hgo : o[f s]? = some (o.getD (f s) []) := by
       rw [List.getD_eq_getElem?_getD, List.getElem?_eq_getElem (by omega)]; rfl
      by_cases hq : e ≠ 0 ∨ f tn ≠ f s
      ·have hx : qp1 f (f s) (e, (tn : Int)) = some (e, (f tn : Int)) := by
        show (if e ≠ 0 ∨ f tn ≠ f s then some (e, (f tn : Int)) else none) = _
        rw [if_pos hq]
       have hA : pushO (qp1 f (f s) (e, (tn : Int))) (f s) o = o.set (f s) (o.getD (f s) [] ++ [(e, (f tn : Int))]) := by rw [hx]; rfl
       generalize o.getD (f s) [] = oc at *
       by_cases he : e = 0
       ·have d4 : (e != 0) = false := by simp [he]
        have d5 : ((f tn : Int) != (f s : Int)) = true := by
         have := hq.resolve_left (by simp [he])
         simp; omega
        (refine wk1 @d3 ?_;(repeat clear hK K);repeat refine kq fun K hK=>?_)
        refine cxz ?_
        (refine wks1 (an @hat (an @tArcs_len (an @half2 (an @d4 (an @d5 (an @tInts_len (an @hCl @gT))))))) ?_;(repeat clear hK K);repeat refine kq fun K hK=>?_)
        refine cxz ?_
        (refine wk0 ?_;(repeat clear hK K);repeat refine kq fun K hK=>?_)
        (refine aw_regionZ [] (.m 0 0 0 (.m 1 0 0 (.m 2 0 0 (.m 3 0 0 (.m 4 0 0 (.m 5 1 15 (.m 6 0 0 (.m 7 1 14 (.m 8 0 0 (.m 9 0 0 (.m 10 1 14 (.m 11 0 0 (.m 12 1 14 (.m 13 0 0 (.a 14 (.a 15 (.m 16 0 0 (.a 17 .e)))))))))))))))))) (by kernel_rfl) (by kernel_rfl) (by intro c st h; simp [ThenA, InBl, Ret] at h) ?_)
        (refine zk1 (an @cRowsO_len (an (cRowsO_get hgo) (an @hol (an @tInts_len (an @hCl @gT))))) ?_; repeat clear hK K)
        (refine z_2 rfl rfl ?_; intro K1 hK1; refine stpF_a rfl ?_; simp only [go_sem]; (first | refine hK1 _ ?_ | refine andk (hK1 _ ?_)); clear hK1 K1)
        (refine z_2y rfl rfl rfl ?_; intro K1 hK1; refine stpY_ap rfl rfl rfl rfl (by first | rfl | simp only [rowsB, List.getD_cons_zero, List.getD_cons_succ, hne, List.isEmpty_cons, Bool.not_false, Bool.true_and, Bool.and_true, Bool.and_self]) rfl ?_; simp only [go_sem, tArcs_c, tArcs_len, half2, cArcs_snoc, cRowsO_get hgo]; (first | refine hK1 _ ?_ | refine andk (hK1 _ ?_)); clear hK1 K1)
        (refine zk1 (an @cRowsO_len @hol) ?_; repeat clear hK K)
        (refine z_3 rfl rfl rfl rfl ?_; intro K1 hK1; refine stp_ev rfl ?_; simp only [go_sem, cRowsO_len, List.length_set, set_two2, hol]; (first | refine hK1 _ ?_ | refine andk (hK1 _ ?_)); clear hK1 K1)
        refine z_nil ⟨by simp, by simp, ?_⟩
        (try simp only [ThenA, InBl])
        refine hK _ ?_
        clear hK K
        have hj6 : ((cRowsO o).set (f s) (C.s 6 (oc.length + 1)))[f s]? = some (.s 6 (oc.length + 1)) := by rw [List.getElem?_set_self (by rw [cRowsO_len]; omega)]
        have hset6 : ((cRowsO o).set (f s) (C.s 6 (oc.length + 1))).set (f s) (.o (2, 49) (tArcs (oc ++ [(e, (f tn : Int))]))) = cRowsO (o.set (f s) (oc ++ [(e, (f tn : Int))])) := by rw [set_two2, cRowsO_set]
        refine aw_le (le_sink (r := ⟨49, 2, true, cArcs (oc ++ [(e, (f tn : Int))])⟩) (ri := ⟨45, 1, true, (cRowsO o).set (f s) (C.s 6 (oc.length + 1))⟩) (ts := tArcs (oc ++ [(e, (f tn : Int))])) 2 (f s) 6 (oc.length + 1) (by decide) rfl hj6 rfl rfl (show 0 < 2 by omega) (by rw [cArcs_len]; simp) (fz_ca _)) ?_
        simp only [hset6, go_sem]
        (refine wk0 ?_;(repeat clear hK K);repeat refine kq fun K hK=>?_)
        refine rnz ?_
        refine hK _ (k + 1) (by omega) (by omega) ?_
        refine Le.trans (le_pick [0, 1, 2, 3] rfl rfl) ?_
        (try simp only [List.set_nil, List.take_nil, List.take_zero, List.map_append, go_sem])
        (try simp only [cBs_ren, cRowsO_ren])
        rw [hsn, hA]
        exact lmz
       ·have d4 : (e != 0) = true := by simpa using he
        (refine wk1 @d3 ?_;(repeat clear hK K);repeat refine kq fun K hK=>?_)
        refine cxz ?_
        (refine wks1 (an @hat (an @tArcs_len (an @half2 (an @d4 (an @tInts_len (an @hCl @gT)))))) ?_;(repeat clear hK K);repeat refine kq fun K hK=>?_)
        refine cxz ?_
        (refine wk0 ?_;(repeat clear hK K);repeat refine kq fun K hK=>?_)
        (refine aw_regionZ [] (.m 0 0 0 (.m 1 0 0 (.m 2 0 0 (.m 3 0 0 (.m 4 0 0 (.m 5 1 15 (.m 6 0 0 (.m 7 1 14 (.m 8 0 0 (.m 9 0 0 (.m 10 1 14 (.m 11 0 0 (.m 12 1 14 (.m 13 0 0 (.a 14 (.a 15 (.m 16 0 0 (.a 17 .e)))))))))))))))))) (by kernel_rfl) (by kernel_rfl) (by intro c st h; simp [ThenA, InBl, Ret] at h) ?_)
        (refine zk1 (an @cRowsO_len (an (cRowsO_get hgo) (an @hol (an @tInts_len (an @hCl @gT))))) ?_; repeat clear hK K)
        (refine z_2 rfl rfl ?_; intro K1 hK1; refine stpF_a rfl ?_; simp only [go_sem]; (first | refine hK1 _ ?_ | refine andk (hK1 _ ?_)); clear hK1 K1)
        (refine z_2y rfl rfl rfl ?_; intro K1 hK1; refine stpY_ap rfl rfl rfl rfl (by first | rfl | simp only [rowsB, List.getD_cons_zero, List.getD_cons_succ, hne, List.isEmpty_cons, Bool.not_false, Bool.true_and, Bool.and_true, Bool.and_self]) rfl ?_; simp only [go_sem, tArcs_c, tArcs_len, half2, cArcs_snoc, cRowsO_get hgo]; (first | refine hK1 _ ?_ | refine andk (hK1 _ ?_)); clear hK1 K1)
        (refine zk1 (an @cRowsO_len @hol) ?_; repeat clear hK K)
        (refine z_3 rfl rfl rfl rfl ?_; intro K1 hK1; refine stp_ev rfl ?_; simp only [go_sem, cRowsO_len, List.length_set, set_two2, hol]; (first | refine hK1 _ ?_ | refine andk (hK1 _ ?_)); clear hK1 K1)
        refine z_nil ⟨by simp, by simp, ?_⟩
        (try simp only [ThenA, InBl])
        refine hK _ ?_
        clear hK K
        have hj6 : ((cRowsO o).set (f s) (C.s 6 (oc.length + 1)))[f s]? = some (.s 6 (oc.length + 1)) := by rw [List.getElem?_set_self (by rw [cRowsO_len]; omega)]
        have hset6 : ((cRowsO o).set (f s) (C.s 6 (oc.length + 1))).set (f s) (.o (2, 49) (tArcs (oc ++ [(e, (f tn : Int))]))) = cRowsO (o.set (f s) (oc ++ [(e, (f tn : Int))])) := by rw [set_two2, cRowsO_set]
        refine aw_le (le_sink (r := ⟨49, 2, true, cArcs (oc ++ [(e, (f tn : Int))])⟩) (ri := ⟨45, 1, true, (cRowsO o).set (f s) (C.s 6 (oc.length + 1))⟩) (ts := tArcs (oc ++ [(e, (f tn : Int))])) 2 (f s) 6 (oc.length + 1) (by decide) rfl hj6 rfl rfl (show 0 < 2 by omega) (by rw [cArcs_len]; simp) (fz_ca _)) ?_
        simp only [hset6, go_sem]
        (refine wk0 ?_;(repeat clear hK K);repeat refine kq fun K hK=>?_)
        refine rnz ?_
        refine hK _ (k + 1) (by omega) (by omega) ?_
        refine Le.trans (le_pick [0, 1, 2, 3] rfl rfl) ?_
        (try simp only [List.set_nil, List.take_nil, List.take_zero, List.map_append, go_sem])
        (try simp only [cBs_ren, cRowsO_ren])
        rw [hsn, hA]
        exact lmz
      ·have hx : qp1 f (f s) (e, (tn : Int)) = none := by
        show (if e ≠ 0 ∨ f tn ≠ f s then some (e, (f tn : Int)) else none) = _
        rw [if_neg hq]
       have hA : pushO (qp1 f (f s) (e, (tn : Int))) (f s) o = o := by rw [hx]; rfl
       have he : e = 0 := Decidable.not_not.1 fun h => hq (.inl h)
       have hff : f tn = f s := Decidable.not_not.1 fun h => hq (.inr h)
       have d4 : (e != 0) = false := by simp [he]
       have d5 : ((f tn : Int) != (f s : Int)) = false := by simp [hff]
       (refine wk1 @d3 ?_;(repeat clear hK K);repeat refine kq fun K hK=>?_)
       refine cxz ?_
       (refine wks1 (an @hat (an @tArcs_len (an @half2 (an @d4 (an @d5 (an @tInts_len (an @hCl @gT))))))) ?_;(repeat clear hK K);repeat refine kq fun K hK=>?_)
       refine cyz ?_
       (refine wk0 ?_;(repeat clear hK K);repeat refine kq fun K hK=>?_)
       refine rnz ?_
       refine hK _ (k + 1) (by omega) (by omega) ?_
       refine Le.trans (le_pick [0, 1, 2, 3] rfl rfl) ?_
       (try simp only [List.set_nil, List.take_nil, List.take_zero, List.map_append, go_sem])
       (try simp only [cBs_ren, cRowsO_ren])
       rw [hsn, hA]
       exact lmz
     ·have d3 : decide ((k : Int) < (row.length : Int)) = false := by simpa using hlt3
      have hke3 : row.take k = row := List.take_of_length_le (by omega)
      rw [hke3, ← htl]
      (refine wk1 @d3 ?_;(repeat clear hK K);repeat refine kq fun K hK=>?_)
      refine cyz ?_
      (refine ekz ?_;repeat clear hK K)
      (refine wk0 ?_;(repeat clear hK K);repeat refine kq fun K hK=>?_)
      refine rnz ?_
      refine hK _ (s + 1) (by omega) (by omega) ?_
      exact lmz
  ·have d1 : decide ((s : Int) < (R.length : Int)) = false := by simpa using hlt
   have hse : s = R.length := by omega
   rw [hse] at d1
   rw [hse]
   (refine wk1 @d1 ?_;(repeat clear hK K);repeat refine kq fun K hK=>?_)
   refine cyz ?_
   (refine ekz ?_;repeat clear hK K)
   have hLl := lcL_len f m B R.length
   have hOl := qpOut_len f m R R.length
   have hOt := qpOut_tot f m R R.length (Nat.le_refl _)
   rw [List.take_length] at hOt
   generalize lcL f m B R.length = L at *
   generalize qpOut f m R R.length = O at *
   (refine aw_le (le_frz (r := ⟨4, 1, true, cBs L⟩) 3 (tBs L) rfl (fz_bs _) (show 0 < (1 : Nat) by omega)) ?_; simp only [ST.frz, A0.frz, AV.frz, C.frz, Nat.le_refl, List.set_cons_zero, List.set_cons_succ, go_sem, show (tBs L).take m = tBs L from List.take_of_length_le (by rw [tBs_len]; omega), tBs_len, hLl])
   (refine wk1 (an @tBs_len @hLl) ?_;(repeat clear hK K);repeat refine kq fun K hK=>?_)
   refine aw_le (le_pick [1, 2] rfl rfl) ?_
   (try simp only [List.set_nil, List.take_nil, List.take_zero, List.map_append, go_sem])
   (try simp only [cRowsO_ren])
   refine aw_loop (fun k : Nat => { tm := [(4, .a (.c (.p 0 0))), (7, .a (.c (.s 1 m))), (101, .a (.c (.t 1 (tBs L)))), (102, .i m), (103, .i k)], hp := [.r ⟨25, 1, false, [.v (.slice none 0 0)]⟩, .r ⟨45, 1, true, cRowsO (qlOut L O k)⟩], n := 130, pin := 0 }) (fun k => k ≤ m) (fun k => m - k) 0 ?_ ?_ ?_
   ·omega
   ·simp only [qlOut]
    exact lmz
   ·rintro k hk K hK
    by_cases hlk : k < m
    ·have d2 : decide ((k : Int) < (m : Int)) = true := by simpa using hlk
     have gL : (tBs L)[k]? = some (.v (.bool (L.getD k false))) := tBs_get (by rw [List.getD_eq_getElem?_getD, List.getElem?_eq_getElem (by omega)]; rfl)
     have hol := qlOut_len L O k
     have hot := qlOut_tot L O k
     have hsn : qlOut L O (k + 1) = pushO (lpO (L.getD k false) k) k (qlOut L O k) := rfl
     rw [hOl] at hol
     generalize qlOut L O k = o at *
     have hrw := totA_row o k
     have hgo : o[k]? = some (o.getD k []) := by
      rw [List.getD_eq_getElem?_getD, List.getElem?_eq_getElem (by omega)]; rfl
     cases hb : L.getD k false with
     | true =>
      rw [hb] at gL hsn
      have hA : pushO (lpO true k) k o = o.set k (o.getD k [] ++ [(0, (k : Int))]) := rfl
      generalize o.getD k [] = oc at *
      (refine wk1 @d2 ?_;(repeat clear hK K);repeat refine kq fun K hK=>?_)
      refine cxz ?_
      (refine wk1 (an @tBs_len (an @hLl @gL)) ?_;(repeat clear hK K);repeat refine kq fun K hK=>?_)
      refine cxz ?_
      (refine wks1 (an @cRowsO_len (an (cRowsO_get hgo) (an @hol (an @set_two2 (an @List.length_set.{0} (an @List.set_cons_zero.{0} (an @List.set_cons_succ.{0} (an @List.take_succ_cons.{0} (an @List.take_zero.{0} (an @List.drop_zero.{0} (an @List.length_take.{0} (an @List.length_drop.{0} (an @List.length_append.{0} (an @tArcs_len (an @half2 (an @tArcs_take (an @tArcs_drop (an @tArcs_c (an @cArcs_len (an @cArcs_one (an @cArcs_snoc (an @cArcs_app @cArcs_take)))))))))))))))))))))) ?_;(repeat clear hK K);repeat refine kq fun K hK=>?_)
      have hj6 : ((cRowsO o).set k (C.s 3 (oc.length + 1)))[k]? = some (.s 3 (oc.length + 1)) := by rw [List.getElem?_set_self (by rw [cRowsO_len]; omega)]
      have hset6 : ((cRowsO o).set k (C.s 3 (oc.length + 1))).set k (.o (2, 49) (tArcs (oc ++ [(0, (k : Int))]))) = cRowsO (o.set k (oc ++ [(0, (k : Int))])) := by rw [set_two2, cRowsO_set]
      refine rnz ?_
      refine hK _ (k + 1) (by omega) (by omega) ?_
      refine Le.trans (le_sink (r := ⟨49, 2, true, cArcs (oc ++ [(0, (k : Int))])⟩) (ri := ⟨45, 1, true, (cRowsO o).set k (C.s 3 (oc.length + 1))⟩) (ts := tArcs (oc ++ [(0, (k : Int))])) 1 k 3 (oc.length + 1) (by decide) rfl hj6 rfl rfl (show 0 < 2 by omega) (by rw [cArcs_len]; simp) (fz_ca _)) ?_
      simp only [hset6, go_sem]
      refine Le.trans (le_pick [0, 1] rfl rfl) ?_
      (try simp only [List.set_nil, List.take_nil, List.take_zero, List.map_append, go_sem])
      (try simp only [cRowsO_ren])
      rw [hsn, hA]
      exact lmz
     | false =>
      rw [hb] at gL hsn
      have hA : pushO (lpO false k) k o = o := rfl
      (refine wk1 @d2 ?_;(repeat clear hK K);repeat refine kq fun K hK=>?_)
      refine cxz ?_
      (refine wk1 (an @tBs_len (an @hLl @gL)) ?_;(repeat clear hK K);repeat refine kq fun K hK=>?_)
      refine cyz ?_
      (refine wk0 ?_;(repeat clear hK K);repeat refine kq fun K hK=>?_)
      refine rnz ?_
      refine hK _ (k + 1) (by omega) (by omega) ?_
      rw [hsn, hA]
      exact lmz
    ·have d2 : decide ((k : Int) < (m : Int)) = false := by simpa using hlk
     have hke : k = m := by omega
     rw [hke] at d2
     rw [hke]
     (refine wk1 @d2 ?_;(repeat clear hK K);repeat refine kq fun K hK=>?_)
     refine cyz ?_
     (refine ekz ?_;repeat clear hK K)
     obtain ⟨hql, hqb, hqt⟩ := hqR
     generalize qlOut L O m = T at *
     have hrT : ∀ r ∈ T, r.length ≤ 1000000 := fun r hr0 => by
      obtain ⟨j, hj, rfl⟩ := List.getElem_of_mem hr0
      have h := totA_row T j
      rw [List.getD_eq_getElem?_getD, List.getElem?_eq_getElem hj, Option.getD_some] at h
      omega
     have hco := fcanon_fc T (by omega) (fun r hr0 a ha => by have := hqb r hr0 a ha; exact ⟨this.2.2.1, this.2.2.2⟩) (by omega) hrT
     generalize hxe : (canonR T).1 = x at *
     refine aw_le (le_ot 1 rfl) ?_
     simp only [cRowsO_ot, go_sem]
     have htk : (tRows T).take m = tRows T := List.take_of_length_le (by rw [tRows_len]; omega)
     (refine aw_le (le_frz (r := ⟨45, 1, true, cRows T⟩) 1 (tRows T) rfl (fz_cr _) (show 0 < (1 : Nat) by omega)) ?_; simp only [ST.frz, A0.frz, AV.frz, C.frz, Nat.le_refl, List.set_cons_zero, List.set_cons_succ, go_sem, htk, tRows_len, hql])
     (refine wk0 ?_;(repeat clear hK K);repeat refine kq fun K hK=>?_)
     (refine ckz hco ?_; intro K1 hK1)
     intro r0 o0 h0
     by_cases ht : totA x ≤ 262144
     ·rw [fcR, if_pos ht] at h0
      obtain ⟨rfl, rfl⟩ := h0
      (refine bkz ?_; clear hK1 K1)
      (refine wks1 @Bool.not_true ?_;(repeat clear hK K);repeat refine kq fun K hK=>?_)
      refine cyz ?_
      (refine wks0 ?_;(repeat clear hK K);repeat refine kq fun K hK=>?_)
      refine rp0 [0] Tryz.results50 ?_
      refine hend _ _ ?_
      rw [hqe, hxe, quO, if_pos ht]
      exact ⟨rfl, rfl⟩
     ·rw [fcR, if_neg ht] at h0
      obtain ⟨rfl, rfl⟩ := h0
      (refine bkz ?_; clear hK1 K1)
      (refine wks1 @Bool.not_false ?_;(repeat clear hK K);repeat refine kq fun K hK=>?_)
      refine cxz ?_
      (refine wks0 ?_;(repeat clear hK K);repeat refine kq fun K hK=>?_)
      refine rp0 [0] Tryz.results50 ?_
      refine hend _ _ ?_
      rw [hqe, hxe, quO, if_neg ht]
      exact ⟨rfl, rfl⟩
def MtK {α : Type} (A : List (List Ar)) (kA : Nat → α) (B : List (List Ar)) (kB : Nat → α) : Prop :=
 ∀ s t, s < A.length → t < B.length → kA s = kB t → (Dv A s → Dv B t) ∧ ∀ a ∈ (satR A).getD s [], ∃ b ∈ (satR B).getD t [], b.1 = a.1 ∧ kB b.2.toNat = kA a.2.toNat
theorem sat_lt {R : List (List Ar)} (hv : valB R = true) (hn : R.length ≤ 100) {s : Nat} (hs : s < R.length) {a : Ar} (h : a ∈ (satR R).getD s []) : 0 ≤ a.2 ∧ a.2.toNat < R.length := by
 have hb := satR_bd hv hn
 have hm : (satR R).getD s [] ∈ satR R := by
  rw [List.getD_eq_getElem?_getD, List.getElem?_eq_getElem (by omega), Option.getD_some]
  exact List.getElem_mem _
 have := (hb.2 _ hm).2 a h
 omega
theorem cov_of {α : Type} {R : List (List Ar)} {k : Nat → α} (hv : valB R = true) (hn : R.length ≤ 100) (hk : MtK R k R k) {c : List Int} (ih : ∀ s t, s < R.length → t < R.length → k s = k t → c.getD s 0 = c.getD t 0) {s t : Nat} (hs : s < R.length) (ht : t < R.length) (h : k s = k t) : covB c ((satR R).getD s []) ((satR R).getD t []) = true := by
 unfold covB
 refine List.all_eq_true.2 fun a ha => ?_
 obtain ⟨b, hb, e1, e2⟩ := (hk s t hs ht h).2 a ha
 unfold hasB
 refine List.any_eq_true.2 ⟨b, hb, ?_⟩
 rw [e1, ih _ _ (sat_lt hv hn ht hb).2 (sat_lt hv hn hs ha).2 e2]
 simp
theorem MtK.le {α : Type} {R : List (List Ar)} {k : Nat → α} (hv : valB R = true) (hn : R.length ≤ 100) (hk : MtK R k R k) {c : List Int} (hc : DlC R c) {s t : Nat} (hs : s < R.length) (ht : t < R.length) (h : k s = k t) : c.getD s 0 = c.getD t 0 := by
 obtain ⟨B, hB, i, hi, -⟩ := hc
 have hb := satR_bd hv hn
 subst hi
 induction i generalizing s t with
 | zero =>
  show (dvC B R.length).getD s 0 = (dvC B R.length).getD t 0
  rw [dvC_get hs, dvC_get ht]
  have e : B.getD s false = B.getD t false := by
   rw [Bool.eq_iff_iff, hB.2 s hs, hB.2 t ht]
   exact ⟨(hk s t hs ht h).1, (hk t s ht hs h.symm).1⟩
  unfold dv0
  rw [e]
 | succ i ih =>
  have ih2 := fun s t hs ht h => ih (s := s) (t := t) hs ht h
  have e := (nmG_ok (ftS (satR R) (itS (satR R) (dvC B R.length) i)) (satR R).length).eq s t (by omega) (by omega)
  refine e.2 ?_
  unfold ftS
  rw [ih hs ht h, cov_iff.2 ⟨cov_of hv hn hk ih2 hs ht h, cov_of hv hn hk ih2 ht hs h.symm⟩]
theorem DlC.key {R : List (List Ar)} (hv : valB R = true) (hn : R.length ≤ 100) {c : List Int} (hc : DlC R c) : MtK R (fun s => c.getD s 0) R (fun s => c.getD s 0) := by
 obtain ⟨B, hB, i, hi, hf⟩ := hc
 have hb := satR_bd hv hn
 intro s t hs ht h
 simp only at h ⊢
 have e := (nmG_ok (ftS (satR R) c) (satR R).length).eq s t (by omega) (by omega)
 have e0 : (nmG (ftS (satR R) c) (satR R).length).1 = c := hf
 rw [e0] at e
 have e2 := congrArg Prod.snd (e.1 h)
 obtain ⟨c1, -⟩ := cov_iff.1 e2
 refine ⟨fun hd => ?_, fun a ha => ?_⟩
 ·have hdv : ∀ j, (itS (satR R) (dvC B R.length) j).getD s 0 = (itS (satR R) (dvC B R.length) j).getD t 0 → (dvC B R.length).getD s 0 = (dvC B R.length).getD t 0 := by
   intro j
   induction j with
   | zero => exact id
   | succ j ih => intro q; exact ih (congrArg Prod.fst (((nmG_ok (ftS (satR R) (itS (satR R) (dvC B R.length) j)) (satR R).length).eq s t (by omega) (by omega)).1 q))
  have q := hdv i (by rw [← hi]; exact h)
  rw [dvC_get hs, dvC_get ht] at q
  refine (hB.2 t ht).1 ?_
  have h2 := (hB.2 s hs).2 hd
  unfold dv0 at q
  rw [h2] at q
  generalize B.getD 0 false = x0 at q
  generalize B.getD t false = x1 at q ⊢
  revert q
  cases x0 <;> cases x1 <;> decide
 ·obtain ⟨b, hb2, hq⟩ := List.any_eq_true.1 (List.all_eq_true.1 c1 a ha)
  simp only [Bool.and_eq_true, beq_iff_eq] at hq
  exact ⟨b, hb2, hq.1, hq.2⟩
/-! Side by side. -/
/-! The quotient. -/
structure QuX (R X : List (List Ar)) (f kX : Nat → Nat) : Prop where
 inj : ∀ i j, i < X.length → j < X.length → kX i = kX j → i = j
 sur : ∀ j, j < X.length → ∃ s, s < R.length ∧ f s = kX j
 fw : ∀ s j, s < R.length → j < X.length → f s = kX j → ∀ b ∈ R.getD s [], (b.1 ≠ 0 ∨ f b.2.toNat ≠ f s) → ∃ i : Nat, i < X.length ∧ (b.1, (i : Int)) ∈ X.getD j [] ∧ kX i = f b.2.toNat
 bw : ∀ j (a : Ar), j < X.length → a ∈ X.getD j [] → ∃ i : Nat, i < X.length ∧ a.2 = (i : Int) ∧ ((∃ s, s < R.length ∧ f s = kX j ∧ ∃ b ∈ R.getD s [], b.1 = a.1 ∧ f b.2.toNat = kX i ∧ (a.1 ≠ 0 ∨ kX i ≠ kX j)) ∨ (a.1 = 0 ∧ i = j ∧ ∃ s, s < R.length ∧ f s = kX j ∧ Dv R s))
 lp : ∀ s j, s < R.length → j < X.length → f s = kX j → Dv R s → (0, (j : Int)) ∈ X.getD j []
section
variable {R X : List (List Ar)} {f kX : Nat → Nat}
end
theorem arcNe_s (x y : Operand) (a : Ar) : aggEq Tryz.prog .neq 49 x y [.int .i64 a.1, .int .i64 a.2] [.int .i64 a.1, .int .i64 a.2] false = True := by
 have h := arcNe_d x y a a
 rw [decide_eq_true (rfl : a = a)] at h
 exact h
theorem sameRow_fc (r : List Ar) (hn : r.length ≤ 1000000) : FC Tryz.prog 49 [.a (.c (.t 2 (tArcs r))), .a (.c (.t 2 (tArcs r)))] [] (fun x o => o = [] ∧ x = .b true) := by
 refine fc_intro Tryz.func49 rfl (by rw [Tryz.ntmps49]; simp) ?_
 rw [Tryz.ntmps49]
 simp only [enum]
 have d0 : ((r.length : Int) != (r.length : Int)) = false := by simp
 (refine wk1 (an @tArcs_len (an @half2 @d0)) ?_;(repeat clear hK K);repeat refine kq fun K hK=>?_)
 refine cyz ?_
 (refine wk0 ?_;(repeat clear hK K);repeat refine kq fun K hK=>?_)
 refine aw_loop (fun k : Nat => { tm := [(0, .a (.c (.t 2 (tArcs r)))), (1, .a (.c (.t 2 (tArcs r)))), (5, .i k)], hp := [], n := 26, pin := 0 }) (fun k => k ≤ r.length) (fun k => r.length - k) 0 ?_ ?_ ?_
 ·omega
 ·exact lmz
 ·rintro k hk K hK
  by_cases hlt : k < r.length
  ·have d1 : decide ((k : Int) < (r.length : Int)) = true := by simpa using hlt
   have hat := tArcs_at hlt
   have d2 : (!decide (r[k] = r[k])) = false := by simp
   (refine wk1 (an @d1 (an @tArcs_len @half2)) ?_;(repeat clear hK K);repeat refine kq fun K hK=>?_)
   refine cxz ?_
   (refine wk0 ?_;(repeat clear hK K);repeat refine kq fun K hK=>?_)
   (refine aw_regionU 8 [(0, 0), (1, 0), (2, 0), (3, 1), (4, 0), (5, 0), (6, 0), (7, 1), (8, 2)] (by kernel_rfl) (by kernel_rfl) (by intro c st h; simp [ThenA, InBl, Ret] at h) ?_)
   (repeat (first | ((first | refine u_0x rfl rfl rfl ?_ | refine u_1x rfl rfl rfl ?_); intro K1 hK1; simp only [go_sem, hat, tArcs_len, half2, arcNe_s, arcEq_b, decide_true, Bool.not_true, beq_self_eq_true, Bool.and_self, true_and]; (first | refine hK1 _ ?_ | refine andk (hK1 _ ?_)); clear hK1 K1) | (refine u_2x rfl rfl rfl rfl ?_; intro K1 hK1; simp only [go_sem, hat, tArcs_len, half2, arcNe_s, arcEq_b, decide_true, Bool.not_true, beq_self_eq_true, Bool.and_self, true_and]; (first | refine hK1 _ ?_ | refine andk (hK1 _ ?_)); clear hK1 K1) | (refine u_nil ?_; refine hK _ ?_; clear hK K)))
   refine cyz ?_
   (refine wk0 ?_;(repeat clear hK K);repeat refine kq fun K hK=>?_)
   refine rnz ?_
   refine hK _ (k + 1) (by omega) (by omega) ?_
   exact lmz
  ·have d1 : decide ((k : Int) < (r.length : Int)) = false := by simpa using hlt
   (refine wk1 (an @d1 (an @tArcs_len @half2)) ?_;(repeat clear hK K);repeat refine kq fun K hK=>?_)
   refine cyz ?_
   (refine ekz ?_;repeat clear hK K)
   (refine wk0 ?_;(repeat clear hK K);repeat refine kq fun K hK=>?_)
   exact rpc0 [] Tryz.results49
theorem same_fc (R : List (List Ar)) (hn : R.length ≤ 1000000) (hr : ∀ r ∈ R, r.length ≤ 1000000) : FC Tryz.prog 33 [aLts R, aLts R] [] (fun x o => o = [] ∧ x = .b true) := by
 refine fc_intro Tryz.func33 rfl (by rw [Tryz.ntmps33]; simp) ?_
 rw [Tryz.ntmps33]
 simp only [enum, aLts]
 have d0 : ((R.length : Int) != (R.length : Int)) = false := by simp
 (refine wk1 (an @tRows_len @d0) ?_;(repeat clear hK K);repeat refine kq fun K hK=>?_)
 refine cyz ?_
 (refine wk0 ?_;(repeat clear hK K);repeat refine kq fun K hK=>?_)
 refine aw_loop (fun k : Nat => { tm := [(2, .a (.c (.p 0 0))), (3, .a (.c (.p 1 0))), (5, .i k)], hp := [.r ⟨25, 1, false, [.t 1 (tRows R)]⟩, .r ⟨25, 1, false, [.t 1 (tRows R)]⟩], n := 32, pin := 0 }) (fun k => k ≤ R.length) (fun k => R.length - k) 0 ?_ ?_ ?_
 ·omega
 ·exact lmz
 ·rintro k hk K hK
  by_cases hlt : k < R.length
  ·have d1 : decide ((k : Int) < (R.length : Int)) = true := by simpa using hlt
   have hg := List.getElem?_eq_getElem hlt
   (refine wk1 (an @d1 @tRows_len) ?_;(repeat clear hK K);repeat refine kq fun K hK=>?_)
   refine cxz ?_
   (refine wk0 ?_;(repeat clear hK K);repeat refine kq fun K hK=>?_)
   (refine aw_regionU 10 [(0, 0), (1, 1), (2, 0), (3, 0), (4, 1), (5, 0), (6, 1), (7, 0), (8, 0), (9, 1), (10, 2), (11, 0)] (by kernel_rfl) (by kernel_rfl) (by intro c st h; simp [ThenA, InBl, Ret] at h) ?_)
   (refine uk1 (an @tRows_len (tRows_get hg)) ?_; repeat clear hK K)
   (refine uckz (sameRow_fc R[k] (hr _ (List.getElem_mem hlt))) ?_; intro K1 hK1)
   rintro _ _ ⟨rfl, rfl⟩
   (refine bkz ?_; clear hK1 K1)
   (refine uk1 @Bool.not_true ?_; repeat clear hK K)
   refine cyz ?_
   (refine wk0 ?_;(repeat clear hK K);repeat refine kq fun K hK=>?_)
   refine rnz ?_
   refine hK _ (k + 1) (by omega) (by omega) ?_
   exact lmz
  ·have d1 : decide ((k : Int) < (R.length : Int)) = false := by simpa using hlt
   (refine wk1 (an @d1 @tRows_len) ?_;(repeat clear hK K);repeat refine kq fun K hK=>?_)
   refine cyz ?_
   (refine ekz ?_;repeat clear hK K)
   (refine wk0 ?_;(repeat clear hK K);repeat refine kq fun K hK=>?_)
   exact rpc0 [] Tryz.results33
theorem nmGo_snoc (l : List Int) (c : Int) : ∀ m : Int, nmGo (l ++ [c]) m = (nmGo l m && (!decide (c < 0) && !decide (c > mxI m l))) := by
 induction l with
 | nil => intro m; simp [nmGo, mxI]
 | cons a r ih =>
  intro m
  have e : mxI m (a :: r) = mxI (mx1 m a) r := rfl
  simp only [List.cons_append, nmGo, ih, e, Bool.and_assoc]
theorem nm_num {α : Type} [DecidableEq α] (f : Nat → α) (k : Nat) : nmGo (nmG f k).1 0 = true ∧ mxI 0 (nmG f k).1 = ((nmG f k).2 : Int) := by
 induction k with
 | zero => exact ⟨rfl, rfl⟩
 | succ k ih =>
  have hr := (nmG_ok f k).rng
  rcases nm_cases f k with ⟨t, h1, h2, h3, h4⟩ | ⟨h3, h4⟩
  ·rw [h4]
   have := hr t h1
   generalize nmG f k = p at *
   simp only [nmGo_snoc, mxI_snoc, ih.1, ih.2, Bool.true_and, Bool.and_eq_true, Bool.not_eq_true', decide_eq_false_iff_not]
   refine ⟨by omega, ?_⟩
   unfold mx1
   rw [if_neg (by omega)]
  ·rw [h4]
   generalize nmG f k = p at *
   simp only [nmGo_snoc, mxI_snoc, ih.1, ih.2, Bool.true_and, Bool.and_eq_true, Bool.not_eq_true', decide_eq_false_iff_not]
   refine ⟨by omega, ?_⟩
   unfold mx1
   rw [if_pos (by omega)]
   omega
theorem Nrm.num {n : Nat} {c : List Int} (h : Nrm n c) : numB c n = true := by
 have h1 := (nm_num (fun s => c.getD s 0) n).1
 have hl := h.len
 unfold Nrm at h
 rw [h] at h1
 simp [numB, h1, hl]
theorem canonR_tot {R : List (List Ar)} (h : looB R = true) : totA (canonR R).1 ≤ totA R := by
 have hp : LooP R := of_decide_eq_true h
 have h1 := hp.1
 have hq := canGo_val (B := totA R) hp.2.2.2 R.length 0 _ _ [] R (NumOk.start h1) (NumInj.start h1) (NumSur.start h1) rfl (by simp) (by omega) ⟨by simp, by simp⟩ rfl (fun _ _ _ => rfl) (by simp [totA])
 exact hq.2.2.2
def cmO (x : List (List Ar)) (r : AV) (o : List Ob) : Prop := o = [.r ⟨25, 1, false, [.t 1 (tRows x)]⟩] ∧ r = .tup [.g [.t 1 (tRows x)], .c (.v (.int .i64 0))]
theorem quX_fc (R : List (List Ar)) (cl : List Int) (hv : valB R = true) (hC : numB cl R.length = true) (hn : R.length ≤ 100) (ht : totA R ≤ 1000) (hr : ∀ r ∈ R, r.length ≤ 1000000) : FC Tryz.prog 34 [aLts R, aInts cl] [] (fun r o => ∃ B, DvL R B ∧ cmO (canonR (qR R cl B)).1 r o) := by
 refine fc_intro Tryz.func34 rfl (by rw [Tryz.ntmps34]; simp) ?_
 rw [Tryz.ntmps34]
 simp only [enum, aLts, aInts]
 (refine wk0 ?_;(repeat clear hK K);repeat refine kq fun K hK=>?_)
 (refine ckz (quo_fc R cl hv hC (by omega) hr) ?_; intro K1 hK1)
 intro r0 o0 ⟨B, hB, h0⟩
 have hlo : looB R = true := decide_eq_true (of_decide_eq_true hv).1
 obtain ⟨b1, b2, b3⟩ := qR_bd (B := B) hlo hC
 have hm1 : 1 ≤ mxN cl := by have := ((num_ok hC).2.2.1 0 (of_decide_eq_true hlo).1).1; omega
 have hmn := (num_ok hC).2.1
 have hlq : looB (qR R cl B) = true := decide_eq_true ⟨by omega, by show (qR R cl B).length ≤ 16384; omega, by show totA (qR R cl B) ≤ 262144; omega, b2⟩
 have htX := canonR_tot hlq
 rw [quO, if_pos (by omega)] at h0
 have hend : ∀ r o, cmO (canonR (qR R cl B)).1 r o → ∃ B, DvL R B ∧ cmO (canonR (qR R cl B)).1 r o := fun r o h => ⟨B, hB, h⟩
 generalize (canonR (qR R cl B)).1 = x at *
 obtain ⟨rfl, rfl⟩ := h0
 (refine bkz ?_; clear hK1 K1)
 (refine wks0 ?_;(repeat clear hK K);repeat refine kq fun K hK=>?_)
 refine rp0 [1] Tryz.results34 ?_
 exact hend _ _ ⟨rfl, rfl⟩
set_option maxHeartbeats 1000000 in
theorem cmpr_fc (R : List (List Ar)) (hv : valB R = true) (hn : R.length ≤ 100) (ht : totA R ≤ 1000) (hr : ∀ r ∈ R, r.length ≤ 1000000) : FC Tryz.prog 31 [aLts R] [] (fun r o => ∃ c B, DlC R c ∧ Nrm R.length c ∧ DvL R B ∧ cmO (canonR (qR R c B)).1 r o) := by
 refine fc_intro Tryz.func31 rfl (by rw [Tryz.ntmps31]; simp) ?_
 rw [Tryz.ntmps31]
 simp only [enum, aLts]
 (refine wk0 ?_;(repeat clear hK K);repeat refine kq fun K hK=>?_)
 (refine aw_regionV [] [(0, 1, 3), (1, 1, 2), (2, 2, 0), (3, 2, 0), (4, 0, 0), (5, 0, 0), (6, 2, 0), (7, 2, 0)] (by kernel_rfl) (by kernel_rfl) (by intro c st h; simp [ThenA, InBl, Ret] at h) ?_)
 (refine vk0 ?_; repeat clear hK K)
 (refine v_2 rfl rfl ?_; intro K1 hK1; refine stpX_mono ?_; refine xv [] (dcl_fc R hv hn ht hr) ?_ ?_)
 ·rintro _ _ ⟨_, _, _, rfl, rfl⟩ i o hi hl; simp at hl
 rintro _ _ ⟨c, hc, hN, rfl, rfl⟩
 (refine bkz ?_; clear hK1 K1)
 (refine vk0 ?_; repeat clear hK K)
 (refine v_2 rfl rfl ?_; intro K1 hK1; refine stpX_mono ?_; refine xv [] (quX_fc R c hv hN.num hn ht hr) ?_ ?_)
 ·rintro _ _ ⟨_, _, rfl, rfl⟩ i o hi hl; simp at hl
 rintro _ _ ⟨B, hB, rfl, rfl⟩
 have hend : ∀ r o, cmO (canonR (qR R c B)).1 r o → ∃ c B, DlC R c ∧ Nrm R.length c ∧ DvL R B ∧ cmO (canonR (qR R c B)).1 r o := fun r o h => ⟨c, B, hc, hN, hB, h⟩
 generalize (canonR (qR R c B)).1 = x at *
 (refine bkz ?_; clear hK1 K1)
 (refine vk0 ?_; repeat clear hK K)
 (refine v_3 rfl rfl rfl ?_; intro K1 hK1; refine stp_ev rfl ?_; simp only [go_sem, ST.put, setC, A0.cells]; (first | refine hK1 _ ?_ | refine andk (hK1 _ ?_)); clear hK1 K1)
 (refine v_3 rfl rfl rfl ?_; intro K1 hK1; refine stp_ev rfl ?_; simp only [go_sem]; (first | refine hK1 _ ?_ | refine andk (hK1 _ ?_)); clear hK1 K1)
 (refine vk0 ?_; repeat clear hK K)
 (refine wk0 ?_;(repeat clear hK K);repeat refine kq fun K hK=>?_)
 refine rp0 [1] Tryz.results31 ?_
 exact hend _ _ ⟨rfl, rfl⟩
def sK : List (List Ar) := [[(0, 1)], [(2, 2)], []]
def sQ : List (List Ar) := [[(2, 1)], []]
theorem sK_val : valB sK = true := by kernel_rfl
theorem sK_adj : ∀ v w, w ∈ Adj true sK v → v = 0 ∧ w = 1
 | 0, w, h => by have e : Adj true sK 0 = [1] := rfl; rw [e] at h; simp at h; omega
 | 1, w, h => by have e : Adj true sK 1 = [] := rfl; rw [e] at h; simp at h
 | 2, w, h => by have e : Adj true sK 2 = [] := rfl; rw [e] at h; simp at h
 | n + 3, w, h => by have e : Adj true sK (n + 3) = [] := rfl; rw [e] at h; simp at h
theorem sK_rc {v u : Nat} (h : Rc (Adj true sK) v u) : u = v ∨ (v = 0 ∧ u = 1) := by
 induction h with
 | refl => exact .inl rfl
 | tail _ h2 ih => have := sK_adj _ _ h2; omega
theorem sK_dv (s : Nat) : ¬ Dv sK s := by
 rintro ⟨g, _, w, hw, hr⟩
 have := sK_adj _ _ hw
 have := sK_rc hr
 omega
theorem sK_B : DvL sK [false, false, false] := by
 refine ⟨rfl, fun s hs => ⟨fun h => ?_, fun h => absurd h (sK_dv s)⟩⟩
 match s, hs with
 | 0, _ => simp at h
 | 1, _ => simp at h
 | 2, _ => simp at h
theorem sK_01 : Rc (Adj true sK) 0 1 := .tail (.refl 0) (show 1 ∈ [1] by simp)
def sk (s : Nat) : Nat := if s ≤ 1 then 0 else 1
theorem sK_mt : MtK sK sk sK sk := by
 intro s t hs ht e
 have hs : s < 3 := hs
 have ht : t < 3 := ht
 refine ⟨fun d => absurd d (sK_dv s), fun a ha => ?_⟩
 by_cases he : s = t
 ·subst he; exact ⟨a, ha, rfl, rfl⟩
 have h2 : (s = 0 ∧ t = 1) ∨ (s = 1 ∧ t = 0) := by
  unfold sk at e
  split at e <;> split at e <;> omega
 rcases (mem_satR sK_val hs).1 ha with ⟨h0, u, hu, hr⟩ | ⟨h0, v, hr, hv⟩
 ·have hu2 := sK_rc hr
  have hk : sk a.2.toNat = 0 := by rw [hu]; unfold sk; rw [if_pos (by simp only [Int.toNat_natCast]; omega)]
  have hr1 : Rc (Adj true sK) t 1 := by
   rcases h2 with ⟨_, rfl⟩ | ⟨_, rfl⟩
   ·exact .refl 1
   ·exact sK_01
  exact ⟨(0, 1), (mem_satR sK_val ht).2 (.inl ⟨rfl, 1, rfl, hr1⟩), h0.symm, by rw [hk]; rfl⟩
 ·have hv2 := sK_rc hr
  have hv1 : v = 1 := by
   have : v = 0 ∨ v = 1 := by omega
   rcases this with rfl | rfl
   ·have e0 : sK.getD 0 [] = [(0, 1)] := rfl
    rw [e0] at hv
    simp at hv
    exact absurd (by rw [hv]) h0
   ·rfl
  subst hv1
  have hr1 : Rc (Adj true sK) t 1 := by
   rcases h2 with ⟨_, rfl⟩ | ⟨_, rfl⟩
   ·exact .refl 1
   ·exact sK_01
  exact ⟨a, (mem_satR sK_val ht).2 (.inr ⟨h0, 1, hr1, hv⟩), rfl, rfl⟩
theorem sK_c {c : List Int} (hc : DlC sK c) (hN : Nrm sK.length c) : c = [0, 0, 1] := by
 have h01 : c.getD 0 0 = c.getD 1 0 := sK_mt.le sK_val (by decide) hc (by decide) (by decide) rfl
 have h02 : c.getD 0 0 ≠ c.getD 2 0 := fun h => by
  obtain ⟨_, q⟩ := DlC.key sK_val (by decide) hc 0 2 (by decide) (by decide) h
  obtain ⟨b, hb, e1, _⟩ := q (2, 2) ((mem_satR sK_val (by decide)).2 (.inr ⟨by decide, 1, sK_01, by show (2, 2) ∈ [((2 : Int), (2 : Int))]; simp⟩))
  rcases (mem_satR sK_val (by decide)).1 hb with ⟨h0, _⟩ | ⟨h0, t, hr, ht⟩
  ·rw [h0] at e1; simp at e1
  ·have := sK_rc hr
   have : t = 2 := by omega
   subst this
   have e0 : sK.getD 2 [] = [] := rfl
   rw [e0] at ht
   simp at ht
 have hs3 : ∀ s, s < 3 → (c.getD s 0 = c.getD 0 0 ∧ sk s = 0) ∨ (c.getD s 0 = c.getD 2 0 ∧ sk s = 1)
  | 0, _ => .inl ⟨rfl, rfl⟩
  | 1, _ => .inl ⟨h01.symm, rfl⟩
  | 2, _ => .inr ⟨rfl, rfl⟩
 have e : nmG (fun s => c.getD s 0) 3 = nmG sk 3 := nmG_ext 3 fun s t hs ht => by
  rcases hs3 s hs with ⟨a1, a2⟩ | ⟨a1, a2⟩ <;> rcases hs3 t ht with ⟨b1, b2⟩ | ⟨b1, b2⟩ <;> rw [a1, b1, a2, b2]
  ·exact iff_of_true rfl rfl
  ·exact iff_of_false h02 (by decide)
  ·exact iff_of_false h02.symm (by decide)
  ·exact iff_of_true rfl rfl
 have h3 : (nmG (fun s => c.getD s 0) 3).1 = c := hN
 rw [← h3, e]
 rfl
theorem sK_q : (canonR (qR sK [0, 0, 1] [false, false, false])).1 = sQ := by kernel_rfl
theorem scm_fc : FC Tryz.prog 31 [aLts sK] [] (fun r o => o = [.r ⟨25, 1, false, [.t 1 (tRows sQ)]⟩] ∧ r = .tup [.g [.t 1 (tRows sQ)], .c (.v (.int .i64 0))]) :=
 (cmpr_fc sK sK_val (by decide) (by decide) (by decide)).mono fun r o ⟨c, B, hc, hN, hB, h⟩ => by
  rw [sK_c hc hN, hB.uniq sK_B, sK_q] at h
  exact h
theorem scl_fc : FC Tryz.prog 12 [aLts sK] [] (fun r o => o = [] ∧ r = aInts [0, 0, 1]) :=
 (dcl_fc sK sK_val (by decide) (by decide) (by decide)).mono fun r o ⟨c, hc, hN, h1, h2⟩ => by
  rw [sK_c hc hN] at h2
  exact ⟨h1, h2⟩
set_option maxHeartbeats 1000000 in
theorem schn_fc : FC Tryz.prog 32 [] [] (fun r o => o = [.r ⟨25, 1, false, [.t 1 (tRows sK)]⟩] ∧ r = aLts sK) := by
 refine fc_intro Tryz.func32 rfl (by rw [Tryz.ntmps32]; simp) ?_
 rw [Tryz.ntmps32]
 simp only [enum]
 (refine wks0 ?_;(repeat clear hK K);repeat refine kq fun K hK=>?_)
 refine aw_le (le_sink (r := ⟨49, 2, true, cArcs [(0, 1)]⟩) (ts := tArcs [(0, 1)]) 3 0 1 1 (by decide) rfl rfl rfl rfl (show 0 < 2 by omega) rfl (fz_ca _)) ?_
 simp only [go_sem]
 refine aw_le (le_sink (r := ⟨49, 2, true, cArcs [(2, 2)]⟩) (ts := tArcs [(2, 2)]) 3 1 2 1 (by decide) rfl rfl rfl rfl (show 0 < 2 by omega) rfl (fz_ca _)) ?_
 simp only [go_sem]
 refine aw_le (le_nt 3 [2, 2, 2] rfl) ?_
 simp only [ntA, otC, go_sem]
 refine aw_le (le_sink (r := ⟨45, 1, true, cRows sK⟩) (ri := ⟨25, 1, false, [.s 3 3]⟩) (ts := tRows sK) 0 0 3 3 (by decide) rfl rfl rfl rfl (show 0 < 1 by omega) rfl (fz_cr _)) ?_
 simp only [go_sem]
 refine aw_le (le_ot 0 rfl) ?_
 simp only [otC, go_sem]
 ((try refine aw_ret ?_); (try simp only [ThenA, InBl]); refine ret_le (le_pick [0] rfl rfl) ?_; (try simp only [List.set_nil, List.take_nil, List.take_zero, List.map_append, go_sem]); ((try refine aw_ret ?_); (try refine lst_nil ?_); (try simp only [ThenA, InBl]); refine ret_mk (by first | exact .inl rfl | exact .inr rfl) rfl ?_; simp only [rtn, resA, resL, resV, Tryz.results32, go_sem, true_and, and_true, aLts]))
set_option maxHeartbeats 2000000 in
theorem sane27d_fc : FC Tryz.prog 15 [] [] (fun r _ => r = .b true) := by
 refine fc_intro Tryz.func15 rfl (by rw [Tryz.ntmps15]; simp) ?_
 rw [Tryz.ntmps15]
 simp only [enum]
 have hcn := schn_fc
 have hsd := scm_fc
 have hcl := scl_fc
 have hsi := rints_fc [0, 0, 1] [0, 0, 1] (by decide) (by decide)
 have hsm := same_fc sQ (by decide) (by decide)
 simp only [aLts, aInts] at hcn hsd hcl hsi hsm
 (refine wk0 ?_;(repeat clear hK K);repeat refine kq fun K hK=>?_)
 (refine ckz hcn ?_; intro K1 hK1)
 rintro _ _ ⟨rfl, rfl⟩
 (refine bkz ?_; clear hK1 K1)
 (refine wk0 ?_;(repeat clear hK K);repeat refine kq fun K hK=>?_)
 (refine ckz hsd ?_; intro K1 hK1)
 rintro _ _ ⟨rfl, rfl⟩
 (refine bkz ?_; clear hK1 K1)
 (refine wks0 ?_;(repeat clear hK K);repeat refine kq fun K hK=>?_)
 (refine lst_goU rfl rfl (by simp only [go_sem] <;> rfl) ?_; intro K1 hK1; refine (stp_call0 (ids := []) (hcn) rfl rfl (by simp only [go_sem]) (by kernel_rfl) (by (simp only [List.append_nil, go_sem]) <;> rfl) ?_).stp)
 rintro _ _ ⟨rfl, rfl⟩
 (refine bkz ?_; clear hK1 K1)
 (refine wk0 ?_;(repeat clear hK K);repeat refine kq fun K hK=>?_)
 (refine lst_goU rfl rfl (by simp only [go_sem] <;> rfl) ?_; intro K1 hK1; refine (stp_call0 (ids := []) (hcl) rfl rfl (by simp only [go_sem]) (by kernel_rfl) (by (simp only [List.append_nil, go_sem]) <;> rfl) ?_).stp)
 rintro _ _ ⟨rfl, rfl⟩
 (refine bkz ?_; clear hK1 K1)
 (refine wks0 ?_;(repeat clear hK K);repeat refine kq fun K hK=>?_)
 (refine lst_le (le_frz (r := ⟨3, 1, true, cInts [0, 0, 1]⟩) 4 (tInts [0, 0, 1]) rfl (fz_c _) (show 0 < (1 : Nat) by omega)) ?_; simp only [ST.frz, A0.frz, AV.frz, C.frz, Nat.le_refl, List.set_cons_zero, List.set_cons_succ, go_sem, show (tInts [0, 0, 1]).take 3 = tInts [0, 0, 1] from rfl, show (if 3 ≤ (tInts [0, 0, 1]).length then C.t 1 (tInts [0, 0, 1]) else C.u) = C.t 1 (tInts [0, 0, 1]) from rfl])
 (refine lst_goU rfl rfl (by simp only [go_sem] <;> rfl) ?_; intro K1 hK1; refine (stp_call0 (ids := []) (hsi) rfl rfl (by simp only [go_sem]) (by kernel_rfl) (by (simp only [List.append_nil, go_sem]) <;> rfl) ?_).stp)
 rintro _ _ ⟨rfl, rfl⟩
 (refine bkz ?_; clear hK1 K1)
 (refine wks0 ?_;(repeat clear hK K);repeat refine kq fun K hK=>?_)
 refine lst_le (le_sink (r := ⟨49, 2, true, cArcs [(2, 1)]⟩) (ts := tArcs [(2, 1)]) 6 0 5 1 (by decide) rfl rfl rfl rfl (show 0 < 2 by omega) rfl (fz_ca _)) ?_
 simp only [go_sem]
 refine lst_le (le_nt 6 [2, 2] rfl) ?_
 simp only [ntA, otC, go_sem]
 (refine lst_le (le_frz (r := ⟨45, 1, true, cRows sQ⟩) 6 (tRows sQ) rfl (fz_cr _) (show 0 < (1 : Nat) by omega)) ?_; simp only [ST.frz, A0.frz, AV.frz, C.frz, Nat.le_refl, List.set_cons_zero, List.set_cons_succ, go_sem, show (tRows sQ).take 2 = tRows sQ from rfl, show (if 2 ≤ (tRows sQ).length then C.t 1 (tRows sQ) else C.u) = C.t 1 (tRows sQ) from rfl])
 (refine lst_goU rfl rfl (by simp only [go_sem] <;> rfl) ?_; intro K1 hK1; refine (stp_call0 (ids := []) (hsm) rfl rfl (by simp only [go_sem]) (by kernel_rfl) (by (simp only [List.append_nil, go_sem]) <;> rfl) ?_).stp)
 rintro _ _ ⟨rfl, rfl⟩
 (refine bkz ?_; clear hK1 K1)
 (refine wk0 ?_;(repeat clear hK K);repeat refine kq fun K hK=>?_)
 exact rqc0 Tryz.results15
end Go.Proofs.YtahnebicgbjonaaGreat
