/- ref28.TauLoops. -/
import Derived.Test.YthlckclbjknldaaGreatZk
import Derived.Test.YthlckclbjknldaaGreatG49
import Derived.Test.YthlckclbjknldaaGreatG44
import Derived.Test.YthlckclbjknldaaGreatMI
namespace Go.Proofs.YthlckclbjknldaaGreat
set_option linter.unusedVariables false
set_option linter.unusedSimpArgs false
open Go.RowKit
set_option maxRecDepth 100000
attribute [local go_sem] List.set_cons_zero List.set_cons_succ List.map_cons List.map_nil List.take_succ_cons List.take_zero List.drop_zero List.drop_succ_cons C.pl C.one List.all_cons List.all_nil Bool.and_true Nat.mul_one Int.toNat_natCast

set_option maxHeartbeats 8000000 in
theorem rtauL_fc (R : List (List Ar)) (hv : valB R = true) (h1 : 1 ≤ R.length) (hn : R.length ≤ 1000000) (hr : ∀ r ∈ R, r.length ≤ 1000000) : FC Tryz.prog 45 [aLts R] [] (fun r o => ∃ D : List Int, D.length = R.length ∧ (∀ v, v < R.length → Least (AdjF true R) v (fnL D (-1) v)) ∧ ∃ q, q = canonR (tiOut (clsN D) (ixS D R.length).2 R R.length) ∧ o = [.r ⟨25, 1, false, [.t 1 (tRows q.1)]⟩] ∧ r = .tup [.g [.t 1 (tRows q.1)], .c (.v (.int .i64 0))]) := by
 refine fc_intro Tryz.func45 rfl (by rw [Tryz.ntmps45]; simp) ?_
 rw [Tryz.ntmps45]
 simp only [enum, aLts]
 have hlo : looB R = true := decide_eq_true (of_decide_eq_true hv).1
 (refine wk0 ?_; (repeat clear hK K); repeat (refine Kq.mk ?_; intro K hK))
 (refine ckz (validR_fc R (by omega) (fun r h => by have := hr r h; omega)) ?_; intro K1 hK1)
 rintro _ _ ⟨rfl, rfl⟩
 (refine bkz ?_; clear hK1 K1)
 (refine wk1 (an @hv @Bool.not_true) ?_; (repeat clear hK K); repeat (refine Kq.mk ?_; intro K hK))
 refine cyz ?_
 (refine wk0 ?_; (repeat clear hK K); repeat (refine Kq.mk ?_; intro K hK))
 (refine ckz (compR_fc R true hv hn hr) ?_; intro K1 hK1)
 rintro _ _ ⟨D, hC, hL, rfl, rfl⟩
 (simp only [aInts, aSets, rInts, cInts_up, List.append_nil, List.nil_append, List.length_map, go_sem]; refine hK1 _ ?_; clear hK1 K1)
 have hrep := least_rep (by rw [adj_eq true hv]; exact adj_lt true hlo) hC hL
 (refine wk1 @tRows_len ?_; (repeat clear hK K); repeat (refine Kq.mk ?_; intro K hK))
 have e0 : List.replicate R.length (C.v (.int .i64 0)) = cInts (List.replicate R.length 0) := by simp [cInts]
 rw [e0]
 refine aw_loop (fun k : Nat => { tm := [(1, .a (.c (.p 0 0))), (2, .a (.c (.p 1 0))), (4, .a (.c (.s 2 R.length))), (5, .a (.c (.s 3 R.length))), (6, .i (ixS D k).2), (7, .i k)], hp := [.r ⟨25, 1, false, [.t 1 (tRows R)]⟩, .r ⟨25, 1, false, [.v (.slice none 0 0)]⟩, .r ⟨3, 1, true, cInts D⟩, .r ⟨3, 1, true, cInts (ixS D k).1⟩], n := 106, pin := 0 }) (fun k => k ≤ R.length) (fun k => R.length - k) 0 ?_ ?_ ?_
 ·omega
 ·simp only [ixS, hC]
  exact lmz
 ·rintro k hk K hK
  have hxl := ixS_len D k
  have hxk := ixS_le D k
  by_cases hlt : k < R.length
  ·have d1 : decide ((k : Int) < (R.length : Int)) = true := by simpa using hlt
   have gd : (cInts D)[k]? = some (.v (.int .i64 D[k])) := cInts_get (List.getElem?_eq_getElem (by omega))
   by_cases hq : D[k] = (k : Int)
   ·have d2 : (D[k] == (k : Int)) = true := by rw [hq]; simp
    have hs : ixS D (k + 1) = ((ixS D k).1.set k ((ixS D k).2 : Int), (ixS D k).2 + 1) := by
     rw [ixS, if_pos (by rw [List.getElem?_eq_getElem (by omega), hq])]
    (refine wk1 (an @d1 @tRows_len) ?_; (repeat clear hK K); repeat (refine Kq.mk ?_; intro K hK))
    refine cxz ?_
    (refine wk1 (an @gd (an @cInts_len (an @hC @d2))) ?_; (repeat clear hK K); repeat (refine Kq.mk ?_; intro K hK))
    refine cxz ?_
    (refine wks1 (an @cInts_len (an @hxl (an @hC @cInts_set))) ?_; (repeat clear hK K); repeat (refine Kq.mk ?_; intro K hK))
    refine rnz ?_
    refine hK _ (k + 1) (by omega) (by omega) ?_
    rw [hs]
    exact lmz
   ·have d2 : (D[k] == (k : Int)) = false := by simpa using hq
    have hs : ixS D (k + 1) = ixS D k := by
     rw [ixS, if_neg (by rw [List.getElem?_eq_getElem (by omega)]; simpa using hq)]
    (refine wk1 (an @d1 @tRows_len) ?_; (repeat clear hK K); repeat (refine Kq.mk ?_; intro K hK))
    refine cxz ?_
    (refine wk1 (an @gd (an @cInts_len (an @hC @d2))) ?_; (repeat clear hK K); repeat (refine Kq.mk ?_; intro K hK))
    refine cyz ?_
    (refine wk0 ?_; (repeat clear hK K); repeat (refine Kq.mk ?_; intro K hK))
    refine rnz ?_
    refine hK _ (k + 1) (by omega) (by omega) ?_
    rw [hs]
    exact lmz
  ·have d1 : decide ((k : Int) < (R.length : Int)) = false := by simpa using hlt
   have hke : k = R.length := by omega
   generalize hm : (ixS D k).2 = m at *
   generalize hx : (ixS D k).1 = ix at *
   rw [hke] at hm hx
   (refine wk1 (an @d1 @tRows_len) ?_; (repeat clear hK K); repeat (refine Kq.mk ?_; intro K hK))
   refine cyz ?_
   (refine ekz ?_; repeat clear hK K)
   obtain ⟨f, hf⟩ : ∃ f, f = clsN D := ⟨_, rfl⟩
   have hmle : m ≤ R.length := by omega
   have hcls : ∀ s, s < R.length → ∃ u : Nat, u < R.length ∧ D[s]? = some (u : Int) ∧ f s < m ∧ ix[u]? = some (f s : Int) := fun s hs => by
    rw [hf, ← hm, ← hx]; exact cls_ok hC hrep hs
   have hfm : ∀ v, v < R.length → f v < m := fun v hv => by obtain ⟨_, _, _, h, _⟩ := hcls v hv; exact h
   have hbd := (of_decide_eq_true hlo).2.2.2
   have htA : totA R ≤ 262144 := (of_decide_eq_true hlo).2.2.1
   (refine wks1 @tRows_len ?_; (repeat clear hK K); repeat (refine Kq.mk ?_; intro K hK))
   refine aw_le (le_ot 4 rfl) ?_
   have e1 : (List.replicate m (C.o (2, 40) [])).map otC = cRows (tiOut f m R 0) := by simp [cRows, tiOut, tArcs, otC]
   simp only [e1, go_sem]
   refine aw_loop (fun s : Nat => { tm := [(1, .a (.c (.p 0 0))), (2, .a (.c (.p 1 0))), (4, .a (.c (.s 2 R.length))), (5, .a (.c (.s 3 R.length))), (8, .a (.c (.p 5 0))), (9, .i s)], hp := [.r ⟨25, 1, false, [.t 1 (tRows R)]⟩, .r ⟨25, 1, false, [.v (.slice none 0 0)]⟩, .r ⟨3, 1, true, cInts D⟩, .r ⟨3, 1, true, cInts ix⟩, .r ⟨29, 1, true, cRows (tiOut f m R s)⟩, .r ⟨25, 1, false, [.s 4 m]⟩], n := 106, pin := 0 }) (fun s => s ≤ R.length) (fun s => R.length - s) 0 ?_ ?_ ?_
   ·omega
   ·exact lmz
   ·rintro s hs K hK
    by_cases hlt2 : s < R.length
    ·have d2 : decide ((s : Int) < (R.length : Int)) = true := by simpa using hlt2
     have hgR := List.getElem?_eq_getElem hlt2
     have hrl := hr _ (List.getElem_mem hlt2)
     obtain ⟨us, u1, u2, u3, u4⟩ := hcls s hlt2
     have gD := cInts_get u2
     have gI := cInts_get u4
     have htot := tiOut_tot f m R s hs
     have htl2 := totA_le R s
     have hto := totA_take hlt2
     have htl3 := totA_le R (s + 1)
     have hbs := hbd _ (List.getElem_mem hlt2)
     have htl : tiOut f m R (s + 1) = tiRow f (f s) (tiOut f m R s) R[s] := by
      rw [tiOut, List.getD_eq_getElem?_getD, hgR, Option.getD_some]
     generalize hrow : R[s] = row at *
     (refine wk1 (an @d2 @tRows_len) ?_; (repeat clear hK K); repeat (refine Kq.mk ?_; intro K hK))
     refine cxz ?_
     (refine wk1 (an @cInts_len (an @hC (an @hxl (an @gD @gI)))) ?_; (repeat clear hK K); repeat (refine Kq.mk ?_; intro K hK))
     refine aw_loop (fun k : Nat => { tm := [(1, .a (.c (.p 0 0))), (2, .a (.c (.p 1 0))), (4, .a (.c (.s 2 R.length))), (5, .a (.c (.s 3 R.length))), (8, .a (.c (.p 5 0))), (9, .i s), (10, .i (f s)), (11, .i k)], hp := [.r ⟨25, 1, false, [.t 1 (tRows R)]⟩, .r ⟨25, 1, false, [.v (.slice none 0 0)]⟩, .r ⟨3, 1, true, cInts D⟩, .r ⟨3, 1, true, cInts ix⟩, .r ⟨29, 1, true, cRows (tiRow f (f s) (tiOut f m R s) (row.take k))⟩, .r ⟨25, 1, false, [.s 4 m]⟩], n := 106, pin := 0 }) (fun k => k ≤ row.length) (fun k => row.length - k) 0 ?_ ?_ ?_
     ·omega
     ·simp only [List.take_zero, tiRow, List.foldl_nil]
      exact lmz
     ·rintro k hk K hK
      by_cases hlt3 : k < row.length
      ·have d3 : decide ((k : Int) < (row.length : Int)) = true := by simpa using hlt3
       have hat := tArcs_at hlt3
       have hb := hbs _ (List.getElem_mem hlt3)
       obtain ⟨e, tn, hya⟩ : ∃ (e : Int) (tn : Nat), row[k] = (e, (tn : Int)) := ⟨row[k].1, row[k].2.toNat, by
        have : (row[k].2.toNat : Int) = row[k].2 := by omega
        rw [this]⟩
       rw [hya] at hat hb
       have htn : tn < R.length := by have := hb.2.2.2; simp only at this; omega
       obtain ⟨ut, v1, v2, v3, v4⟩ := hcls tn htn
       have gDt := cInts_get v2
       have gIt := cInts_get v4
       have hol : (tiRow f (f s) (tiOut f m R s) (row.take k)).length = m := by rw [tiRow_len, tiOut_len]
       have hot : totA (tiRow f (f s) (tiOut f m R s) (row.take k)) ≤ 262144 := by
        refine Nat.le_trans (tiRow_tot f _ _ _) ?_
        simp; omega
       have hsn : tiRow f (f s) (tiOut f m R s) (row.take (k + 1)) = tiA f (f s) (tiRow f (f s) (tiOut f m R s) (row.take k)) (e, (tn : Int)) := by
        rw [List.take_succ_eq_append_getElem hlt3, tiRow_snoc, hya]
       generalize tiRow f (f s) (tiOut f m R s) (row.take k) = o at *
       have hrw := totA_row o (f s)
       have hgo : o[f s]? = some (o.getD (f s) []) := by
        rw [List.getD_eq_getElem?_getD, List.getElem?_eq_getElem (by omega)]; rfl
       have hA : tiA f (f s) o (e, (tn : Int)) = o.set (f s) (insA (e, (f tn : Int)) (o.getD (f s) [])) := rfl
       generalize o.getD (f s) [] = oc at *
       have gO := cRows_get hgo
       (refine wk1 (an @d3 (an @tRows_len (an (tRows_get hgR) (an @tArcs_len @half2)))) ?_; (repeat clear hK K); repeat (refine Kq.mk ?_; intro K hK))
       refine cxz ?_
       (refine wks1 (an @hat (an @tRows_len (an (tRows_get hgR) (an @tArcs_len @half2)))) ?_; (repeat clear hK K); repeat (refine Kq.mk ?_; intro K hK))
       (refine aw_regionV [] [(0, 0, 0), (2, 0, 0), (3, 0, 0), (5, 0, 0), (8, 0, 0), (10, 0, 0), (11, 0, 0), (12, 0, 0), (1, 1, 21), (4, 1, 19), (6, 0, 0), (7, 1, 19), (9, 1, 19), (13, 1, 19), (14, 0, 0), (15, 1, 19), (16, 0, 0), (17, 1, 19), (18, 0, 0), (19, 2, 0), (20, 0, 0), (21, 2, 0)] (by kernel_rfl) (by kernel_rfl) (by intro c st h; simp [ThenA, InBl, Ret] at h) ?_)
       (refine vk1 (an @cRows_len (an @gO (an @hol (an @cInts_len (an @hC (an @hxl (an @gDt @gIt))))))) ?_; repeat clear hK K)
       (refine v_2 rfl rfl ?_; intro K1 hK1; refine stpX_mono ?_; refine stpX_call (ids := []) [] (insT_fc oc (e, (f tn : Int)) (by omega)) rfl rfl (by simp only [go_sem]) (by kernel_rfl) rfl rfl rfl (by (simp only [List.map_append, List.append_nil, go_sem]) <;> rfl) (by (simp only [pkh, go_sem]) <;> rfl) ?_ ?_)
       ·rintro _ _ ⟨rfl, rfl⟩ i o hi hl; simp at hl
       rintro _ _ ⟨rfl, rfl⟩
       (simp only [aInts, aSets, aArcs, List.append_nil, List.nil_append, List.length_map, go_sem]; refine hK1 _ ?_; clear hK1 K1)
       (refine vk1 (an @cRows_len @hol) ?_; repeat clear hK K)
       (refine v_3 rfl rfl rfl ?_; intro K1 hK1; refine stp_ev rfl ?_; simp only [go_sem, cRows_len, hol, cRows_set, ST.put, setC, A0.cells]; (first | refine hK1 _ ?_ | refine andk (hK1 _ ?_)); clear hK1 K1)
       refine v_nil ⟨by simp, by simp, ?_⟩
       (try simp only [ThenA, InBl])
       refine hK _ ?_
       clear hK K
       (refine wk0 ?_; (repeat clear hK K); repeat (refine Kq.mk ?_; intro K hK))
       refine rnz ?_
       refine hK _ (k + 1) (by omega) (by omega) ?_
       refine Le.trans (le_pick [0, 1, 2, 3, 4, 5] rfl rfl) ?_
       (try simp only [List.set_nil, List.take_nil, List.take_zero, List.map_append, go_sem])
       (try simp only [cInts_ren, cRows_ren])
       rw [hsn, hA]
       exact lmz
      ·have d3 : decide ((k : Int) < (row.length : Int)) = false := by simpa using hlt3
       have hke3 : row.take k = row := List.take_of_length_le (by omega)
       rw [hke3, ← htl]
       (refine wk1 (an @d3 (an @tRows_len (an (tRows_get hgR) (an @tArcs_len @half2)))) ?_; (repeat clear hK K); repeat (refine Kq.mk ?_; intro K hK))
       refine cyz ?_
       (refine ekz ?_; repeat clear hK K)
       (refine wk0 ?_; (repeat clear hK K); repeat (refine Kq.mk ?_; intro K hK))
       refine rnz ?_
       refine hK _ (s + 1) (by omega) (by omega) ?_
       exact lmz
    ·have d2 : decide ((s : Int) < (R.length : Int)) = false := by simpa using hlt2
     have hse : s = R.length := by omega
     rw [hse] at d2
     rw [hse]
     (refine wk1 (an @d2 @tRows_len) ?_; (repeat clear hK K); repeat (refine Kq.mk ?_; intro K hK))
     refine cyz ?_
     (refine ekz ?_; repeat clear hK K)
     have hTl := tiOut_len f m R R.length
     have hTt := tiOut_tot f m R R.length (Nat.le_refl _)
     rw [List.take_length] at hTt
     have hTP := tiP (f := f) (m := m) (R := R) (fun r hr0 a ha => by
      have h := hbd r hr0 a ha
      exact ⟨h.1, h.2.1, hfm _ (by omega)⟩) R.length (Nat.le_refl _)
     generalize hT : tiOut f m R R.length = T at *
     have hm1 : 1 ≤ m := by have := hfm 0 (by omega); omega
     have hlT : looB T = true := by
      refine decide_eq_true ⟨by omega, ?_, ?_, ?_⟩
      ·have := (of_decide_eq_true hlo).2.1; omega
      ·have := (of_decide_eq_true hlo).2.2.1; omega
      ·rw [hTl]; exact hTP
     have hrT : ∀ r ∈ T, r.length ≤ 1000000 := fun r hr0 => by
      obtain ⟨j, hj, rfl⟩ := List.getElem_of_mem hr0
      have h := totA_row T j
      rw [List.getD_eq_getElem?_getD, List.getElem?_eq_getElem hj, Option.getD_some] at h
      omega
     have htk : (tRows T).take m = tRows T := List.take_of_length_le (by rw [tRows_len]; omega)
     refine aw_le (le_sink (r := ⟨29, 1, true, cRows T⟩) (ri := ⟨25, 1, false, [.s 4 m]⟩) (ts := tRows T) 5 0 4 m (by decide) rfl rfl rfl rfl (show 0 < 1 by omega) (by simp only [cRows_len, hTl]; omega) (fz_cr _)) ?_
     simp only [go_sem]
     refine aw_le (le_ot 5 rfl) ?_
     simp only [otC, go_sem]
     (refine wk0 ?_; (repeat clear hK K); repeat (refine Kq.mk ?_; intro K hK))
     (refine ckz (canonR_fc T hlT (by omega) hrT) ?_; intro K1 hK1)
     rintro _ _ ⟨rfl, rfl⟩
     (refine bkz ?_; clear hK1 K1)
     (refine wks0 ?_; (repeat clear hK K); repeat (refine Kq.mk ?_; intro K hK))
     ((try refine aw_ret ?_); (try simp only [ThenA, InBl]); refine ret_le (le_pick [1] rfl rfl) ?_; (try simp only [List.set_nil, List.take_nil, List.take_zero, List.map_append, go_sem]); ((try refine aw_ret ?_); (try refine lst_nil ?_); (try simp only [ThenA, InBl]); refine ret_mk (by first | exact .inl rfl | exact .inr rfl) rfl ?_; simp only [rtn, resA, resL, resV, Tryz.results45, go_sem, true_and, and_true]))
     exact ⟨D, hC, hL, canonR T, by rw [← hT, hf, hm], rfl, rfl⟩
theorem rtauL_no (R : List (List Ar)) (hv : valB R = false) (hn : R.length ≤ 140737488355328) (hr : ∀ r ∈ R, r.length ≤ 140737488355328) : FC Tryz.prog 45 [aLts R] [] (fun r o => o = [.r ⟨25, 1, false, [.v (.slice none 0 0)]⟩] ∧ r = .tup [.g [.v (.slice none 0 0)], .c (.v (.int .i64 1))]) := by
 refine fc_intro Tryz.func45 rfl (by rw [Tryz.ntmps45]; simp) ?_
 rw [Tryz.ntmps45]
 simp only [enum, aLts]
 (refine wk0 ?_; (repeat clear hK K); repeat (refine Kq.mk ?_; intro K hK))
 (refine ckz (validR_fc R hn hr) ?_; intro K1 hK1)
 rintro _ _ ⟨rfl, rfl⟩
 (refine bkz ?_; clear hK1 K1)
 (refine wk1 (an @hv @Bool.not_false) ?_; (repeat clear hK K); repeat (refine Kq.mk ?_; intro K hK))
 refine cxz ?_
 (refine wks0 ?_; (repeat clear hK K); repeat (refine Kq.mk ?_; intro K hK))
 ((try refine aw_ret ?_); (try simp only [ThenA, InBl]); refine ret_le (le_pick [1] rfl rfl) ?_; (try simp only [List.set_nil, List.take_nil, List.take_zero, List.map_append, go_sem]); ((try refine aw_ret ?_); (try refine lst_nil ?_); (try simp only [ThenA, InBl]); refine ret_mk (by first | exact .inl rfl | exact .inr rfl) rfl ?_; simp only [rtn, resA, resL, resV, Tryz.results45, go_sem, true_and, and_true]))
end Go.Proofs.YthlckclbjknldaaGreat
