/- ref25.SilentQuotient; both quotients are the same. flow.Walker.Targets. Add, by the machine. delay.Arrows, ref25.DelayArrows, law27.arrows. ref23.After, ref25.WeakArrows, Events. Numbering by first occurrence, and rounds of refinement, plain. Delay arrows of a system as rows, plain. The reference's weak arrows as rows, plain. -/
import Derived.Test.YtglchakimolfdaaGreatDoorZk
import Derived.Test.YtglchakimolfdaaGreatDoorG69
import Derived.Test.YtglchakimolfdaaGreatDoorG70
import Derived.Test.YtglchakimolfdaaGreatDoorG36
import Derived.Test.YtglchakimolfdaaGreatDoorFw1
import Derived.Test.YtglchakimolfdaaGreatDoorMF
import Derived.Test.YtglchakimolfdaaGreatDoorG45
namespace Go.Proofs.YtglchakimolfdaaGreatDoor
set_option linter.unusedVariables false
set_option linter.unusedSimpArgs false
open Go.RowKit
set_option maxRecDepth 100000
attribute [local go_sem] List.set_cons_zero List.set_cons_succ List.map_cons List.map_nil List.take_succ_cons List.take_zero List.drop_zero List.drop_succ_cons C.pl C.one List.all_cons List.all_nil Bool.and_true Nat.mul_one Int.toNat_natCast

theorem insO_tot (x : Option Ar) (c : Nat) (o : List (List Ar)) : totA (insO x c o) ≤ totA o + 1 := by
 cases x with
 | none => simp [insO]
 | some b =>
  unfold insO
  simp only
  by_cases h : c < o.length
  ·have h1 := totA_setE o c
   have h2 := totA_setE (o.set c (insA b (o.getD c []))) c
   have h3 := insA_len b (o.getD c [])
   rw [List.set_set, List.getD_eq_getElem?_getD (l := o.set c (insA b (o.getD c []))), List.getElem?_set_self h, Option.getD_some] at h2
   omega
  ·rw [List.set_eq_of_length_le (by omega)]; omega
theorem qiRow_tot (f : Nat → Nat) (c : Nat) (row : List Ar) : ∀ o, totA (qiRow f c o row) ≤ totA o + row.length := by
 induction row with
 | nil => intro o; exact Nat.le_refl _
 | cons a r ih =>
  intro o
  have h1 := ih (insO (qp1 f c a) c o)
  have h2 := insO_tot (qp1 f c a) c o
  show totA (qiRow f c (insO (qp1 f c a) c o) r) ≤ _
  simp only [List.length_cons]; omega
theorem qiOut_tot (f : Nat → Nat) (m : Nat) (R : List (List Ar)) (B : List Bool) : ∀ k, k ≤ R.length → totA (qiOut f m R B k) ≤ totA (R.take k) + k := by
 intro k
 induction k with
 | zero => intro _; rw [qiOut, totA_rep]; omega
 | succ k ih =>
  intro hk
  have h1 := ih (by omega)
  have h2 := totA_take (R := R) (k := k) hk
  have h3 := qiRow_tot f (f k) (R.getD k []) (qiOut f m R B k)
  have h5 := insO_tot (lpO (B.getD k false) (f k)) (f k) (qiRow f (f k) (qiOut f m R B k) (R.getD k []))
  have h4 : R.getD k [] = R[k] := by rw [List.getD_eq_getElem?_getD, List.getElem?_eq_getElem hk]; rfl
  rw [qiOut]
  rw [h4] at h3 h5 ⊢
  omega
theorem canon_loo {T : List (List Ar)} (h1 : 1 ≤ T.length) (h2 : T.length ≤ 16384) (hb : ∀ r ∈ T, ∀ a ∈ r, 0 ≤ a.1 ∧ a.1 ≤ 1025 ∧ 0 ≤ a.2 ∧ a.2 < (T.length : Int)) : looB (canonR T).1 = decide (totA (canonR T).1 ≤ 262144) ∧ (canonR T).1.length ≤ T.length := by
 obtain ⟨k1, k2, k3, k4⟩ := canGo_val (B := totA T) hb T.length 0 _ _ [] T (NumOk.start h1) (NumInj.start h1) (NumSur.start h1) rfl (by simp) (by omega) ⟨by simp, by simp⟩ rfl (fun _ _ _ => rfl) (by simp [totA])
 refine ⟨?_, k2⟩
 unfold looB
 rw [Bool.eq_iff_iff, decide_eq_true_iff, decide_eq_true_iff]
 constructor
 ·exact fun h => h.2.2.1
 ·exact fun h => ⟨k1, Nat.le_trans k2 h2, h, k3.bd⟩
theorem rquo_no (R : List (List Ar)) (cl : List Int) (h : valB R = false ∨ numB cl R.length = false) (hn : R.length ≤ 140737488355328) (hr : ∀ r ∈ R, r.length ≤ 140737488355328) (hC : cl.length ≤ 9223372036854775807) : FC Tryz.prog 38 [aLts R, aInts cl] [] (fun r o => o = [.r ⟨25, 1, false, [.v (.slice none 0 0)]⟩] ∧ r = .tup [.g [.v (.slice none 0 0)], .c (.v (.int .i64 1))]) := by
 refine fc_intro Tryz.func38 rfl (by rw [Tryz.ntmps38]; simp) ?_
 rw [Tryz.ntmps38]
 simp only [enum, aLts, aInts]
 (refine wk0 ?_;(repeat clear hK K);repeat refine kq fun K hK=>?_)
 (refine ckz (validR_fc R hn hr) ?_; intro K1 hK1)
 rintro _ _ ⟨rfl, rfl⟩
 (refine bkz ?_; clear hK1 K1)
 cases hv : valB R with
 | false =>
  (refine wk1 @Bool.not_false ?_;(repeat clear hK K);repeat refine kq fun K hK=>?_)
  refine cxz ?_
  (refine wks0 ?_;(repeat clear hK K);repeat refine kq fun K hK=>?_)
  exact rpc0 [1] Tryz.results38
 | true =>
  have h2 : numB cl R.length = false := h.resolve_left (by rw [hv]; simp)
  (refine wk1 (an @Bool.not_true @tRows_len) ?_;(repeat clear hK K);repeat refine kq fun K hK=>?_)
  (refine lst_goU rfl rfl (by simp only [go_sem] <;> rfl) ?_; intro K1 hK1; refine (stp_call0 (ids := []) (rnum_fc cl R.length hC) rfl rfl (by simp only [go_sem]) (by kernel_rfl) (by (simp only [List.append_nil, go_sem]) <;> rfl) ?_).stp)
  rintro _ _ ⟨rfl, rfl⟩
  (refine bkz ?_; clear hK1 K1)
  (refine wk1 (an @h2 @Bool.not_false) ?_;(repeat clear hK K);repeat refine kq fun K hK=>?_)
  refine cxz ?_
  (refine wks0 ?_;(repeat clear hK K);repeat refine kq fun K hK=>?_)
  exact rpc0 [1] Tryz.results38
set_option maxHeartbeats 8000000 in
theorem rquo_fc (R : List (List Ar)) (cl : List Int) (hv : valB R = true) (hC : numB cl R.length = true) (hn : R.length ≤ 1000000) (hr : ∀ r ∈ R, r.length ≤ 1000000) : FC Tryz.prog 38 [aLts R, aInts cl] [] (fun r o => ∃ B, DvL R B ∧ quO (canonR (qR R cl B)).1 r o) := by
 refine fc_intro Tryz.func38 rfl (by rw [Tryz.ntmps38]; simp) ?_
 rw [Tryz.ntmps38]
 simp only [enum, aLts, aInts]
 have hlo : looB R = true := decide_eq_true (of_decide_eq_true hv).1
 have h1 : 1 ≤ R.length := (of_decide_eq_true hlo).1
 have hR16 : R.length ≤ 16384 := (of_decide_eq_true hlo).2.1
 have htA : totA R ≤ 262144 := (of_decide_eq_true hlo).2.2.1
 have hbd := (of_decide_eq_true hlo).2.2.2
 obtain ⟨hCl, hmn, hcl, hmx⟩ := num_ok hC
 have hm1 : 1 ≤ mxN cl := by have := (hcl 0 (by omega)).1; omega
 have hcb : ∀ c ∈ cl, 0 ≤ c ∧ c ≤ 140737488355328 := fun c hc => by
  obtain ⟨i, hi, rfl⟩ := List.getElem_of_mem hc
  obtain ⟨q1, q2⟩ := hcl i (by omega)
  rw [List.getElem?_eq_getElem hi] at q2
  injection q2 with q2
  omega
 (refine wk0 ?_;(repeat clear hK K);repeat refine kq fun K hK=>?_)
 (refine ckz (validR_fc R (by omega) (fun r h => by have := hr r h; omega)) ?_; intro K1 hK1)
 rintro _ _ ⟨rfl, rfl⟩
 (refine bkz ?_; clear hK1 K1)
 (refine wk1 (an @hv (an @Bool.not_true @tRows_len)) ?_;(repeat clear hK K);repeat refine kq fun K hK=>?_)
 (refine lst_goU rfl rfl (by simp only [go_sem] <;> rfl) ?_; intro K1 hK1; refine (stp_call0 (ids := []) (rnum_fc cl R.length (by omega)) rfl rfl (by simp only [go_sem]) (by kernel_rfl) (by (simp only [List.append_nil, go_sem]) <;> rfl) ?_).stp)
 rintro _ _ ⟨rfl, rfl⟩
 (refine bkz ?_; clear hK1 K1)
 (refine wk1 (an @hC @Bool.not_true) ?_;(repeat clear hK K);repeat refine kq fun K hK=>?_)
 refine cyz ?_
 (refine wk0 ?_;(repeat clear hK K);repeat refine kq fun K hK=>?_)
 (refine ckz (rdvgT_fc R hv hn hr) ?_; intro K1 hK1)
 rintro _ _ ⟨B, hB, rfl, rfl⟩
 (refine bkz ?_; clear hK1 K1)
 have hBl := hB.1
 have hB2 : ∀ s, s < R.length → B[s]? = some (B.getD s false) := fun s hs => by rw [List.getD_eq_getElem?_getD, List.getElem?_eq_getElem (by omega)]; rfl
 have hend : ∀ r o, quO (canonR (qR R cl B)).1 r o → ∃ B, DvL R B ∧ quO (canonR (qR R cl B)).1 r o := fun r o h => ⟨B, hB, h⟩
 have hqc := q_canon (B := B) hC
 rw [← hqc] at hend
 (refine wk0 ?_;(repeat clear hK K);repeat refine kq fun K hK=>?_)
 (refine ckz (count_fc cl (by omega) hcb) ?_; intro K1 hK1)
 rintro _ _ ⟨rfl, rfl⟩
 (refine bkz ?_; clear hK1 K1)
 rw [hmx]
 generalize hm : mxN cl = m at *
 generalize hf : clf cl = f at *
 (refine wks0 ?_;(repeat clear hK K);repeat refine kq fun K hK=>?_)
 have hfm : ∀ v, v < R.length → f v < m := fun v hv => (hcl v hv).1
 refine aw_le (le_ot 2 rfl) ?_
 have e1 : (List.replicate m (C.o (2, 44) [])).map otC = cRows (qiOut f m R B 0) := by simp [cRows, qiOut, tArcs, otC]
 simp only [e1, go_sem]
 refine aw_loop (fun s : Nat => { tm := [(1, .a (.c (.t 1 (tInts cl)))), (2, .a (.c (.p 0 0))), (4, .a (.c (.p 1 0))), (6, .a (.c (.t 1 (tBs B)))), (7, .a (.c (.p 3 0))), (8, .i s)], hp := [.r ⟨25, 1, false, [.t 1 (tRows R)]⟩, .r ⟨25, 1, false, [.v (.slice none 0 0)]⟩, .r ⟨45, 1, true, cRows (qiOut f m R B s)⟩, .r ⟨25, 1, false, [.s 2 m]⟩], n := 117, pin := 0 }) (fun s => s ≤ R.length) (fun s => R.length - s) 0 ?_ ?_ ?_
 ·omega
 ·exact lmz
 ·rintro s hs K hK
  by_cases hlt : s < R.length
  ·have d1 : decide ((s : Int) < (R.length : Int)) = true := by simpa using hlt
   have hgR := List.getElem?_eq_getElem hlt
   have hrl := hr _ (List.getElem_mem hlt)
   obtain ⟨hfs, hgs⟩ := hcl s hlt
   have gC := tInts_get hgs
   have gB := tBs_get (hB2 s hlt)
   have htot := qiOut_tot f m R B s hs
   have hto := totA_take hlt
   have htl3 := totA_le R (s + 1)
   have hbs := hbd _ (List.getElem_mem hlt)
   have htl : qiOut f m R B (s + 1) = insO (lpO (B.getD s false) (f s)) (f s) (qiRow f (f s) (qiOut f m R B s) R[s]) := by
    rw [qiOut, List.getD_eq_getElem?_getD, List.getD_eq_getElem?_getD, hgR, Option.getD_some]
   generalize hrow : R[s] = row at *
   (refine wk1 (an @d1 @tRows_len) ?_;(repeat clear hK K);repeat refine kq fun K hK=>?_)
   refine cxz ?_
   (refine wk1 (an @tInts_len (an @hCl @gC)) ?_;(repeat clear hK K);repeat refine kq fun K hK=>?_)
   refine aw_loop (fun k : Nat => { tm := [(1, .a (.c (.t 1 (tInts cl)))), (2, .a (.c (.p 0 0))), (4, .a (.c (.p 1 0))), (6, .a (.c (.t 1 (tBs B)))), (7, .a (.c (.p 3 0))), (8, .i s), (9, .i (f s)), (10, .i k)], hp := [.r ⟨25, 1, false, [.t 1 (tRows R)]⟩, .r ⟨25, 1, false, [.v (.slice none 0 0)]⟩, .r ⟨45, 1, true, cRows (qiRow f (f s) (qiOut f m R B s) (row.take k))⟩, .r ⟨25, 1, false, [.s 2 m]⟩], n := 117, pin := 0 }) (fun k => k ≤ row.length) (fun k => row.length - k) 0 ?_ ?_ ?_
   ·omega
   ·simp only [List.take_zero, qiRow, List.foldl_nil]
    exact lmz
   ·rintro k hk K hK
    by_cases hlt3 : k < row.length
    ·have d3 : decide ((k : Int) < (row.length : Int)) = true := by simpa using hlt3
     have hat := tArcs_at hlt3
     have hb := hbs _ (List.getElem_mem hlt3)
     have hsn := qiRow_snoc f (f s) (qiOut f m R B s) (row.take k) row[k]
     rw [← List.take_succ_eq_append_getElem hlt3] at hsn
     generalize row[k] = a at *
     obtain ⟨e, t⟩ := a
     simp only at hat hb
     obtain ⟨_, _, ht0, ht1⟩ := hb
     obtain ⟨tn, rfl⟩ : ∃ tn : Nat, t = (tn : Int) := ⟨t.toNat, by omega⟩
     have htn : tn < R.length := by omega
     obtain ⟨hft, hgt⟩ := hcl tn htn
     have gT := tInts_get hgt
     have hol : (qiRow f (f s) (qiOut f m R B s) (row.take k)).length = m := by rw [qiRow_len, qiOut_len]
     have hot := qiRow_tot f (f s) (row.take k) (qiOut f m R B s)
     rw [List.length_take] at hot
     generalize qiRow f (f s) (qiOut f m R B s) (row.take k) = o at *
     have hrw := totA_row o (f s)
     have hgo : o[f s]? = some (o.getD (f s) []) := by
      rw [List.getD_eq_getElem?_getD, List.getElem?_eq_getElem (by omega)]; rfl
     have gO := cRows_get hgo
     (refine wk1 (an @d3 (an @tRows_len (an (tRows_get hgR) (an @tArcs_len @half2)))) ?_;(repeat clear hK K);repeat refine kq fun K hK=>?_)
     refine cxz ?_
     by_cases hq : e ≠ 0 ∨ f tn ≠ f s
     ·have hx : qp1 f (f s) (e, (tn : Int)) = some (e, (f tn : Int)) := by
       show (if e ≠ 0 ∨ f tn ≠ f s then some (e, (f tn : Int)) else none) = _
       rw [if_pos hq]
      have hA : insO (qp1 f (f s) (e, (tn : Int))) (f s) o = o.set (f s) (insA (e, (f tn : Int)) (o.getD (f s) [])) := by rw [hx]; rfl
      generalize o.getD (f s) [] = oc at *
      have hpick : (e != 0) = true ∨ ((e != 0) = false ∧ ((f tn : Int) != (f s : Int)) = true) := by
       by_cases he : e = 0
       ·right
        refine ⟨by simp [he], ?_⟩
        have := hq.resolve_left (by simp [he])
        simp; omega
       ·left; simpa using he
      rcases hpick with d4 | ⟨d4, d5⟩
      ·(refine wks1 (an @hat (an @tRows_len (an (tRows_get hgR) (an @tArcs_len (an @half2 @d4))))) ?_;(repeat clear hK K);repeat refine kq fun K hK=>?_)
       refine cxz ?_
       (refine wk0 ?_;(repeat clear hK K);repeat refine kq fun K hK=>?_)
       (refine aw_regionV [] [(0, 0, 0), (2, 0, 0), (3, 0, 0), (5, 0, 0), (8, 0, 0), (10, 0, 0), (11, 0, 0), (1, 1, 18), (4, 1, 16), (6, 0, 0), (7, 1, 16), (9, 1, 16), (12, 1, 16), (13, 0, 0), (14, 1, 16), (15, 0, 0), (16, 2, 0), (17, 0, 0), (18, 2, 0)] (by kernel_rfl) (by kernel_rfl) (by intro c st h; simp [ThenA, InBl, Ret] at h) ?_)
       (refine vk1 (an @cRows_len (an @gO (an @hol (an @tInts_len (an @hCl @gT))))) ?_; repeat clear hK K)
       (refine v_2 rfl rfl ?_; intro K1 hK1; refine stpX_mono ?_; refine xv [] (insT_fc oc (e, (f tn : Int)) (by omega)) ?_ ?_)
       ·rintro _ _ ⟨rfl, rfl⟩ i o hi hl; simp at hl
       rintro _ _ ⟨rfl, rfl⟩
       (simp only [aInts, aSets, aArcs, List.append_nil, List.nil_append, List.length_map, go_sem]; refine hK1 _ ?_; clear hK1 K1)
       (refine vk1 (an @cRows_len @hol) ?_; repeat clear hK K)
       (refine v_3 rfl rfl rfl ?_; intro K1 hK1; refine stp_ev rfl ?_; simp only [go_sem, cRows_len, hol, cRows_set, ST.put, setC, A0.cells]; (first | refine hK1 _ ?_ | refine andk (hK1 _ ?_)); clear hK1 K1)
       refine v_nil ⟨by simp, by simp, ?_⟩
       (try simp only [ThenA, InBl])
       refine hK _ ?_
       clear hK K
       (refine wk0 ?_;(repeat clear hK K);repeat refine kq fun K hK=>?_)
       refine rnz ?_
       refine hK _ (k + 1) (by omega) (by omega) ?_
       refine Le.trans (le_pick [0, 1, 2, 3] rfl rfl) ?_
       (try simp only [List.set_nil, List.take_nil, List.take_zero, List.map_append, go_sem])
       (try simp only [cRows_ren])
       rw [hsn, hA]
       exact lmz
      ·(refine wks1 (an @hat (an @tRows_len (an (tRows_get hgR) (an @tArcs_len (an @half2 (an @d4 (an @d5 (an @tInts_len (an @hCl @gT))))))))) ?_;(repeat clear hK K);repeat refine kq fun K hK=>?_)
       refine cxz ?_
       (refine wk0 ?_;(repeat clear hK K);repeat refine kq fun K hK=>?_)
       (refine aw_regionV [] [(0, 0, 0), (2, 0, 0), (3, 0, 0), (5, 0, 0), (8, 0, 0), (10, 0, 0), (11, 0, 0), (1, 1, 18), (4, 1, 16), (6, 0, 0), (7, 1, 16), (9, 1, 16), (12, 1, 16), (13, 0, 0), (14, 1, 16), (15, 0, 0), (16, 2, 0), (17, 0, 0), (18, 2, 0)] (by kernel_rfl) (by kernel_rfl) (by intro c st h; simp [ThenA, InBl, Ret] at h) ?_)
       (refine vk1 (an @cRows_len (an @gO (an @hol (an @tInts_len (an @hCl @gT))))) ?_; repeat clear hK K)
       (refine v_2 rfl rfl ?_; intro K1 hK1; refine stpX_mono ?_; refine xv [] (insT_fc oc (e, (f tn : Int)) (by omega)) ?_ ?_)
       ·rintro _ _ ⟨rfl, rfl⟩ i o hi hl; simp at hl
       rintro _ _ ⟨rfl, rfl⟩
       (simp only [aInts, aSets, aArcs, List.append_nil, List.nil_append, List.length_map, go_sem]; refine hK1 _ ?_; clear hK1 K1)
       (refine vk1 (an @cRows_len @hol) ?_; repeat clear hK K)
       (refine v_3 rfl rfl rfl ?_; intro K1 hK1; refine stp_ev rfl ?_; simp only [go_sem, cRows_len, hol, cRows_set, ST.put, setC, A0.cells]; (first | refine hK1 _ ?_ | refine andk (hK1 _ ?_)); clear hK1 K1)
       refine v_nil ⟨by simp, by simp, ?_⟩
       (try simp only [ThenA, InBl])
       refine hK _ ?_
       clear hK K
       (refine wk0 ?_;(repeat clear hK K);repeat refine kq fun K hK=>?_)
       refine rnz ?_
       refine hK _ (k + 1) (by omega) (by omega) ?_
       refine Le.trans (le_pick [0, 1, 2, 3] rfl rfl) ?_
       (try simp only [List.set_nil, List.take_nil, List.take_zero, List.map_append, go_sem])
       (try simp only [cRows_ren])
       rw [hsn, hA]
       exact lmz
     ·have hx : qp1 f (f s) (e, (tn : Int)) = none := by
       show (if e ≠ 0 ∨ f tn ≠ f s then some (e, (f tn : Int)) else none) = _
       rw [if_neg hq]
      have hA : insO (qp1 f (f s) (e, (tn : Int))) (f s) o = o := by rw [hx]; rfl
      have he : e = 0 := Decidable.not_not.1 fun h => hq (.inl h)
      have hff : f tn = f s := Decidable.not_not.1 fun h => hq (.inr h)
      have d4 : (e != 0) = false := by simp [he]
      have d5 : ((f tn : Int) != (f s : Int)) = false := by simp [hff]
      (refine wks1 (an @hat (an @tRows_len (an (tRows_get hgR) (an @tArcs_len (an @half2 (an @d4 (an @d5 (an @tInts_len (an @hCl @gT))))))))) ?_;(repeat clear hK K);repeat refine kq fun K hK=>?_)
      refine cyz ?_
      (refine wk0 ?_;(repeat clear hK K);repeat refine kq fun K hK=>?_)
      refine rnz ?_
      refine hK _ (k + 1) (by omega) (by omega) ?_
      refine Le.trans (le_pick [0, 1, 2, 3] rfl rfl) ?_
      (try simp only [List.set_nil, List.take_nil, List.take_zero, List.map_append, go_sem])
      (try simp only [cRows_ren])
      rw [hsn, hA]
      exact lmz
    ·have d3 : decide ((k : Int) < (row.length : Int)) = false := by simpa using hlt3
     have hke3 : row.take k = row := List.take_of_length_le (by omega)
     rw [hke3]
     have hol : (qiRow f (f s) (qiOut f m R B s) row).length = m := by rw [qiRow_len, qiOut_len]
     have hot := qiRow_tot f (f s) row (qiOut f m R B s)
     generalize qiRow f (f s) (qiOut f m R B s) row = o at *
     have hrw := totA_row o (f s)
     have hgo : o[f s]? = some (o.getD (f s) []) := by
      rw [List.getD_eq_getElem?_getD, List.getElem?_eq_getElem (by omega)]; rfl
     have gO := cRows_get hgo
     (refine wk1 (an @d3 (an @tRows_len (an (tRows_get hgR) (an @tArcs_len @half2)))) ?_;(repeat clear hK K);repeat refine kq fun K hK=>?_)
     refine cyz ?_
     (refine ekz ?_;repeat clear hK K)
     cases hbs2 : B.getD s false with
     | true =>
      rw [hbs2] at gB htl
      have hA : insO (lpO true (f s)) (f s) o = o.set (f s) (insA (0, (f s : Int)) (o.getD (f s) [])) := rfl
      rw [hA] at htl
      generalize o.getD (f s) [] = oc at *
      (refine wk1 (an @tBs_len (an @hBl @gB)) ?_;(repeat clear hK K);repeat refine kq fun K hK=>?_)
      refine cxz ?_
      (refine wk0 ?_;(repeat clear hK K);repeat refine kq fun K hK=>?_)
      (refine aw_regionV [] [(0, 0, 0), (2, 0, 0), (3, 0, 0), (5, 0, 0), (8, 0, 0), (9, 0, 0), (1, 1, 12), (4, 1, 10), (6, 0, 0), (7, 1, 10), (10, 2, 0), (11, 0, 0), (12, 2, 0)] (by kernel_rfl) (by kernel_rfl) (by intro c st h; simp [ThenA, InBl, Ret] at h) ?_)
      (refine vk1 (an @cRows_len (an @gO @hol)) ?_; repeat clear hK K)
      (refine v_2 rfl rfl ?_; intro K1 hK1; refine stpX_mono ?_; refine xv [] (insT_fc oc (0, (f s : Int)) (by omega)) ?_ ?_)
      ·rintro _ _ ⟨rfl, rfl⟩ i o hi hl; simp at hl
      rintro _ _ ⟨rfl, rfl⟩
      (simp only [aInts, aSets, aArcs, List.append_nil, List.nil_append, List.length_map, go_sem]; refine hK1 _ ?_; clear hK1 K1)
      (refine vk1 (an @cRows_len @hol) ?_; repeat clear hK K)
      (refine v_3 rfl rfl rfl ?_; intro K1 hK1; refine stp_ev rfl ?_; simp only [go_sem, cRows_len, hol, cRows_set, ST.put, setC, A0.cells]; (first | refine hK1 _ ?_ | refine andk (hK1 _ ?_)); clear hK1 K1)
      refine v_nil ⟨by simp, by simp, ?_⟩
      (try simp only [ThenA, InBl])
      refine hK _ ?_
      clear hK K
      (refine wk0 ?_;(repeat clear hK K);repeat refine kq fun K hK=>?_)
      refine rnz ?_
      refine hK _ (s + 1) (by omega) (by omega) ?_
      refine Le.trans (le_pick [0, 1, 2, 3] rfl rfl) ?_
      (try simp only [List.set_nil, List.take_nil, List.take_zero, List.map_append, go_sem])
      (try simp only [cRows_ren])
      rw [htl]
      exact lmz
     | false =>
      rw [hbs2] at gB htl
      have hA : insO (lpO false (f s)) (f s) o = o := rfl
      rw [hA] at htl
      (refine wk1 (an @tBs_len (an @hBl @gB)) ?_;(repeat clear hK K);repeat refine kq fun K hK=>?_)
      refine cyz ?_
      (refine wk0 ?_;(repeat clear hK K);repeat refine kq fun K hK=>?_)
      refine rnz ?_
      refine hK _ (s + 1) (by omega) (by omega) ?_
      rw [htl]
      exact lmz
  ·have d1 : decide ((s : Int) < (R.length : Int)) = false := by simpa using hlt
   have hse : s = R.length := by omega
   rw [hse] at d1
   rw [hse]
   (refine wk1 (an @d1 @tRows_len) ?_;(repeat clear hK K);repeat refine kq fun K hK=>?_)
   refine cyz ?_
   (refine ekz ?_;repeat clear hK K)
   have hTl := qiOut_len f m R B R.length
   have hTt := qiOut_tot f m R B R.length (Nat.le_refl _)
   rw [List.take_length] at hTt
   have hTb : ∀ r ∈ qiOut f m R B R.length, ∀ a ∈ r, 0 ≤ a.1 ∧ a.1 ≤ 1025 ∧ 0 ≤ a.2 ∧ a.2 < (m : Int) := fun r hr0 a ha => by
    obtain ⟨d, hd, rfl⟩ := List.getElem_of_mem hr0
    have ha2 : a ∈ (qiOut f m R B R.length).getD d [] := by rw [List.getD_eq_getElem?_getD, List.getElem?_eq_getElem hd]; exact ha
    rcases (mem_qiOut hfm R.length (Nat.le_refl _)).1 ha2 with q | ⟨q, _⟩
    ·exact q.bd hlo (Nat.le_refl _) hfm
    ·subst q; simp only; omega
   generalize qiOut f m R B R.length = T at *
   have hrT : ∀ r ∈ T, r.length ≤ 1000000 := fun r hr0 => by
    obtain ⟨j, hj, rfl⟩ := List.getElem_of_mem hr0
    have h := totA_row T j
    rw [List.getD_eq_getElem?_getD, List.getElem?_eq_getElem hj, Option.getD_some] at h
    omega
   have hco := canonX_fc T (by omega) (fun r hr0 a ha => by have := hTb r hr0 a ha; rw [hTl]; exact ⟨this.2.2.1, this.2.2.2⟩) (by omega) hrT
   obtain ⟨hlx, hxl⟩ := canon_loo (T := T) (by omega) (by omega) (by rw [hTl]; exact hTb)
   have hxr : ∀ r ∈ (canonR T).1, r.length ≤ 140737488355328 := fun r hr0 => by
    have := (canonR_bd (R := T) (B := 1000000) (by omega) (fun r hr0 a ha => by have := hTb r hr0 a ha; rw [hTl]; exact ⟨this.2.2.1, this.2.2.2⟩) hrT).2 r hr0
    omega
   generalize (canonR T).1 = x at *
   have hll := looseR_fc x (by omega) hxr
   have htk : (tRows T).take m = tRows T := List.take_of_length_le (by rw [tRows_len]; omega)
   refine aw_le (le_sink (r := ⟨45, 1, true, cRows T⟩) (ri := ⟨25, 1, false, [.s 2 m]⟩) (ts := tRows T) 3 0 2 m (by decide) rfl rfl rfl rfl (show 0 < 1 by omega) (by simp only [cRows_len, hTl]; omega) (fz_cr _)) ?_
   simp only [go_sem]
   refine aw_le (le_ot 3 rfl) ?_
   simp only [otC, go_sem]
   (refine wk0 ?_;(repeat clear hK K);repeat refine kq fun K hK=>?_)
   (refine ckz hco ?_; intro K1 hK1)
   rintro _ _ ⟨rfl, rfl⟩
   (refine bkz ?_; clear hK1 K1)
   (refine wks0 ?_;(repeat clear hK K);repeat refine kq fun K hK=>?_)
   (refine ckz hll ?_; intro K1 hK1)
   rintro _ _ ⟨rfl, rfl⟩
   (refine bkz ?_; clear hK1 K1)
   by_cases ht : totA x ≤ 262144
   ·rw [hlx, decide_eq_true ht]
    (refine wk1 @Bool.not_true ?_;(repeat clear hK K);repeat refine kq fun K hK=>?_)
    refine cyz ?_
    (refine wks0 ?_;(repeat clear hK K);repeat refine kq fun K hK=>?_)
    refine rp0 [1] Tryz.results38 ?_
    refine hend _ _ ?_
    rw [quO, if_pos ht]
    exact ⟨rfl, rfl⟩
   ·rw [hlx, decide_eq_false ht]
    (refine wk1 @Bool.not_false ?_;(repeat clear hK K);repeat refine kq fun K hK=>?_)
    refine cxz ?_
    (refine wks0 ?_;(repeat clear hK K);repeat refine kq fun K hK=>?_)
    refine rp0 [1] Tryz.results38 ?_
    refine hend _ _ ?_
    rw [quO, if_neg ht]
    exact ⟨rfl, rfl⟩
end Go.Proofs.YtglchakimolfdaaGreatDoor
namespace Go.Proofs.YtglchakimolfdaaGreatDoor
set_option linter.unusedVariables false
set_option linter.unusedSimpArgs false
open Go.RowKit
set_option maxRecDepth 100000

theorem addI_at {x : Int} : ∀ {xs : List Int} {k : Nat}, k ≤ xs.length → (∀ i y, i < k → xs[i]? = some y → y < x) → (∀ y, xs[k]? = some y → x < y) → addI x xs = xs.take k ++ x :: xs.drop k
 | [], k, hk, _, _ => by simp at hk; subst hk; rfl
 | y :: ys, 0, _, _, h2 => by
  have := h2 y rfl
  simp only [addI, List.take_zero, List.drop_zero, List.nil_append]
  rw [if_neg (by omega), if_neg (by omega)]
 | y :: ys, k + 1, hk, h1, h2 => by
  have := h1 0 y (by omega) rfl
  simp only [addI, List.take_succ_cons, List.drop_succ_cons, List.cons_append]
  rw [if_pos this, addI_at (by simpa using hk) (fun i z hi hz => h1 (i + 1) z (by omega) hz) (fun z hz => h2 z hz)]
theorem addI_has {x : Int} : ∀ {xs : List Int} {k : Nat}, (∀ i y, i < k → xs[i]? = some y → y < x) → xs[k]? = some x → addI x xs = xs
 | [], k, _, h => by simp at h
 | y :: ys, 0, _, h => by simp at h; simp [addI, h]
 | y :: ys, k + 1, h1, h => by
  have := h1 0 y (by omega) rfl
  simp only [addI]
  rw [if_pos this, addI_has (fun i z hi hz => h1 (i + 1) z (by omega) hz) h]

theorem addT_fc (xs : List Int) (x : Int) (hn : xs.length ≤ 100000000) : FC Tryz.prog 99 [aInts xs, .i x] [] (fun r o => o = [] ∧ r = aInts (addI x xs)) := by
 refine fc_intro Tryz.func99 rfl (by rw [Tryz.ntmps99]; simp) ?_
 rw [Tryz.ntmps99]
 simp only [enum, aInts]
 (refine wk0 ?_;(repeat clear hK K);repeat refine kq fun K hK=>?_)
 refine aw_loop (fun k : Nat => { tm := [(0, .a (.c (.t 1 (tInts xs)))), (1, .i x), (5, .i k)], hp := [], n := 48, pin := 0 }) (fun k => k ≤ xs.length ∧ ∀ i y, i < k → xs[i]? = some y → y < x) (fun k => xs.length - k) 0 ?_ ?_ ?_
 ·exact ⟨by omega, by intro i y hi; omega⟩
 ·exact lmz
 ·rintro k ⟨hk, he⟩ K hK
  have fin : ∀ y, (∀ z, xs[k]? = some z → x < z) → y = tInts (xs.take k ++ [x] ++ xs.drop k) → y = tInts (addI x xs) := by
   intro y h1 h2
   rw [h2, addI_at hk he h1]; simp
  have hlen : (xs.take k ++ [x] ++ xs.drop k).length = k + 1 + (xs.length - k) := by simp; omega
  have hlen2 : (xs.take k).length = k := by simp; omega
  have hlen3 : (xs.take k ++ [x]).length = k + 1 := by simp; omega
  by_cases hlt : k < xs.length
  ·have hl1 : decide ((k : Int) < (xs.length : Int)) = true := by simpa using hlt
   (refine wk1 (an @hl1 (an @tInts_len (tInts_get (List.getElem?_eq_getElem hlt)))) ?_;(repeat clear hK K);repeat refine kq fun K hK=>?_)
   (refine aw_cnd ?_; intro X Y hX hY; simp only [go_sem])
   refine ⟨fun h => hX ?_, fun h => hY ?_⟩
   ·clear hX hY X Y
    (refine wk0 ?_;(repeat clear hK K);repeat refine kq fun K hK=>?_)
    refine rnz ?_
    refine hK _ (k + 1) ⟨by omega, fun i y hi hy => ?_⟩ (by omega) ?_
    ·by_cases e : i = k
     ·subst e; rw [List.getElem?_eq_getElem hlt] at hy; cases hy; simpa using h
     ·exact he i y (by omega) hy
    ·exact lmz
   ·have hle : x ≤ xs[k] := by simpa using h
    clear hX hY X Y
    (refine ekz ?_;repeat clear hK K)
    (refine wk1 (an @hl1 (an @tInts_len (tInts_get (List.getElem?_eq_getElem hlt)))) ?_;(repeat clear hK K);repeat refine kq fun K hK=>?_)
    (refine aw_cnd ?_; intro X Y hX hY; simp only [go_sem])
    refine ⟨fun h => hX ?_, fun h => hY ?_⟩
    ·clear hX hY X Y
     (refine wk0 ?_;(repeat clear hK K);repeat refine kq fun K hK=>?_)
     refine rq0 Tryz.results99 ?_
     rw [addI_has he (by rw [List.getElem?_eq_getElem hlt]; simpa using h)]
    ·have hne : x < xs[k] := by simp at h; omega
     clear hX hY X Y
     (refine wk1 (an @List.set_cons_zero.{0} (an @List.set_cons_succ.{0} (an @List.take_succ_cons.{0} (an @List.take_zero.{0} (an @List.drop_zero.{0} (an @List.length_take.{0} (an @List.length_drop.{0} (an @List.length_append.{0} (an @tInts_len (an @tInts_take (an @tInts_drop (an @tInts_c (an @cInts_len (an @cInts_one (an @cInts_snoc (an @cInts_app (an @cInts_take (an @cInts_drop (an (Nat.min_eq_left hk) (an (List.take_of_length_le (Nat.le_of_eq hlen2)) (List.take_of_length_le (Nat.le_of_eq hlen3)))))))))))))))))))))) ?_;(repeat clear hK K);repeat refine kq fun K hK=>?_)
     ((try refine aw_ret ?_); (try simp only [ThenA, InBl]); refine ret_le (le_frz (r := ⟨3, 1, true, cInts (xs.take k ++ [x] ++ xs.drop k)⟩) 4 (tInts (xs.take k ++ [x] ++ xs.drop k)) rfl (fz_c _) (show 0 < (1 : Nat) by omega)) ?_; refine ret_le (le_pick [] rfl rfl) ?_; simp only [ST.frz, A0.frz, AV.frz, C.frz, Nat.le_refl, List.set_cons_zero, List.set_cons_succ, go_sem, tInts_len, hlen, Nat.le_refl, tInts_take, List.take_of_length_le (Nat.le_of_eq hlen)]; (try simp only [List.set_nil, List.take_nil, List.take_zero, List.map_append, go_sem]); ((try refine aw_ret ?_); (try refine lst_nil ?_); (try simp only [ThenA, InBl]); refine ret_mk (by first | exact .inl rfl | exact .inr rfl) rfl ?_; simp only [rtn, resA, resL, resV, Tryz.results99, go_sem, true_and, and_true, tInts_len, hlen, Nat.le_refl, tInts_take, List.take_of_length_le (Nat.le_of_eq hlen)]))
     rw [fin _ (fun z hz => by rw [List.getElem?_eq_getElem hlt] at hz; cases hz; exact hne) rfl]
  ·have hl1 : decide ((k : Int) < (xs.length : Int)) = false := by simpa using hlt
   (refine wk1 (an @hl1 @tInts_len) ?_;(repeat clear hK K);repeat refine kq fun K hK=>?_)
   refine cyz ?_
   (refine ekz ?_;repeat clear hK K)
   (refine wk1 (an @hl1 @tInts_len) ?_;(repeat clear hK K);repeat refine kq fun K hK=>?_)
   refine cyz ?_
   (refine wk1 (an @List.set_cons_zero.{0} (an @List.set_cons_succ.{0} (an @List.take_succ_cons.{0} (an @List.take_zero.{0} (an @List.drop_zero.{0} (an @List.length_take.{0} (an @List.length_drop.{0} (an @List.length_append.{0} (an @tInts_len (an @tInts_take (an @tInts_drop (an @tInts_c (an @cInts_len (an @cInts_one (an @cInts_snoc (an @cInts_app (an @cInts_take (an @cInts_drop (an (Nat.min_eq_left hk) (an (List.take_of_length_le (Nat.le_of_eq hlen2)) (List.take_of_length_le (Nat.le_of_eq hlen3)))))))))))))))))))))) ?_;(repeat clear hK K);repeat refine kq fun K hK=>?_)
   ((try refine aw_ret ?_); (try simp only [ThenA, InBl]); refine ret_le (le_frz (r := ⟨3, 1, true, cInts (xs.take k ++ [x] ++ xs.drop k)⟩) 4 (tInts (xs.take k ++ [x] ++ xs.drop k)) rfl (fz_c _) (show 0 < (1 : Nat) by omega)) ?_; refine ret_le (le_pick [] rfl rfl) ?_; simp only [ST.frz, A0.frz, AV.frz, C.frz, Nat.le_refl, List.set_cons_zero, List.set_cons_succ, go_sem, tInts_len, hlen, Nat.le_refl, tInts_take, List.take_of_length_le (Nat.le_of_eq hlen)]; (try simp only [List.set_nil, List.take_nil, List.take_zero, List.map_append, go_sem]); ((try refine aw_ret ?_); (try refine lst_nil ?_); (try simp only [ThenA, InBl]); refine ret_mk (by first | exact .inl rfl | exact .inr rfl) rfl ?_; simp only [rtn, resA, resL, resV, Tryz.results99, go_sem, true_and, and_true, tInts_len, hlen, Nat.le_refl, tInts_take, List.take_of_length_le (Nat.le_of_eq hlen)]))
   rw [fin _ (fun z hz => by rw [List.getElem?_eq_none (by omega)] at hz; cases hz) rfl]

attribute [local go_sem] List.set_cons_zero List.set_cons_succ List.map_cons List.map_nil List.take_succ_cons List.take_zero List.drop_zero List.drop_succ_cons C.pl C.one List.all_cons List.all_nil Bool.and_true Nat.mul_one Int.toNat_natCast
def tgI (R : List (List Ar)) (F : List Nat) (e : Int) (acc : List Int) : List Int := F.foldl (fun acc s => (R.getD s []).foldl (fun acc a => if a.1 = e then addI a.2 acc else acc) acc) acc
def tgi1 (r : List Ar) (e : Int) (acc : List Int) : List Int := r.foldl (fun acc a => if a.1 = e then addI a.2 acc else acc) acc
theorem tgi1_snoc (r : List Ar) (e : Int) (acc : List Int) (a : Ar) : tgi1 (r ++ [a]) e acc = if a.1 = e then addI a.2 (tgi1 r e acc) else tgi1 r e acc := by unfold tgi1; rw [List.foldl_append]; rfl
theorem tgI_snoc (R : List (List Ar)) (F : List Nat) (e : Int) (acc : List Int) (s : Nat) : tgI R (F ++ [s]) e acc = tgi1 (R.getD s []) e (tgI R F e acc) := by unfold tgI; rw [List.foldl_append]; rfl
theorem mem_tgi1 {x : Int} {e : Int} : ∀ (r : List Ar) (acc : List Int), x ∈ tgi1 r e acc ↔ x ∈ acc ∨ ∃ a ∈ r, a.1 = e ∧ a.2 = x := by
 intro r
 induction r with
 | nil => intro acc; simp [tgi1]
 | cons a r ih =>
  intro acc
  show x ∈ tgi1 r e (if a.1 = e then addI a.2 acc else acc) ↔ _
  rw [ih]
  simp only [List.mem_cons, exists_eq_or_imp]
  split
  ·rename_i h
   rw [mem_addI]
   constructor
   ·rintro ((rfl | h1) | h1)
    ·exact .inr (.inl ⟨h, rfl⟩)
    ·exact .inl h1
    ·exact .inr (.inr h1)
   ·rintro (h1 | ⟨_, rfl⟩ | h1)
    ·exact .inl (.inr h1)
    ·exact .inl (.inl rfl)
    ·exact .inr h1
  ·rename_i h
   constructor
   ·rintro (h1 | h1)
    ·exact .inl h1
    ·exact .inr (.inr h1)
   ·rintro (h1 | ⟨h2, _⟩ | h1)
    ·exact .inl h1
    ·exact absurd h2 h
    ·exact .inr h1
theorem mem_tgI {R : List (List Ar)} {x e : Int} : ∀ (F : List Nat) (acc : List Int), x ∈ tgI R F e acc ↔ x ∈ acc ∨ ∃ s ∈ F, ∃ a ∈ R.getD s [], a.1 = e ∧ a.2 = x := by
 intro F
 induction F with
 | nil => intro acc; simp [tgI]
 | cons s F ih =>
  intro acc
  show x ∈ tgI R F e (tgi1 (R.getD s []) e acc) ↔ _
  rw [ih, mem_tgi1]
  simp only [List.mem_cons, exists_eq_or_imp]
  rw [or_assoc]
theorem tgi1_asc {e : Int} : ∀ (r : List Ar) (acc : List Int), Asc acc → Asc (tgi1 r e acc) := by
 intro r
 induction r with
 | nil => intro acc h; exact h
 | cons a r ih =>
  intro acc h
  show Asc (tgi1 r e (if a.1 = e then addI a.2 acc else acc))
  split
  ·exact ih _ (addI_asc h)
  ·exact ih _ h
theorem tgI_asc {R : List (List Ar)} {e : Int} : ∀ (F : List Nat) (acc : List Int), Asc acc → Asc (tgI R F e acc) := by
 intro F
 induction F with
 | nil => intro acc h; exact h
 | cons s F ih => intro acc h; exact ih _ (tgi1_asc _ _ h)
theorem asc_bd {l : List Int} {n : Nat} (h : Asc l) (hb : ∀ x ∈ l, 0 ≤ x ∧ x < (n : Int)) : l.length ≤ n := by
 have h1 : (l.map Int.toNat).Nodup := by
  unfold Asc at h
  rw [List.Nodup, List.pairwise_map]
  refine h.imp_of_mem fun {a b} ha hb2 hab e => ?_
  have := hb a ha
  have := hb b hb2
  omega
 have := nodup_le n (l.map Int.toNat) h1 fun u hu => by
  obtain ⟨x, hx, rfl⟩ := List.mem_map.1 hu
  have := hb x hx
  omega
 simpa using this
def WA (R : List (List Ar)) (s : Nat) (e : Int) (u : Nat) : Prop := (e = 0 ∧ Rc (Adj true R) s u) ∨ (e ≠ 0 ∧ ∃ t, Rc (Adj true R) s t ∧ ∃ a ∈ R.getD t [], a.1 = e ∧ Rc (Adj true R) a.2.toNat u)
def wArr (R : List (List Ar)) (s : Nat) (e : Int) (L : List Int) : Prop := ∃ B : List Bool, B.length = R.length ∧ L = rL R.length B ∧ ∀ u, u < R.length → (seenB B u = true ↔ WA R s e u)
theorem rL_bd {n : Nat} {B : List Bool} : ∀ x ∈ rL n B, 0 ≤ x ∧ x < (n : Int) := fun x hx => by
 unfold rL at hx
 obtain ⟨u, hu, rfl⟩ := List.mem_map.1 hx
 have := (List.mem_filter.1 hu).1
 rw [List.mem_range] at this
 simp only [Int.ofNat_eq_natCast]; omega
theorem toNat_map {l : List Int} (h : ∀ x ∈ l, 0 ≤ x) : (l.map Int.toNat).map Int.ofNat = l := by
 rw [List.map_map]
 have : ∀ x ∈ l, (Int.ofNat ∘ Int.toNat) x = id x := fun x hx => by
  have := h x hx
  simp only [Function.comp_apply, Int.ofNat_eq_natCast, id_eq]; omega
 rw [List.map_congr_left this, List.map_id]
set_option maxHeartbeats 4000000 in
theorem aft_fc (R : List (List Ar)) (sn : Nat) (e : Int) (hv : valB R = true) (hsl : sn < R.length) (h3 : 0 ≤ e) (h4 : e ≤ 1025) (hn : R.length ≤ 1000000) (hr : ∀ r ∈ R, r.length ≤ 1000000) : FC Tryz.prog 68 [aLts R, .a (.c (.t 1 (tInts [(sn : Int)]))), .i e] [] (fun r o => ∃ L, wArr R sn e L ∧ o = [] ∧ r = aInts L) := by
 refine fc_intro Tryz.func68 rfl (by rw [Tryz.ntmps68]; simp) ?_
 rw [Tryz.ntmps68]
 simp only [enum, aLts]
 have hlo : looB R = true := decide_eq_true (of_decide_eq_true hv).1
 have hbd := (of_decide_eq_true hlo).2.2.2
 have c3 : decide (e < 0) = false := decide_eq_false (by omega)
 have c4 : decide (e > 1025) = false := decide_eq_false (by omega)
 (refine wk0 ?_;(repeat clear hK K);repeat refine kq fun K hK=>?_)
 (refine ckz (validR_fc R (by omega) (fun r h => by have := hr r h; omega)) ?_; intro K1 hK1)
 rintro _ _ ⟨rfl, rfl⟩
 (refine bkz ?_; clear hK1 K1)
 (refine wk1 (an @hv @Bool.not_true) ?_;(repeat clear hK K);repeat refine kq fun K hK=>?_)
 (refine lst_goU rfl rfl (by simp only [go_sem] <;> rfl) ?_; intro K1 hK1; refine (stp_call0 (ids := []) (inSt_fc R [(sn : Int)] (by simpa using hsl) hn (by simp)) rfl rfl (by simp only [go_sem]) (by kernel_rfl) (by (simp only [List.append_nil, go_sem]) <;> rfl) ?_).stp)
 rintro _ _ ⟨rfl, rfl⟩
 (refine bkz ?_; clear hK1 K1)
 (refine wk1 (an @Bool.not_true (an @c3 @c4)) ?_;(repeat clear hK K);repeat refine kq fun K hK=>?_)
 refine cyz ?_
 (refine wk0 ?_;(repeat clear hK K);repeat refine kq fun K hK=>?_)
 (refine ckz (reT_fc R [sn] hv (by simpa using hsl) (by simp) hn hr) ?_; intro K1 hK1)
 rintro _ _ ⟨B, hB, rfl, rfl⟩
 (refine bkz ?_; clear hK1 K1)
 have hBr : ∀ u, seenB B u = true ↔ Rc (Adj true R) sn u := fun u => by rw [hB.2]; simp
 by_cases he : e = 0
 ·have d0 : (e == 0) = true := by simp [he]
  (refine wk1 @d0 ?_;(repeat clear hK K);repeat refine kq fun K hK=>?_)
  refine cxz ?_
  (refine wk0 ?_;(repeat clear hK K);repeat refine kq fun K hK=>?_)
  refine rp0 [] Tryz.results68 ?_
  refine ⟨_, ⟨B, hB.1, rfl, fun u _ => ?_⟩, rfl⟩
  rw [hBr]
  unfold WA
  simp [he]
 ·have d0 : (e == 0) = false := by simpa using he
  obtain ⟨M, hM⟩ : ∃ M, M = (List.range R.length).filter (seenB B) := ⟨_, rfl⟩
  have hLM : rL R.length B = M.map Int.ofNat := by rw [hM]; rfl
  have hMm : ∀ v, v ∈ M ↔ v < R.length ∧ Rc (Adj true R) sn v := fun v => by rw [hM, List.mem_filter, List.mem_range, hBr]
  have hMl : M.length ≤ R.length := by have := rL_len R.length B; rw [hLM, List.length_map] at this; exact this
  rw [hLM]
  clear hM hLM
  (refine wk1 @d0 ?_;(repeat clear hK K);repeat refine kq fun K hK=>?_)
  refine cyz ?_
  (refine wk0 ?_;(repeat clear hK K);repeat refine kq fun K hK=>?_)
  refine aw_le (le_nilt 8 1 ?_) ?_
  ·simp only [go_sem]
  have htn : tInts ([] : List Int) = [] := rfl
  refine aw_loop (fun i : Nat => { tm := [(2, .i e), (3, .a (.c (.p 0 0))), (7, .a (.c (.t 1 (tInts (M.map Int.ofNat))))), (8, .a (.c (.t 1 (tInts (tgI R (M.take i) e []))))), (9, .i i)], hp := [.r ⟨25, 1, false, [.t 1 (tRows R)]⟩], n := 84, pin := 0 }) (fun i => i ≤ M.length) (fun i => M.length - i) 0 ?_ ?_ ?_
  ·omega
  ·simp only [List.take_zero, tgI, List.foldl_nil, htn]
   exact lmz
  ·rintro i hi K hK
   by_cases hlt : i < M.length
   ·have d1 : decide ((i : Int) < (M.length : Int)) = true := by simpa using hlt
    have gL : (tInts (M.map Int.ofNat))[i]? = some (.v (.int .i64 (M[i] : Int))) := tInts_get (by rw [List.getElem?_map, List.getElem?_eq_getElem hlt]; rfl)
    have hul := ((hMm _).1 (List.getElem_mem hlt)).1
    have hTk : M.take (i + 1) = M.take i ++ [M[i]] := List.take_succ_eq_append_getElem hlt
    have hsub : ∀ v ∈ M.take i, v < R.length := fun v hv => ((hMm v).1 (List.mem_of_mem_take hv)).1
    generalize M[i] = u at *
    have hgR := List.getElem?_eq_getElem hul
    have hrl := hr _ (List.getElem_mem hul)
    have hRu : R.getD u [] = R[u] := by rw [List.getD_eq_getElem?_getD, hgR]; rfl
    have hbr := hbd _ (List.getElem_mem hul)
    generalize hrr : R[u] = row at *
    have hacc : Asc (tgI R (M.take i) e []) ∧ ∀ x ∈ tgI R (M.take i) e [], 0 ≤ x ∧ x < (R.length : Int) := by
     refine ⟨tgI_asc _ _ List.Pairwise.nil, fun x hx => ?_⟩
     rw [mem_tgI] at hx
     rcases hx with h | ⟨s, hs, a, ha, _, rfl⟩
     ·simp at h
     ·have hsl2 := hsub s hs
      rw [List.getD_eq_getElem?_getD, List.getElem?_eq_getElem hsl2, Option.getD_some] at ha
      have := hbd _ (List.getElem_mem hsl2) a ha
      exact ⟨this.2.2.1, this.2.2.2⟩
    have hnx : tgI R (M.take (i + 1)) e [] = tgi1 row e (tgI R (M.take i) e []) := by rw [hTk, tgI_snoc, hRu]
    generalize tgI R (M.take i) e [] = acc at *
    have hKo := hK
    (refine wk1 (an @d1 (an @tInts_len @List.length_map.{0, 0})) ?_;(repeat clear hK K);repeat refine kq fun K hK=>?_)
    refine cxz ?_
    (refine wk0 ?_;(repeat clear hK K);repeat refine kq fun K hK=>?_)
    refine aw_loop (fun k : Nat => { tm := [(2, .i e), (3, .a (.c (.p 0 0))), (7, .a (.c (.t 1 (tInts (M.map Int.ofNat))))), (8, .a (.c (.t 1 (tInts (tgi1 (row.take k) e acc))))), (9, .i i), (10, .i k)], hp := [.r ⟨25, 1, false, [.t 1 (tRows R)]⟩], n := 84, pin := 0 }) (fun k => k ≤ row.length) (fun k => row.length - k) 0 ?_ ?_ ?_
    ·omega
    ·simp only [List.take_zero, tgi1, List.foldl_nil]
     exact lmz
    ·rintro k hk K hK
     by_cases hlt2 : k < row.length
     ·have d2 : decide ((k : Int) < (row.length : Int)) = true := by simpa using hlt2
      have ha0 := tArcs_c0 hlt2
      have ha1 := tArcs_c1 hlt2
      have hsn := tgi1_snoc (row.take k) e acc row[k]
      rw [← List.take_succ_eq_append_getElem hlt2] at hsn
      have hql : (tgi1 (row.take k) e acc).length ≤ R.length := asc_bd (tgi1_asc _ _ hacc.1) fun x hx => by
       rw [mem_tgi1] at hx
       rcases hx with h | ⟨a, ha, _, rfl⟩
       ·exact hacc.2 x h
       ·have := hbr a (List.mem_of_mem_take ha)
        exact ⟨this.2.2.1, this.2.2.2⟩
      generalize tgi1 (row.take k) e acc = q at *
      (refine wk0 ?_;(repeat clear hK K);repeat refine kq fun K hK=>?_)
      (refine aw_regionU 10 [(0, 0), (1, 0), (2, 1), (3, 0), (4, 0), (5, 0), (6, 1), (7, 0), (8, 1), (9, 0), (10, 2)] (by kernel_rfl) (by kernel_rfl) (by intro c st h; simp [ThenA, InBl, Ret] at h) ?_)
      (refine uk1 (an @tRows_len (an (tRows_get hgR) (an @tInts_len (an @List.length_map.{0, 0} (an @gL (an @tArcs_len (an @half2 @d2))))))) ?_; repeat clear hK K)
      refine cxz ?_
      (refine wk0 ?_;(repeat clear hK K);repeat refine kq fun K hK=>?_)
      by_cases hae : row[k].1 = e
      ·have d3 : (row[k].1 == e) = true := by simpa using hae
       rw [if_pos hae] at hsn
       (refine aw_regionU 13 [(0, 0), (1, 1), (2, 0), (3, 0), (4, 0), (5, 1), (6, 0), (7, 1), (8, 0), (9, 0), (10, 0), (11, 1), (12, 0), (13, 2)] (by kernel_rfl) (by kernel_rfl) (by intro c st h; simp [ThenA, InBl, Ret] at h) ?_)
       (refine uk1 (an @tRows_len (an (tRows_get hgR) (an @tInts_len (an @List.length_map.{0, 0} (an @gL (an @tArcs_len (an @half2 (an @ha0 @d3)))))))) ?_; repeat clear hK K)
       refine cxz ?_
       (refine wk0 ?_;(repeat clear hK K);repeat refine kq fun K hK=>?_)
       (refine aw_regionU 13 [(0, 0), (1, 0), (2, 1), (3, 0), (4, 0), (5, 0), (6, 1), (7, 0), (8, 1), (9, 0), (10, 0), (11, 0), (12, 1), (13, 2), (14, 0)] (by kernel_rfl) (by kernel_rfl) (by intro c st h; simp [ThenA, InBl, Ret] at h) ?_)
       (refine uk1 (an @tRows_len (an (tRows_get hgR) (an @tInts_len (an @List.length_map.{0, 0} (an @gL (an @tArcs_len (an @half2 @ha1))))))) ?_; repeat clear hK K)
       (refine uckz (addT_fc q row[k].2 (by omega)) ?_; intro K1 hK1)
       rintro _ _ ⟨rfl, rfl⟩
       (refine bkz ?_; clear hK1 K1)
       (refine uk0 ?_; repeat clear hK K)
       (refine wk0 ?_;(repeat clear hK K);repeat refine kq fun K hK=>?_)
       refine rnz ?_
       refine hK _ (k + 1) (by omega) (by omega) ?_
       rw [hsn]
       exact lmz
      ·have d3 : (row[k].1 == e) = false := by simpa using hae
       rw [if_neg hae] at hsn
       (refine aw_regionU 13 [(0, 0), (1, 1), (2, 0), (3, 0), (4, 0), (5, 1), (6, 0), (7, 1), (8, 0), (9, 0), (10, 0), (11, 1), (12, 0), (13, 2)] (by kernel_rfl) (by kernel_rfl) (by intro c st h; simp [ThenA, InBl, Ret] at h) ?_)
       (refine uk1 (an @tRows_len (an (tRows_get hgR) (an @tInts_len (an @List.length_map.{0, 0} (an @gL (an @tArcs_len (an @half2 (an @ha0 @d3)))))))) ?_; repeat clear hK K)
       refine cyz ?_
       (refine wk0 ?_;(repeat clear hK K);repeat refine kq fun K hK=>?_)
       refine rnz ?_
       refine hK _ (k + 1) (by omega) (by omega) ?_
       rw [hsn]
       exact lmz
     ·have d2 : decide ((k : Int) < (row.length : Int)) = false := by simpa using hlt2
      have htr : row.take k = row := List.take_of_length_le (by omega)
      rw [htr, ← hnx]
      (refine wk0 ?_;(repeat clear hK K);repeat refine kq fun K hK=>?_)
      (refine aw_regionU 10 [(0, 0), (1, 0), (2, 1), (3, 0), (4, 0), (5, 0), (6, 1), (7, 0), (8, 1), (9, 0), (10, 2)] (by kernel_rfl) (by kernel_rfl) (by intro c st h; simp [ThenA, InBl, Ret] at h) ?_)
      (refine uk1 (an @tRows_len (an (tRows_get hgR) (an @tInts_len (an @List.length_map.{0, 0} (an @gL (an @tArcs_len (an @half2 @d2))))))) ?_; repeat clear hK K)
      refine cyz ?_
      (refine ekz ?_;repeat clear hK K)
      (refine wk0 ?_;(repeat clear hK K);repeat refine kq fun K hK=>?_)
      refine rnz ?_
      refine hKo _ (i + 1) (by omega) (by omega) ?_
      exact lmz
   ·have d1 : decide ((i : Int) < (M.length : Int)) = false := by simpa using hlt
    have htM : M.take i = M := List.take_of_length_le (by omega)
    rw [htM]
    have htm : ∀ x, x ∈ tgI R M e [] ↔ ∃ s ∈ M, ∃ a ∈ R.getD s [], a.1 = e ∧ a.2 = x := fun x => by rw [mem_tgI]; simp
    have htb : ∀ x ∈ tgI R M e [], 0 ≤ x ∧ x < (R.length : Int) := fun x hx => by
     obtain ⟨s, hs, a, ha, _, rfl⟩ := (htm x).1 hx
     have hsl2 := ((hMm s).1 hs).1
     rw [List.getD_eq_getElem?_getD, List.getElem?_eq_getElem hsl2, Option.getD_some] at ha
     have := hbd _ (List.getElem_mem hsl2) a ha
     exact ⟨this.2.2.1, this.2.2.2⟩
    have htl := asc_bd (tgI_asc (R := R) (e := e) M [] List.Pairwise.nil) htb
    generalize tgI R M e [] = T at *
    obtain ⟨F, hF⟩ : ∃ F : List Nat, F = T.map Int.toNat := ⟨_, rfl⟩
    have hFT : T = F.map Int.ofNat := by rw [hF, toNat_map fun x hx => (htb x hx).1]
    have hFl : F.length ≤ R.length := by rw [hF, List.length_map]; exact htl
    have hFm : ∀ v, v ∈ F ↔ (v : Int) ∈ T := fun v => by
     rw [hF, List.mem_map]
     constructor
     ·rintro ⟨x, hx, rfl⟩
      have := htb x hx
      rw [show ((x.toNat : Nat) : Int) = x by omega]; exact hx
     ·intro h; exact ⟨_, h, by simp⟩
    rw [hFT]
    (refine wk1 (an @d1 (an @tInts_len @List.length_map.{0, 0})) ?_;(repeat clear hK K);repeat refine kq fun K hK=>?_)
    refine cyz ?_
    (refine ekz ?_;repeat clear hK K)
    (refine wk0 ?_;(repeat clear hK K);repeat refine kq fun K hK=>?_)
    (refine ckz (reT_fc R F hv (fun v hv => by have := htb _ ((hFm v).1 hv); omega) (by omega) hn hr) ?_; intro K1 hK1)
    rintro _ _ ⟨B2, hB2, rfl, rfl⟩
    (refine bkz ?_; clear hK1 K1)
    (refine wk0 ?_;(repeat clear hK K);repeat refine kq fun K hK=>?_)
    refine rp0 [] Tryz.results68 ?_
    refine ⟨_, ⟨B2, hB2.1, rfl, fun u _ => ?_⟩, rfl⟩
    rw [hB2.2]
    unfold WA
    constructor
    ·rintro ⟨v, h5, h6⟩
     obtain ⟨s, hs, a, ha, hae, hav⟩ := (htm _).1 ((hFm v).1 h5)
     refine .inr ⟨he, s, ((hMm s).1 hs).2, a, ha, hae, ?_⟩
     rw [hav, Int.toNat_natCast]; exact h6
    ·rintro (⟨h5, _⟩ | ⟨_, s, h5, a, ha, hae, h6⟩)
     ·exact absurd h5 he
     ·have hsr := h5.lt hsl (adj_lt true hlo)
      refine ⟨a.2.toNat, (hFm _).2 ((htm _).2 ⟨s, (hMm s).2 ⟨hsr, h5⟩, a, ha, hae, ?_⟩), h6⟩
      rw [List.getD_eq_getElem?_getD, List.getElem?_eq_getElem hsr, Option.getD_some] at ha
      have := hbd _ (List.getElem_mem hsr) a ha
      omega
theorem warr_fc (R : List (List Ar)) (sn : Nat) (e : Int) (hv : valB R = true) (hsl : sn < R.length) (h3 : 0 ≤ e) (h4 : e ≤ 1025) (hn : R.length ≤ 1000000) (hr : ∀ r ∈ R, r.length ≤ 1000000) : FC Tryz.prog 40 [aLts R, .i sn, .i e] [] (fun r o => ∃ L, wArr R sn e L ∧ o = [] ∧ r = aInts L) := by
 refine fc_intro Tryz.func40 rfl (by rw [Tryz.ntmps40]; simp) ?_
 rw [Tryz.ntmps40]
 simp only [enum, aLts]
 have c1 : decide ((sn : Int) < 0) = false := decide_eq_false (by omega)
 have c2 : decide ((sn : Int) ≥ (R.length : Int)) = false := decide_eq_false (by omega)
 have c3 : decide (e < 0) = false := decide_eq_false (by omega)
 have c4 : decide (e > 1025) = false := decide_eq_false (by omega)
 (refine wk0 ?_;(repeat clear hK K);repeat refine kq fun K hK=>?_)
 (refine ckz (validR_fc R (by omega) (fun r h => by have := hr r h; omega)) ?_; intro K1 hK1)
 rintro _ _ ⟨rfl, rfl⟩
 (refine bkz ?_; clear hK1 K1)
 (refine wk1 (an @hv (an @Bool.not_true (an @c1 (an @c2 (an @c3 (an @c4 @tRows_len)))))) ?_;(repeat clear hK K);repeat refine kq fun K hK=>?_)
 refine cyz ?_
 (refine wk0 ?_;(repeat clear hK K);repeat refine kq fun K hK=>?_)
 (refine lst_le (le_frz (r := ⟨3, 1, true, cInts [(sn : Int)]⟩) 1 (tInts [(sn : Int)]) rfl (fz_c _) (show 0 < (1 : Nat) by omega)) ?_; simp only [ST.frz, A0.frz, AV.frz, C.frz, Nat.le_refl, List.set_cons_zero, List.set_cons_succ, go_sem, tInts_one])
 (refine wk0 ?_;(repeat clear hK K);repeat refine kq fun K hK=>?_)
 (refine ckz (aft_fc R sn e hv hsl h3 h4 hn hr) ?_; intro K1 hK1)
 rintro _ _ ⟨L, hL, rfl, rfl⟩
 (refine bkz ?_; clear hK1 K1)
 (refine wk0 ?_;(repeat clear hK K);repeat refine kq fun K hK=>?_)
 refine rp0 [] Tryz.results40 ?_
 exact ⟨L, hL, rfl⟩
section
variable {α β : Type} [DecidableEq α] [DecidableEq β]
def nmG (f : Nat → α) : Nat → List Int × Nat
 | 0 => ([], 0)
 | k + 1 => match (List.range k).find? (fun t => decide (f t = f k)) with
  | some t => ((nmG f k).1 ++ [(nmG f k).1.getD t 0], (nmG f k).2)
  | none => ((nmG f k).1 ++ [((nmG f k).2 : Int)], (nmG f k).2 + 1)
theorem nmG_some {f : Nat → α} {k t : Nat} (h : (List.range k).find? (fun t => decide (f t = f k)) = some t) : nmG f (k + 1) = ((nmG f k).1 ++ [(nmG f k).1.getD t 0], (nmG f k).2) := by rw [nmG, h]
theorem nmG_none {f : Nat → α} {k : Nat} (h : (List.range k).find? (fun t => decide (f t = f k)) = none) : nmG f (k + 1) = ((nmG f k).1 ++ [((nmG f k).2 : Int)], (nmG f k).2 + 1) := by rw [nmG, h]
theorem nm_find_some {f : Nat → α} {k t : Nat} (ht : t < k) (h : f t = f k) (hn : ∀ u, u < t → f u ≠ f k) : (List.range k).find? (fun t => decide (f t = f k)) = some t := by
 rw [List.find?_range_eq_some]
 exact ⟨by simpa using h, by simpa using ht, fun j hj => by simpa using hn j hj⟩
theorem nm_find_none {f : Nat → α} {k : Nat} (hn : ∀ u, u < k → f u ≠ f k) : (List.range k).find? (fun t => decide (f t = f k)) = none := by
 rw [List.find?_range_eq_none]
 exact fun j hj => by simpa using hn j hj
theorem nm_cases (f : Nat → α) (k : Nat) : (∃ t, t < k ∧ f t = f k ∧ (∀ u, u < t → f u ≠ f k) ∧ nmG f (k + 1) = ((nmG f k).1 ++ [(nmG f k).1.getD t 0], (nmG f k).2)) ∨ ((∀ u, u < k → f u ≠ f k) ∧ nmG f (k + 1) = ((nmG f k).1 ++ [((nmG f k).2 : Int)], (nmG f k).2 + 1)) := by
 cases h : (List.range k).find? (fun t => decide (f t = f k)) with
 | some t =>
  have h2 := List.find?_range_eq_some.1 h
  exact .inl ⟨t, by simpa using h2.2.1, by simpa using h2.1, fun u hu => by simpa using h2.2.2 u hu, nmG_some h⟩
 | none =>
  have h2 := List.find?_range_eq_none.1 h
  exact .inr ⟨fun u hu => by simpa using h2 u hu, nmG_none h⟩
structure NmOk (f : Nat → α) (k : Nat) (p : List Int × Nat) : Prop where
 len : p.1.length = k
 eq : ∀ s t, s < k → t < k → (p.1.getD s 0 = p.1.getD t 0 ↔ f s = f t)
 rng : ∀ s, s < k → 0 ≤ p.1.getD s 0 ∧ p.1.getD s 0 < (p.2 : Int)
 cnt : p.2 ≤ k
theorem getD_snoc_lt {l : List Int} {x : Int} {s : Nat} (h : s < l.length) : (l ++ [x]).getD s 0 = l.getD s 0 := by
 rw [List.getD_eq_getElem?_getD, List.getElem?_append_left h, ← List.getD_eq_getElem?_getD]
theorem getD_snoc_eq {l : List Int} {x : Int} {s : Nat} (h : s = l.length) : (l ++ [x]).getD s 0 = x := by
 subst h
 rw [List.getD_eq_getElem?_getD, List.getElem?_append_right (Nat.le_refl _), Nat.sub_self]; rfl
theorem nmG_ok (f : Nat → α) (k : Nat) : NmOk f k (nmG f k) := by
 induction k with
 | zero => exact ⟨rfl, fun s t h => by omega, fun s h => by omega, Nat.le_refl _⟩
 | succ k ih =>
  have hl := ih.len
  rcases nm_cases f k with ⟨t, h1, h2, h3, h4⟩ | ⟨h3, h4⟩
  ·rw [h4]
   generalize nmG f k = p at *
   have g1 : ∀ s, s < k → (p.1 ++ [p.1.getD t 0]).getD s 0 = p.1.getD s 0 := fun s hs => getD_snoc_lt (by omega)
   have g2 : (p.1 ++ [p.1.getD t 0]).getD k 0 = p.1.getD t 0 := getD_snoc_eq hl.symm
   refine ⟨by simp [hl], fun s u hs hu => ?_, fun s hs => ?_, by have := ih.cnt; simp only; omega⟩
   ·simp only
    rcases Nat.lt_or_ge s k with a | a <;> rcases Nat.lt_or_ge u k with b | b
    ·rw [g1 s a, g1 u b]; exact ih.eq s u a b
    ·have : u = k := by omega
     subst this
     rw [g1 s a, g2, ih.eq s t a h1, h2]
    ·have : s = k := by omega
     subst this
     rw [g1 u b, g2, ih.eq t u h1 b, h2]
    ·have e1 : s = k := by omega
     have e2 : u = k := by omega
     subst e1; subst e2; simp
   ·simp only
    rcases Nat.lt_or_ge s k with a | a
    ·rw [g1 s a]; exact ih.rng s a
    ·have : s = k := by omega
     subst this; rw [g2]; exact ih.rng t h1
  ·rw [h4]
   generalize nmG f k = p at *
   have g1 : ∀ s, s < k → (p.1 ++ [(p.2 : Int)]).getD s 0 = p.1.getD s 0 := fun s hs => getD_snoc_lt (by omega)
   have g2 : (p.1 ++ [(p.2 : Int)]).getD k 0 = p.2 := getD_snoc_eq hl.symm
   refine ⟨by simp [hl], fun s u hs hu => ?_, fun s hs => ?_, by have := ih.cnt; simp only; omega⟩
   ·simp only
    rcases Nat.lt_or_ge s k with a | a <;> rcases Nat.lt_or_ge u k with b | b
    ·rw [g1 s a, g1 u b]; exact ih.eq s u a b
    ·have : u = k := by omega
     subst this
     rw [g1 s a, g2]
     have := ih.rng s a
     exact ⟨fun e => by omega, fun e => absurd e (h3 s a)⟩
    ·have : s = k := by omega
     subst this
     rw [g1 u b, g2]
     have := ih.rng u b
     exact ⟨fun e => by omega, fun e => absurd e.symm (h3 u b)⟩
    ·have e1 : s = k := by omega
     have e2 : u = k := by omega
     subst e1; subst e2; simp
   ·simp only
    rcases Nat.lt_or_ge s k with a | a
    ·rw [g1 s a]; have := ih.rng s a; omega
    ·have : s = k := by omega
     subst this; rw [g2]; omega
theorem nmG_ext {f : Nat → α} {g : Nat → β} : ∀ k, (∀ s t, s < k → t < k → (f s = f t ↔ g s = g t)) → nmG f k = nmG g k := by
 intro k
 induction k with
 | zero => intro _; rfl
 | succ k ih =>
  intro h
  have ih2 := ih fun s t hs ht => h s t (by omega) (by omega)
  rcases nm_cases f k with ⟨t, h1, h2, h3, h4⟩ | ⟨h3, h4⟩
  ·rw [h4, nmG_some (f := g) (nm_find_some h1 ((h t k (by omega) (by omega)).1 h2) fun u hu e => h3 u hu ((h u k (by omega) (by omega)).2 e)), ih2]
  ·rw [h4, nmG_none (f := g) (nm_find_none fun u hu e => h3 u hu ((h u k (by omega) (by omega)).2 e)), ih2]
theorem nmG_norm (f : Nat → α) (n : Nat) : nmG (fun s => (nmG f n).1.getD s 0) n = nmG f n := nmG_ext n fun s t hs ht => (nmG_ok f n).eq s t hs ht
def fstB (f : Nat → α) (k : Nat) : Bool := (List.range k).all fun t => !decide (f t = f k)
theorem fstB_iff {f : Nat → α} {k : Nat} : fstB f k = true ↔ ∀ t, t < k → f t ≠ f k := by simp [fstB]
theorem nm_count (f : Nat → α) (k : Nat) : (nmG f k).2 = (List.range k).countP (fstB f) := by
 induction k with
 | zero => rfl
 | succ k ih =>
  rw [List.range_succ, List.countP_append, ← ih]
  rcases nm_cases f k with ⟨t, h1, h2, h3, h4⟩ | ⟨h3, h4⟩
  ·have : fstB f k = false := by
    rw [← Bool.not_eq_true, fstB_iff]
    exact fun h => h t h1 h2
   rw [h4]; simp [this]
  ·have : fstB f k = true := fstB_iff.2 h3
   rw [h4]; simp [this]
theorem countP_eq_imp {γ : Type} {p q : γ → Bool} : ∀ {l : List γ}, (∀ x ∈ l, p x = true → q x = true) → l.countP p = l.countP q → ∀ x ∈ l, q x = true → p x = true
 | [], _, _, x, hx, _ => by simp at hx
 | a :: r, h, e, x, hx, hq => by
  have hle := List.countP_mono_left (p := p) (q := q) (l := r) fun y hy => h y (List.mem_cons_of_mem _ hy)
  rw [List.countP_cons, List.countP_cons] at e
  have ha := h a (by simp)
  rcases List.mem_cons.1 hx with rfl | hx
  ·cases hp : p x with
   | true => rfl
   | false => rw [hp, hq] at e; simp at e; omega
  ·refine countP_eq_imp (fun y hy => h y (List.mem_cons_of_mem _ hy)) ?_ x hx hq
   cases hp : p a with
   | true => rw [hp, ha hp] at e; simp at e; exact e
   | false =>
    rw [hp] at e
    cases hqa : q a with
    | true => rw [hqa] at e; simp at e; omega
    | false => rw [hqa] at e; simpa using e
theorem nm_first {f : Nat → α} (s : Nat) : ∃ t, t ≤ s ∧ f t = f s ∧ fstB f t = true := by
 induction s using Nat.strongRecOn with
 | _ s ih =>
  cases h : fstB f s with
  | true => exact ⟨s, Nat.le_refl _, rfl, h⟩
  | false =>
   have : ¬ ∀ t, t < s → f t ≠ f s := fun q => by rw [fstB_iff.2 q] at h; cases h
   obtain ⟨t, ht, e⟩ : ∃ t, t < s ∧ f t = f s := Classical.byContradiction fun q => this fun t ht e => q ⟨t, ht, e⟩
   obtain ⟨u, h1, h2, h3⟩ := ih t ht
   exact ⟨u, by omega, h2.trans e, h3⟩
theorem nm_refine {f : Nat → α} {g : Nat → β} {n : Nat} (h : ∀ s t, s < n → t < n → g s = g t → f s = f t) : (nmG f n).2 ≤ (nmG g n).2 ∧ ((nmG f n).2 = (nmG g n).2 → nmG f n = nmG g n) := by
 have hsub : ∀ k ∈ List.range n, fstB f k = true → fstB g k = true := fun k hk hf => by
  rw [List.mem_range] at hk
  rw [fstB_iff] at hf ⊢
  exact fun t ht e => hf t ht (h t k (by omega) hk e)
 rw [nm_count, nm_count]
 refine ⟨List.countP_mono_left hsub, fun e => nmG_ext n fun s t hs ht => ⟨fun hf => ?_, h s t hs ht⟩⟩
 have hback := countP_eq_imp hsub e
 obtain ⟨s1, a1, a2, a3⟩ := nm_first (f := g) s
 obtain ⟨t1, b1, b2, b3⟩ := nm_first (f := g) t
 have c1 := fstB_iff.1 (hback s1 (List.mem_range.2 (by omega)) a3)
 have c2 := fstB_iff.1 (hback t1 (List.mem_range.2 (by omega)) b3)
 have d1 : f s1 = f s := h s1 s (by omega) hs a2
 have d2 : f t1 = f t := h t1 t (by omega) ht b2
 have e3 : f s1 = f t1 := by rw [d1, d2, hf]
 have e4 : s1 = t1 := by
  rcases Nat.lt_trichotomy s1 t1 with q | q | q
  ·exact absurd e3 (c2 s1 q)
  ·exact q
  ·exact absurd e3.symm (c1 t1 q)
 rw [← a2, ← b2, e4]
end
def imR (S : List (List Ar)) (c : List Int) (s : Nat) : List Ar := rowOf ((S.getD s []).map fun a => (a.1, c.getD a.2.toNat 0))
theorem mem_imR {S : List (List Ar)} {c : List Int} {s : Nat} {x : Ar} : x ∈ imR S c s ↔ ∃ a ∈ S.getD s [], x = (a.1, c.getD a.2.toNat 0) := by
 unfold imR
 rw [mem_rowOf, List.mem_map]
 exact ⟨fun ⟨a, h1, h2⟩ => ⟨a, h1, h2.symm⟩, fun ⟨a, h1, h2⟩ => ⟨a, h1, h2.symm⟩⟩
def hasB (c : List Int) (row : List Ar) (e x : Int) : Bool := row.any fun a => a.1 == e && c.getD a.2.toNat 0 == x
def covB (c : List Int) (a b : List Ar) : Bool := a.all fun x => hasB c b x.1 (c.getD x.2.toNat 0)
theorem cov_iff {S : List (List Ar)} {c : List Int} {s t : Nat} : imR S c s = imR S c t ↔ covB c (S.getD s []) (S.getD t []) = true ∧ covB c (S.getD t []) (S.getD s []) = true := by
 have key : ∀ s t, covB c (S.getD s []) (S.getD t []) = true ↔ ∀ x ∈ imR S c s, x ∈ imR S c t := by
  intro s t
  simp only [covB, hasB, List.all_eq_true, List.any_eq_true, Bool.and_eq_true, beq_iff_eq]
  constructor
  ·intro h x hx
   obtain ⟨a, ha, rfl⟩ := mem_imR.1 hx
   obtain ⟨b, hb, h1, h2⟩ := h a ha
   exact mem_imR.2 ⟨b, hb, by rw [h1, h2]⟩
  ·intro h a ha
   obtain ⟨b, hb, e⟩ := mem_imR.1 (h _ (mem_imR.2 ⟨a, ha, rfl⟩))
   injection e with e1 e2
   exact ⟨b, hb, e1.symm, e2.symm⟩
 rw [key, key]
 constructor
 ·intro h; rw [h]; exact ⟨fun _ h => h, fun _ h => h⟩
 ·rintro ⟨h1, h2⟩
  exact sorted_ext (rowOf_sorted _) (rowOf_sorted _) fun x => ⟨h1 x, h2 x⟩
def ftS (S : List (List Ar)) (c : List Int) (s : Nat) : Int × List Ar := (c.getD s 0, imR S c s)
def nxS (S : List (List Ar)) (c : List Int) : List Int := (nmG (ftS S c) S.length).1
def itS (S : List (List Ar)) (c : List Int) : Nat → List Int
 | 0 => c
 | k + 1 => nxS S (itS S c k)
def FxS (S : List (List Ar)) (c d : List Int) : Prop := ∃ k, d = itS S c k ∧ nxS S d = d
theorem FxS.stay {S : List (List Ar)} {c : List Int} {k j : Nat} (h : nxS S (itS S c k) = itS S c k) (hj : k ≤ j) : itS S c j = itS S c k := by
 induction j with
 | zero =>
  have : k = 0 := by omega
  subst this; rfl
 | succ j ih =>
  by_cases e : k = j + 1
  ·subst e; rfl
  ·rw [itS, ih (by omega), h]
theorem FxS.uniq {S : List (List Ar)} {c d e : List Int} (h1 : FxS S c d) (h2 : FxS S c e) : d = e := by
 obtain ⟨k, rfl, hk⟩ := h1
 obtain ⟨j, rfl, hj⟩ := h2
 rcases Nat.le_total k j with h | h
 ·exact (FxS.stay hk h).symm
 ·exact FxS.stay hj h
def Nrm (n : Nat) (c : List Int) : Prop := (nmG (fun s => c.getD s 0) n).1 = c
def cntC (n : Nat) (c : List Int) : Nat := (nmG (fun s => c.getD s 0) n).2
theorem nrm_nm {α : Type} [DecidableEq α] (f : Nat → α) (n : Nat) : Nrm n (nmG f n).1 := by unfold Nrm; rw [nmG_norm]
theorem cnt_nm {α : Type} [DecidableEq α] (f : Nat → α) (n : Nat) : cntC n (nmG f n).1 = (nmG f n).2 := by unfold cntC; rw [nmG_norm]
theorem Nrm.len {n : Nat} {c : List Int} (h : Nrm n c) : c.length = n := by rw [← h]; exact (nmG_ok _ n).len
theorem Nrm.rng {n : Nat} {c : List Int} (h : Nrm n c) : ∀ x ∈ c, 0 ≤ x ∧ x < (n : Int) := fun x hx => by
 obtain ⟨i, hi, rfl⟩ := List.getElem_of_mem hx
 have hl := h.len
 have h1 := (nmG_ok (fun s => c.getD s 0) n).rng i (by omega)
 have h2 := (nmG_ok (fun s => c.getD s 0) n).cnt
 unfold Nrm at h
 rw [h, List.getD_eq_getElem?_getD, List.getElem?_eq_getElem hi, Option.getD_some] at h1
 omega
theorem nx_nrm (S : List (List Ar)) (c : List Int) : Nrm S.length (nxS S c) := nrm_nm _ _
theorem nx_lt {S : List (List Ar)} {c : List Int} (h : Nrm S.length c) (hne : nxS S c ≠ c) : cntC S.length c < cntC S.length (nxS S c) := by
 have hr := nm_refine (f := fun s => c.getD s 0) (g := ftS S c) (n := S.length) fun s t _ _ e => by
  have := congrArg Prod.fst e
  exact this
 have e1 : cntC S.length (nxS S c) = (nmG (ftS S c) S.length).2 := cnt_nm _ _
 rw [e1]
 unfold cntC
 rcases Nat.lt_or_eq_of_le hr.1 with q | q
 ·exact q
 ·exfalso
  apply hne
  have := hr.2 q
  unfold nxS
  rw [← this]
  exact h
theorem cnt_le (n : Nat) (c : List Int) : cntC n c ≤ n := (nmG_ok _ n).cnt
def evI (acc : List Int) (r : List Ar) : List Int := r.foldl (fun acc a => addI a.1 acc) acc
def evG (R : List (List Ar)) (k : Nat) : List Int := (R.take k).foldl evI [0]
theorem evI_snoc (acc : List Int) (r : List Ar) (a : Ar) : evI acc (r ++ [a]) = addI a.1 (evI acc r) := by unfold evI; rw [List.foldl_append]; rfl
theorem evG_succ {R : List (List Ar)} {k : Nat} (h : k < R.length) : evG R (k + 1) = evI (evG R k) R[k] := by
 unfold evG
 rw [List.take_succ_eq_append_getElem h, List.foldl_append]; rfl
theorem mem_evI {x : Int} : ∀ (r : List Ar) (acc : List Int), x ∈ evI acc r ↔ x ∈ acc ∨ ∃ a ∈ r, a.1 = x
 | [], acc => by simp [evI]
 | a :: r, acc => by
  show x ∈ evI (addI a.1 acc) r ↔ _
  rw [mem_evI r, mem_addI]
  simp only [List.mem_cons, exists_eq_or_imp]
  constructor
  ·rintro ((rfl | h) | h)
   ·exact .inr (.inl rfl)
   ·exact .inl h
   ·exact .inr (.inr h)
  ·rintro (h | h | h)
   ·exact .inl (.inr h)
   ·exact .inl (.inl h.symm)
   ·exact .inr h
theorem evI_asc : ∀ (r : List Ar) (acc : List Int), Asc acc → Asc (evI acc r)
 | [], _, h => h
 | _ :: r, _, h => evI_asc r _ (addI_asc h)
theorem evG_ok {R : List (List Ar)} (hb : ∀ r ∈ R, ∀ a ∈ r, 0 ≤ a.1 ∧ a.1 ≤ 1025) (k : Nat) : k ≤ R.length → Asc (evG R k) ∧ (∀ x ∈ evG R k, 0 ≤ x ∧ x < 1026) ∧ (0 : Int) ∈ evG R k ∧ ∀ r ∈ R.take k, ∀ a ∈ r, a.1 ∈ evG R k := by
 induction k with
 | zero => intro _; exact ⟨by simp [evG, Asc], by simp [evG], by simp [evG], by simp⟩
 | succ k ih =>
  intro hk
  obtain ⟨h1, h2, h3, h4⟩ := ih (by omega)
  have hkl : k < R.length := hk
  rw [evG_succ hkl]
  refine ⟨evI_asc _ _ h1, fun x hx => ?_, (mem_evI _ _).2 (.inl h3), fun r hr a ha => ?_⟩
  ·rcases (mem_evI _ _).1 hx with h | ⟨a, ha, rfl⟩
   ·exact h2 x h
   ·have := hb _ (List.getElem_mem hkl) a ha; omega
  ·rw [mem_evI]
   rw [List.take_succ_eq_append_getElem hkl] at hr
   rcases List.mem_append.1 hr with h | h
   ·exact .inl (h4 r h a ha)
   ·simp at h; subst h; exact .inr ⟨a, ha, rfl⟩
def dv0 (B : List Bool) (s : Nat) : Int := if B.getD s false = B.getD 0 false then 0 else 1
def dvC (B : List Bool) (n : Nat) : List Int := (List.range n).map (dv0 B)
theorem dvC_len (B : List Bool) (n : Nat) : (dvC B n).length = n := by simp [dvC]
theorem dvC_get {B : List Bool} {n s : Nat} (h : s < n) : (dvC B n).getD s 0 = dv0 B s := by simp [dvC, List.getD_eq_getElem?_getD, h]
theorem dv_nm {B : List Bool} : ∀ n, 1 ≤ n → (nmG (fun s => B.getD s false) n).1 = dvC B n ∧ ((nmG (fun s => B.getD s false) n).2 = 1 ∧ (∀ s, s < n → B.getD s false = B.getD 0 false) ∨ (nmG (fun s => B.getD s false) n).2 = 2 ∧ ∃ s, s < n ∧ B.getD s false ≠ B.getD 0 false) := by
 intro n
 induction n with
 | zero => intro h; omega
 | succ n ih =>
  intro _
  by_cases h0 : n = 0
  ·subst h0
   refine ⟨?_, .inl ⟨rfl, fun s hs => by rw [show s = 0 by omega]⟩⟩
   show ([] ++ [((0 : Nat) : Int)]) = _
   simp [dvC, dv0]
  ·obtain ⟨h1, h2⟩ := ih (by omega)
   have hd : dvC B (n + 1) = dvC B n ++ [dv0 B n] := by simp [dvC, List.range_succ]
   rcases nm_cases (fun s => B.getD s false) n with ⟨t, a1, a2, a3, a4⟩ | ⟨a3, a4⟩
   ·rw [a4, hd, h1, dvC_get a1]
    have e1 : dv0 B t = dv0 B n := by unfold dv0; rw [a2]
    refine ⟨by rw [e1], ?_⟩
    rcases h2 with ⟨b1, b2⟩ | ⟨b1, s, b2, b3⟩
    ·refine .inl ⟨b1, fun s hs => ?_⟩
     by_cases e : s = n
     ·subst e; rw [← a2]; exact b2 t a1
     ·exact b2 s (by omega)
    ·exact .inr ⟨b1, s, by omega, b3⟩
   ·have hne := a3 0 (by omega)
    have hone : (nmG (fun s => B.getD s false) n).2 = 1 := by
     rcases h2 with ⟨b1, _⟩ | ⟨_, s, b2, b3⟩
     ·exact b1
     ·exfalso
      have c1 := a3 s b2
      revert hne c1 b3
      generalize B.getD s false = x
      generalize B.getD 0 false = y
      generalize B.getD n false = z
      cases x <;> cases y <;> cases z <;> simp
    rw [a4, hd, h1, hone]
    refine ⟨by unfold dv0; rw [if_neg (Ne.symm hne)]; rfl, .inr ⟨rfl, n, by omega, Ne.symm hne⟩⟩
theorem dvC_nrm (B : List Bool) {n : Nat} (h : 1 ≤ n) : Nrm n (dvC B n) := by
 rw [← (dv_nm n h).1]
 exact nrm_nm _ _
noncomputable def wAL (R : List (List Ar)) (s : Nat) (e : Int) : List Int := rL R.length ((List.range R.length).map fun u => @decide (WA R s e u) (Classical.propDecidable _))
theorem wArr_uniq {R : List (List Ar)} {s : Nat} {e : Int} {L M : List Int} (h1 : wArr R s e L) (h2 : wArr R s e M) : L = M := by
 obtain ⟨B, b1, rfl, b3⟩ := h1
 obtain ⟨C, c1, rfl, c3⟩ := h2
 unfold rL
 congr 1
 refine List.filter_congr fun u hu => ?_
 rw [List.mem_range] at hu
 rw [Bool.eq_iff_iff, b3 u hu, c3 u hu]
theorem wAL_ok (R : List (List Ar)) (s : Nat) (e : Int) : wArr R s e (wAL R s e) := by
 refine ⟨(List.range R.length).map fun u => @decide (WA R s e u) (Classical.propDecidable _), by simp, rfl, fun u hu => ?_⟩
 unfold seenB
 rw [List.getD_eq_getElem?_getD, List.getElem?_map, List.getElem?_range hu]
 exact @decide_eq_true_iff _ (Classical.propDecidable _)
theorem wAL_bd {R : List (List Ar)} (_hlo : looB R = true) {s : Nat} {e : Int} (_hs : s < R.length) : (wAL R s e).length ≤ R.length ∧ ∀ x ∈ wAL R s e, 0 ≤ x ∧ x < (R.length : Int) := ⟨rL_len _ _, fun x hx => rL_bd x hx⟩
noncomputable def waE (R : List (List Ar)) (s : Nat) (e : Int) : List Ar := (wAL R s e).map fun u => (e, u)
noncomputable def waP (R : List (List Ar)) (Ev : List Int) (s k : Nat) : List Ar := (Ev.take k).flatMap (waE R s)
noncomputable def waR (R : List (List Ar)) (Ev : List Int) (s : Nat) : List Ar := waP R Ev s Ev.length
noncomputable def waL (R : List (List Ar)) (Ev : List Int) (k : Nat) : List (List Ar) := (List.range k).map (waR R Ev)
theorem waL_len (R : List (List Ar)) (Ev : List Int) (k : Nat) : (waL R Ev k).length = k := by simp [waL]
theorem waP_succ {R : List (List Ar)} {Ev : List Int} {s k : Nat} (h : k < Ev.length) : waP R Ev s (k + 1) = waP R Ev s k ++ waE R s Ev[k] := by
 unfold waP
 rw [List.take_succ_eq_append_getElem h, List.flatMap_append]
 simp
theorem waP_len {R : List (List Ar)} (hlo : looB R = true) {Ev : List Int} {s : Nat} (hs : s < R.length) : ∀ k, k ≤ Ev.length → (waP R Ev s k).length ≤ k * R.length := by
 intro k
 induction k with
 | zero => intro _; simp [waP]
 | succ k ih =>
  intro hk
  have h1 := ih (by omega)
  have h2 := (wAL_bd hlo (e := Ev[k]) hs).1
  rw [waP_succ hk, List.length_append, waE, List.length_map, Nat.succ_mul]
  omega
noncomputable def watR (R : List (List Ar)) : List (List Ar) := waL R (evG R R.length) R.length
theorem watR_bd {R : List (List Ar)} (hv : valB R = true) (hn : R.length ≤ 100) : (watR R).length = R.length ∧ ∀ r ∈ watR R, r.length ≤ 1000000 ∧ ∀ a ∈ r, 0 ≤ a.2 ∧ a.2 < (R.length : Int) := by
 have hlo : looB R = true := decide_eq_true (of_decide_eq_true hv).1
 have hl : (watR R).length = R.length := waL_len _ _ _
 have hev := evG_ok (R := R) (fun r hr a ha => by have := (of_decide_eq_true hlo).2.2.2 r hr a ha; omega) R.length (Nat.le_refl _)
 have hevl : (evG R R.length).length ≤ 1026 := asc_bd hev.1 (by simpa using hev.2.1)
 refine ⟨hl, fun r hr => ?_⟩
 obtain ⟨s, hs, rfl⟩ := List.mem_map.1 hr
 rw [List.mem_range] at hs
 have h1 := waP_len hlo (Ev := evG R R.length) hs _ (Nat.le_refl _)
 have h2 : (evG R R.length).length * R.length ≤ 1026 * 100 := Nat.mul_le_mul hevl hn
 refine ⟨by unfold waR; omega, fun a ha => ?_⟩
 unfold waR waP at ha
 obtain ⟨e, _, h⟩ := List.mem_flatMap.1 ha
 obtain ⟨x, hx, rfl⟩ := List.mem_map.1 h
 exact (wAL_bd hlo hs).2 x hx
end Go.Proofs.YtglchakimolfdaaGreatDoor
