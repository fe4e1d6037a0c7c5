/- The reference's small functions of lists of numbers. The reference's Ints, Sets, LessInts. The reference's LessInts. ref25.Events, saturated, rounds, silent, Delay. Truth values compared. ref25.rounds, silent, Delay. ref25.SilentEqual, and both at any systems. -/
import Derived.Test.YtahnebicgbjonaaGreatZk
import Derived.Test.YtahnebicgbjonaaGreatMG
import Derived.Test.YtahnebicgbjonaaGreatG45
import Derived.Test.YtahnebicgbjonaaGreatG72
import Derived.Test.YtahnebicgbjonaaGreatG12
import Derived.Test.YtahnebicgbjonaaGreatMK
import Derived.Test.YtahnebicgbjonaaGreatG77
import Derived.Test.YtahnebicgbjonaaGreatMda
namespace Go.Proofs.YtahnebicgbjonaaGreat
set_option linter.unusedVariables false
set_option linter.unusedSimpArgs false
open Go.RowKit
set_option maxRecDepth 100000

end Go.Proofs.YtahnebicgbjonaaGreat
namespace Go.Proofs.YtahnebicgbjonaaGreat
set_option linter.unusedVariables false
set_option linter.unusedSimpArgs false
open Go.RowKit
set_option maxRecDepth 100000

theorem rints_fc (xs ys : List Int) (hn : xs.length ≤ 140737488355328) (hm : ys.length ≤ 140737488355328) : FC Tryz.prog 11 [aInts xs, aInts ys] [] (fun r o => o = [] ∧ r = .b (decide (xs = ys))) := by
 refine fc_intro Tryz.func11 rfl (by rw [Tryz.ntmps11]; simp) ?_
 rw [Tryz.ntmps11]
 simp only [enum, aInts]
 (refine wk1 @tInts_len ?_;(repeat clear hK K);repeat refine kq fun K hK=>?_)
 (refine aw_cnd ?_; intro X Y hX hY; simp only [go_sem])
 refine ⟨fun h => hX ?_, fun h => hY ?_⟩
 ·clear hX hY X Y
  (refine wk0 ?_;(repeat clear hK K);repeat refine kq fun K hK=>?_)
  refine rq0 Tryz.results11 ?_
  have : xs ≠ ys := by rintro rfl; simp at h
  simp [this]
 ·clear hX hY X Y
  have hlen : xs.length = ys.length := by simp at h; omega
  clear h
  (refine wk0 ?_;(repeat clear hK K);repeat refine kq fun K hK=>?_)
  refine aw_loop (fun k : Nat => { tm := [(0, .a (.c (.t 1 (tInts xs)))), (1, .a (.c (.t 1 (tInts ys)))), (5, .i k)], hp := [], n := 26, pin := 0 }) (fun k => k ≤ xs.length ∧ xs.take k = ys.take k) (fun k => xs.length - k) 0 ?_ ?_ ?_
  ·exact ⟨by omega, rfl⟩
  ·exact lmz
  ·rintro k ⟨hk, he⟩ K hK
   (refine wk1 @tInts_len ?_;(repeat clear hK K);repeat refine kq fun K hK=>?_)
   (refine aw_cnd ?_; intro X Y hX hY; simp only [go_sem])
   refine ⟨fun h => hX ?_, fun h => hY ?_⟩
   ·have hlt : k < xs.length := by simpa using h
    have hlt2 : k < ys.length := by omega
    clear hX hY X Y h
    (refine wk0 ?_;(repeat clear hK K);repeat refine kq fun K hK=>?_)
    (refine aw_regionU 8 [(0, 0), (1, 0), (2, 0), (3, 1), (4, 0), (5, 0), (6, 0), (7, 1), (8, 2)] (by kernel_rfl) (by kernel_rfl) (by intro c st h; simp [ThenA, InBl, Ret] at h) ?_)
    (refine uk1 (an @tInts_len (an (tInts_get (List.getElem?_eq_getElem hlt)) (tInts_get (List.getElem?_eq_getElem hlt2)))) ?_; repeat clear hK K)
    (refine aw_cnd ?_; intro X Y hX hY; simp only [go_sem])
    refine ⟨fun h => hX ?_, fun h => hY ?_⟩
    ·clear hX hY X Y
     (refine wk0 ?_;(repeat clear hK K);repeat refine kq fun K hK=>?_)
     refine rq0 Tryz.results11 ?_
     have : xs ≠ ys := by rintro rfl; simp at h
     simp [this]
    ·clear hX hY X Y
     (refine wk0 ?_;(repeat clear hK K);repeat refine kq fun K hK=>?_)
     refine rnz ?_
     refine hK _ (k + 1) ⟨by omega, ?_⟩ (by omega) ?_
     ·have h1 : xs[k] = ys[k] := by simpa using h
      rw [List.take_succ_eq_append_getElem hlt, List.take_succ_eq_append_getElem hlt2, he, h1]
     ·exact lmz
   ·have hge : k = xs.length := by simp at h; omega
    clear hX hY X Y
    (refine ekz ?_;repeat clear hK K)
    (refine wk0 ?_;(repeat clear hK K);repeat refine kq fun K hK=>?_)
    refine rq0 Tryz.results11 ?_
    have : xs = ys := by
     rw [hge, List.take_length, hlen, List.take_length] at he
     exact he
    simp [this]
end Go.Proofs.YtahnebicgbjonaaGreat
namespace Go.Proofs.YtahnebicgbjonaaGreat
set_option linter.unusedVariables false
set_option linter.unusedSimpArgs false
open Go.RowKit
set_option maxRecDepth 100000

end Go.Proofs.YtahnebicgbjonaaGreat
namespace Go.Proofs.YtahnebicgbjonaaGreat
set_option linter.unusedVariables false
set_option linter.unusedSimpArgs false
open Go.RowKit
set_option maxRecDepth 100000
attribute [local go_sem] List.set_cons_zero List.set_cons_succ List.map_cons List.map_nil List.take_succ_cons List.take_zero List.drop_zero List.drop_succ_cons C.pl C.one List.all_cons List.all_nil Bool.and_true Nat.mul_one Int.toNat_natCast

theorem evI_take {R : List (List Ar)} (hb : ∀ r ∈ R, ∀ a ∈ r, 0 ≤ a.1 ∧ a.1 ≤ 1025) {s k : Nat} (hs : s < R.length) : (evI (evG R s) (R[s].take k)).length ≤ 1026 := by
 obtain ⟨h1, h2, _, _⟩ := evG_ok hb s (by omega)
 refine asc_bd (evI_asc _ _ h1) fun x hx => ?_
 rcases (mem_evI _ _).1 hx with h | ⟨a, ha, rfl⟩
 ·simpa using h2 x h
 ·have := hb _ (List.getElem_mem hs) a (List.mem_of_mem_take ha); omega
set_option maxHeartbeats 2000000 in
theorem evs_fc (R : List (List Ar)) (hb : ∀ r ∈ R, ∀ a ∈ r, 0 ≤ a.1 ∧ a.1 ≤ 1025) (hn : R.length ≤ 1000000) (hr : ∀ r ∈ R, r.length ≤ 1000000) : FC Tryz.prog 68 [aLts R] [] (fun r o => o = [] ∧ r = aInts (evG R R.length)) := by
 refine fc_intro Tryz.func68 rfl (by rw [Tryz.ntmps68]; simp) ?_
 rw [Tryz.ntmps68]
 simp only [enum, aLts]
 (refine wk0 ?_;(repeat clear hK K);repeat refine kq fun K hK=>?_)
 (refine aw_le (le_frz (r := ⟨3, 1, true, cInts [0]⟩) 1 (tInts [0]) rfl (fz_c _) (show 0 < (1 : Nat) by omega)) ?_; simp only [ST.frz, A0.frz, AV.frz, C.frz, Nat.le_refl, List.set_cons_zero, List.set_cons_succ, go_sem, tInts_one, show (if 1 ≤ (tInts [0]).length then C.t 1 (tInts [0]) else C.u) = C.t 1 (tInts [0]) from rfl])
 refine aw_le (le_pick [0] rfl rfl) ?_
 (try simp only [List.set_nil, List.take_nil, List.take_zero, List.map_append, go_sem])
 have e0 : tInts [0] = tInts (evG R 0) := rfl
 rw [e0]
 refine aw_loop (fun s : Nat => { tm := [(1, .a (.c (.p 0 0))), (3, .a (.c (.t 1 (tInts (evG R s))))), (4, .i s)], hp := [.r ⟨25, 1, false, [.t 1 (tRows R)]⟩], n := 36, pin := 0 }) (fun s => s ≤ R.length) (fun s => R.length - s) 0 ?_ ?_ ?_
 ·omega
 ·exact lmz
 ·rintro s hs K hK
  by_cases hlt : s < R.length
  ·have d1 : decide ((s : Int) < (R.length : Int)) = true := by simpa using hlt
   have hgR := List.getElem?_eq_getElem hlt
   have hrl := hr _ (List.getElem_mem hlt)
   have hev := fun k => evI_take hb (k := k) hlt
   have hsu := evG_succ hlt
   generalize R[s] = row at *
   (refine wk1 (an @tRows_len @d1) ?_;(repeat clear hK K);repeat refine kq fun K hK=>?_)
   refine cxz ?_
   (refine wk0 ?_;(repeat clear hK K);repeat refine kq fun K hK=>?_)
   refine aw_loop (fun k : Nat => { tm := [(1, .a (.c (.p 0 0))), (3, .a (.c (.t 1 (tInts (evI (evG R s) (row.take k)))))), (4, .i s), (5, .i k)], hp := [.r ⟨25, 1, false, [.t 1 (tRows R)]⟩], n := 36, pin := 0 }) (fun k => k ≤ row.length) (fun k => row.length - k) 0 ?_ ?_ ?_
   ·omega
   ·simp only [List.take_zero, evI, List.foldl_nil]
    exact lmz
   ·rintro k hk K hK
    by_cases hlt2 : k < row.length
    ·have d2 : decide ((k : Int) < (row.length : Int)) = true := by simpa using hlt2
     have ha0 := tArcs_c0 hlt2
     have hsn := evI_snoc (evG R s) (row.take k) row[k]
     rw [← List.take_succ_eq_append_getElem hlt2] at hsn
     have hql := hev k
     generalize evI (evG R s) (row.take k) = q at *
     (refine wk1 (an @tRows_len (an (tRows_get hgR) (an @tArcs_len (an @half2 @d2)))) ?_;(repeat clear hK K);repeat refine kq fun K hK=>?_)
     refine cxz ?_
     (refine wk1 (an @tRows_len (an (tRows_get hgR) (an @tArcs_len (an @half2 @ha0)))) ?_;(repeat clear hK K);repeat refine kq fun K hK=>?_)
     (refine ckz (addT_fc q row[k].1 (by omega)) ?_; intro K1 hK1)
     rintro _ _ ⟨rfl, rfl⟩
     (refine bkz ?_; clear hK1 K1)
     (refine wk0 ?_;(repeat clear hK K);repeat refine kq fun K hK=>?_)
     refine rnz ?_
     refine hK _ (k + 1) (by omega) (by omega) ?_
     rw [hsn]
     exact lmz
    ·have d2 : decide ((k : Int) < (row.length : Int)) = false := by simpa using hlt2
     have htr : row.take k = row := List.take_of_length_le (by omega)
     rw [htr, ← hsu]
     (refine wk1 (an @tRows_len (an (tRows_get hgR) (an @tArcs_len (an @half2 @d2)))) ?_;(repeat clear hK K);repeat refine kq fun K hK=>?_)
     refine cyz ?_
     (refine ekz ?_;repeat clear hK K)
     (refine wk0 ?_;(repeat clear hK K);repeat refine kq fun K hK=>?_)
     refine rnz ?_
     refine hK _ (s + 1) (by omega) (by omega) ?_
     exact lmz
  ·have d1 : decide ((s : Int) < (R.length : Int)) = false := by simpa using hlt
   have hse : s = R.length := by omega
   rw [hse] at d1
   rw [hse]
   (refine wk1 (an @tRows_len @d1) ?_;(repeat clear hK K);repeat refine kq fun K hK=>?_)
   refine cyz ?_
   (refine ekz ?_;repeat clear hK K)
   (refine wk0 ?_;(repeat clear hK K);repeat refine kq fun K hK=>?_)
   ((try refine aw_ret ?_); (try simp only [ThenA, InBl]); refine ret_le (le_pick [] rfl rfl) ?_; (try simp only [List.set_nil, List.take_nil, List.take_zero, List.map_append, go_sem]); ((try refine aw_ret ?_); (try refine lst_nil ?_); (try simp only [ThenA, InBl]); refine ret_mk (by first | exact .inl rfl | exact .inr rfl) rfl ?_; simp only [rtn, resA, resL, resV, Tryz.results68, go_sem, true_and, and_true, aInts]))
noncomputable def saB (R : List (List Ar)) (Ev : List Int) (k : Nat) : List (List Ar) := saL R Ev k ++ List.replicate (R.length - k) []
theorem saB_len {R : List (List Ar)} {Ev : List Int} {k : Nat} (h : k ≤ R.length) : (saB R Ev k).length = R.length := by simp [saB, saL_len]; omega
theorem saB_0 {R : List (List Ar)} {Ev : List Int} {k : Nat} (h : k < R.length) : (saB R Ev k).set k [] = saB R Ev k := by
 obtain ⟨q, hq⟩ : ∃ q, R.length - k = q + 1 := ⟨R.length - k - 1, by omega⟩
 unfold saB
 rw [hq, List.replicate_succ, List.set_append_right _ _ (by rw [saL_len]; omega), saL_len, Nat.sub_self, List.set_cons_zero]
theorem saB_set {R : List (List Ar)} {Ev : List Int} {k : Nat} (h : k < R.length) : (saB R Ev k).set k (saR R Ev k) = saB R Ev (k + 1) := by
 obtain ⟨q, hq⟩ : ∃ q, R.length - k = q + 1 := ⟨R.length - k - 1, by omega⟩
 have hq2 : R.length - (k + 1) = q := by omega
 unfold saB
 rw [hq, hq2, List.replicate_succ, List.set_append_right _ _ (by rw [saL_len]; omega), saL_len, Nat.sub_self, List.set_cons_zero]
 simp [saL, List.range_succ]
set_option maxHeartbeats 8000000 in
theorem satD_fc (R : List (List Ar)) (hv : valB R = true) (hn : R.length ≤ 100) (hr : ∀ r ∈ R, r.length ≤ 1000000) : FC Tryz.prog 48 [aLts R, .b true] [] (fun r o => r = .a (.c (.s 0 R.length)) ∧ o = [.r ⟨45, 1, true, cRows (satR R)⟩]) := by
 refine fc_intro Tryz.func48 rfl (by rw [Tryz.ntmps48]; simp) ?_
 rw [Tryz.ntmps48]
 simp only [enum, aLts]
 have hlo : looB R = true := decide_eq_true (of_decide_eq_true hv).1
 have hbd := (of_decide_eq_true hlo).2.2.2
 have hb : ∀ r ∈ R, ∀ a ∈ r, 0 ≤ a.1 ∧ a.1 ≤ 1025 := fun r hr a ha => by have := hbd r hr a ha; omega
 obtain ⟨hE1, hE2, _, _⟩ := evG_ok hb R.length (Nat.le_refl _)
 have hEl : (evG R R.length).length ≤ 1026 := asc_bd hE1 (by simpa using hE2)
 have hsa : satR R = saL R (evG R R.length) R.length := rfl
 (refine wk0 ?_;(repeat clear hK K);repeat refine kq fun K hK=>?_)
 (refine ckz (evs_fc R hb (by omega) hr) ?_; intro K1 hK1)
 rintro _ _ ⟨rfl, rfl⟩
 (refine bkz ?_; clear hK1 K1)
 generalize evG R R.length = Ev at *
 (refine wk1 @tRows_len ?_;(repeat clear hK K);repeat refine kq fun K hK=>?_)
 have e0 : List.replicate R.length (C.o (2, 49) []) = cRowsO (saB R Ev 0) := by simp [cRowsO, saB, saL, tArcs]
 rw [e0]
 refine aw_loop (fun s : Nat => { tm := [(1, .b true), (2, .a (.c (.p 0 0))), (5, .a (.c (.t 1 (tInts Ev)))), (6, .a (.c (.s 1 R.length))), (7, .i s)], hp := [.r ⟨25, 1, false, [.t 1 (tRows R)]⟩, .r ⟨45, 1, true, cRowsO (saB R Ev s)⟩], n := 70, pin := 0 }) (fun s => s ≤ R.length) (fun s => R.length - s) 0 ?_ ?_ ?_
 ·omega
 ·exact lmz
 ·rintro s hs K hK
  by_cases hlt : s < R.length
  ·have d1 : decide ((s : Int) < (R.length : Int)) = true := by simpa using hlt
   have hB0 := saB_0 (Ev := Ev) hlt
   have hB1 := saB_set (Ev := Ev) hlt
   have hBl := saB_len (Ev := Ev) hs
   have hpl := fun k => saP_len hlo (Ev := Ev) hlt k
   unfold saR at hB1
   generalize saB R Ev s = B at *
   (refine wk1 (an @tRows_len @d1) ?_;(repeat clear hK K);repeat refine kq fun K hK=>?_)
   refine cxz ?_
   (refine wk0 ?_;(repeat clear hK K);repeat refine kq fun K hK=>?_)
   refine aw_loop (fun i : Nat => { tm := [(1, .b true), (2, .a (.c (.p 0 0))), (5, .a (.c (.t 1 (tInts Ev)))), (6, .a (.c (.s 1 R.length))), (7, .i s), (8, .i i)], hp := [.r ⟨25, 1, false, [.t 1 (tRows R)]⟩, .r ⟨45, 1, true, cRowsO (B.set s (saP R Ev s i))⟩], n := 70, pin := 0 }) (fun i => i ≤ Ev.length) (fun i => Ev.length - i) 0 ?_ ?_ ?_
   ·omega
   ·have e1 : saP R Ev s 0 = [] := by simp [saP]
    rw [e1, hB0]
    exact lmz
   ·rintro i hi K hK
    by_cases hli : i < Ev.length
    ·have d2 : decide ((i : Int) < (Ev.length : Int)) = true := by simpa using hli
     have ge := tInts_get (List.getElem?_eq_getElem hli)
     have hee := hE2 _ (List.getElem_mem hli)
     have hsu := saP_succ (R := R) (s := s) hli
     have hP := hpl i (by omega)
     have hPb : i * R.length ≤ 1026 * 100 := Nat.mul_le_mul (by omega) hn
     generalize Ev[i] = e at *
     have hok := dAL_ok hv hlt (show 0 ≤ e by omega) (show e ≤ 1025 by omega)
     have hdl := (dAL_bd hlo (e := e) hlt).1
     have hsaE : saE R s e = (dAL R s e).map fun u => (e, u) := rfl
     (refine wk1 (an @tInts_len @d2) ?_;(repeat clear hK K);repeat refine kq fun K hK=>?_)
     refine cxz ?_
     (refine wk0 ?_;(repeat clear hK K);repeat refine kq fun K hK=>?_)
     (refine aw_regionU 6 [(0, 1), (1, 0), (2, 0), (3, 0), (4, 0), (5, 1), (6, 2), (7, 0)] (by kernel_rfl) (by kernel_rfl) (by intro c st h; simp [ThenA, InBl, Ret] at h) ?_)
     (refine uk1 (an @tInts_len @ge) ?_; repeat clear hK K)
     (refine uckz (warr_fc R s e hv hlt (by omega) (by omega) (by omega) hr) ?_; intro K1 hK1)
     rintro _ _ ⟨W, hW, rfl, rfl⟩
     (refine bkz ?_; clear hK1 K1)
     (refine uk0 ?_; repeat clear hK K)
     (refine wk0 ?_;(repeat clear hK K);repeat refine kq fun K hK=>?_)
     refine cxz ?_
     (refine wk0 ?_;(repeat clear hK K);repeat refine kq fun K hK=>?_)
     (refine aw_regionU 6 [(0, 1), (1, 0), (2, 0), (3, 0), (4, 0), (5, 1), (6, 2), (7, 0)] (by kernel_rfl) (by kernel_rfl) (by intro c st h; simp [ThenA, InBl, Ret] at h) ?_)
     (refine uk1 (an @tInts_len @ge) ?_; repeat clear hK K)
     (refine uckz (rdarr_fc R s e (by omega) hr) ?_; intro K1 hK1)
     rintro _ _ ⟨rfl, L, hL, rfl⟩
     have hLL : L = dAL R s e := dArr_uniq hL hok
     subst hLL
     (refine bkz ?_; clear hK1 K1)
     (refine uk0 ?_; repeat clear hK K)
     generalize dAL R s e = L at *
     (refine wk0 ?_;(repeat clear hK K);repeat refine kq fun K hK=>?_)
     refine aw_loop (fun k : Nat => { tm := [(1, .b true), (2, .a (.c (.p 0 0))), (5, .a (.c (.t 1 (tInts Ev)))), (6, .a (.c (.s 1 R.length))), (7, .i s), (8, .i i), (9, .a (.c (.t 1 (tInts L)))), (10, .i k)], hp := [.r ⟨25, 1, false, [.t 1 (tRows R)]⟩, .r ⟨45, 1, true, cRowsO (B.set s (saP R Ev s i ++ (L.take k).map fun u => (e, u)))⟩], n := 70, pin := 0 }) (fun k => k ≤ L.length) (fun k => L.length - k) 0 ?_ ?_ ?_
     ·omega
     ·simp only [List.take_zero, List.map_nil, List.append_nil]
      exact lmz
     ·rintro k hk K hK
      by_cases hlk : k < L.length
      ·have d3 : decide ((k : Int) < (L.length : Int)) = true := by simpa using hlk
       have gl := tInts_get (List.getElem?_eq_getElem hlk)
       have hsn : saP R Ev s i ++ (L.take (k + 1)).map (fun u => (e, u)) = (saP R Ev s i ++ (L.take k).map fun u => (e, u)) ++ [(e, L[k])] := by
        rw [List.take_succ_eq_append_getElem hlk, List.map_append, List.append_assoc]; rfl
       have hol : (saP R Ev s i ++ (L.take k).map fun u => (e, u)).length ≤ 200000 := by simp; omega
       generalize saP R Ev s i ++ (L.take k).map (fun u => (e, u)) = oc at *
       have hgo : (B.set s oc)[s]? = some oc := List.getElem?_set_self (by omega)
       have hsl : (B.set s oc).length = R.length := by simp [hBl]
       (refine wk1 (an @tInts_len @d3) ?_;(repeat clear hK K);repeat refine kq fun K hK=>?_)
       refine cxz ?_
       (refine wk0 ?_;(repeat clear hK K);repeat refine kq fun K hK=>?_)
       (refine aw_regionZ [] (.m 0 0 0 (.m 1 0 0 (.m 2 0 0 (.m 3 0 0 (.m 4 0 0 (.m 5 1 16 (.m 6 0 0 (.m 7 0 0 (.m 8 0 0 (.m 9 1 15 (.m 10 0 0 (.m 11 0 0 (.m 12 0 0 (.m 13 1 15 (.m 14 0 0 (.a 15 (.a 16 (.m 17 0 0 (.a 18 .e))))))))))))))))))) (by kernel_rfl) (by kernel_rfl) (by intro c st h; simp [ThenA, InBl, Ret] at h) ?_)
       (refine zk1 (an @cRowsO_len (an (cRowsO_get hgo) (an @hsl (an @tInts_len (an @ge @gl))))) ?_; repeat clear hK K)
       (refine z_2 rfl rfl ?_; intro K1 hK1; refine stpF_a rfl ?_; simp only [go_sem]; (first | refine hK1 _ ?_ | refine andk (hK1 _ ?_)); clear hK1 K1)
       (refine z_2y rfl rfl rfl ?_; intro K1 hK1; refine stpY_ap rfl rfl rfl rfl (by first | rfl | simp only [rowsB, List.getD_cons_zero, List.getD_cons_succ, hne, List.isEmpty_cons, Bool.not_false, Bool.true_and, Bool.and_true, Bool.and_self]) rfl ?_; simp only [go_sem, tArcs_c, tArcs_len, half2, cArcs_snoc, cRowsO_get hgo]; (first | refine hK1 _ ?_ | refine andk (hK1 _ ?_)); clear hK1 K1)
       (refine zk1 (an @cRowsO_len @hsl) ?_; repeat clear hK K)
       (refine z_3 rfl rfl rfl rfl ?_; intro K1 hK1; refine stp_ev rfl ?_; simp only [go_sem, cRowsO_len, List.length_set, set_two3, hsl]; (first | refine hK1 _ ?_ | refine andk (hK1 _ ?_)); clear hK1 K1)
       refine z_nil ⟨by simp, by simp, ?_⟩
       (try simp only [ThenA, InBl])
       refine hK _ ?_
       clear hK K
       have hj6 : ((cRowsO (B.set s oc)).set s (C.s 3 (oc.length + 1)))[s]? = some (.s 3 (oc.length + 1)) := by rw [List.getElem?_set_self (by rw [cRowsO_len]; omega)]
       have hset6 : ((cRowsO (B.set s oc)).set s (C.s 3 (oc.length + 1))).set s (.o (2, 49) (tArcs (oc ++ [(e, L[k])]))) = cRowsO (B.set s (oc ++ [(e, L[k])])) := by rw [set_two3, cRowsO_set, List.set_set]
       refine aw_le (le_sink (r := ⟨49, 2, true, cArcs (oc ++ [(e, L[k])])⟩) (ri := ⟨45, 1, true, (cRowsO (B.set s oc)).set s (C.s 3 (oc.length + 1))⟩) (ts := tArcs (oc ++ [(e, L[k])])) 1 s 3 (oc.length + 1) (by decide) rfl hj6 rfl rfl (show 0 < 2 by omega) (by rw [cArcs_len]; simp) (fz_ca _)) ?_
       simp only [hset6, go_sem]
       (refine wk0 ?_;(repeat clear hK K);repeat refine kq fun K hK=>?_)
       refine rnz ?_
       refine hK _ (k + 1) (by omega) (by omega) ?_
       refine Le.trans (le_pick [0, 1] rfl rfl) ?_
       (try simp only [List.set_nil, List.take_nil, List.take_zero, List.map_append, go_sem])
       (try simp only [cRowsO_ren])
       rw [hsn]
       exact lmz
      ·have d3 : decide ((k : Int) < (L.length : Int)) = false := by simpa using hlk
       have htk : L.take k = L := List.take_of_length_le (by omega)
       rw [htk, ← hsaE, ← hsu]
       (refine wk1 (an @tInts_len @d3) ?_;(repeat clear hK K);repeat refine kq fun K hK=>?_)
       refine cyz ?_
       (refine ekz ?_;repeat clear hK K)
       (refine wk0 ?_;(repeat clear hK K);repeat refine kq fun K hK=>?_)
       refine rnz ?_
       refine hK _ (i + 1) (by omega) (by omega) ?_
       exact lmz
    ·have d2 : decide ((i : Int) < (Ev.length : Int)) = false := by simpa using hli
     have hie : i = Ev.length := by omega
     rw [hie, hB1]
     rw [hie] at d2
     (refine wk1 (an @tInts_len @d2) ?_;(repeat clear hK K);repeat refine kq fun K hK=>?_)
     refine cyz ?_
     (refine ekz ?_;repeat clear hK K)
     (refine wk0 ?_;(repeat clear hK K);repeat refine kq fun K hK=>?_)
     refine rnz ?_
     refine hK _ (s + 1) (by omega) (by omega) ?_
     exact lmz
  ·have d1 : decide ((s : Int) < (R.length : Int)) = false := by simpa using hlt
   have hse : s = R.length := by omega
   have hend : saB R Ev R.length = satR R := by rw [hsa]; simp [saB]
   rw [hse] at d1
   rw [hse, hend]
   (refine wk1 (an @tRows_len @d1) ?_;(repeat clear hK K);repeat refine kq fun K hK=>?_)
   refine cyz ?_
   (refine ekz ?_;repeat clear hK K)
   refine aw_le (le_ot 1 rfl) ?_
   simp only [cRowsO_ot, go_sem]
   (refine wk0 ?_;(repeat clear hK K);repeat refine kq fun K hK=>?_)
   exact rpc1 [1] Tryz.results48 @cRows_ren
theorem satT_fc (R : List (List Ar)) (hv : valB R = true) (hn : R.length ≤ 100) (hr : ∀ r ∈ R, r.length ≤ 1000000) : FC Tryz.prog 48 [aLts R, .b true] [] (fun r o => o = [] ∧ r = .a (.c (.t 1 (tRows (satR R))))) :=
 (satD_fc R hv hn hr).frz (fz_cr _) (by omega) (by rw [tRows_len, (satR_bd hv hn).1, Nat.mul_one])
theorem stp_beq {P : Program} {o : Oper} {st : ST} {K : ST → Prop} {t yt : TypeId} {x y : Operand} {a b : Bool} (hu : P.underlying t = some .bool) (hd : dok o st.n = true) (ho : o.op = .binOp .eql t x y yt) (hx : st.ev x = .b a) (hy : st.ev y = .b b)
  (h : K (st.put o.dst (.b (a == b)))) : Stp P o st K := by
 refine stp_val (v := .b (a == b)) hd (fun g w ρ hr hR => ?_) h
 have e1 := hR x
 have e2 := hR y
 rw [hx] at e1
 rw [hy] at e2
 have e1 : ρ x = .bool a := e1
 have e2 : ρ y = .bool b := e2
 refine ⟨.bool (a == b), ?_, rfl⟩
 obtain ⟨dst, op, ty, pos, af, gd⟩ := o
 simp only at ho
 subst ho
 simp only [execOp, e1, e2]
 simp [eqGuard, binOp, run_eqB hu]
theorem stp_bne {P : Program} {o : Oper} {st : ST} {K : ST → Prop} {t yt : TypeId} {x y : Operand} {a b : Bool} (hu : P.underlying t = some .bool) (hd : dok o st.n = true) (ho : o.op = .binOp .neq t x y yt) (hx : st.ev x = .b a) (hy : st.ev y = .b b)
  (h : K (st.put o.dst (.b (!(a == b))))) : Stp P o st K := by
 refine stp_val (v := .b (!(a == b))) hd (fun g w ρ hr hR => ?_) h
 have e1 := hR x
 have e2 := hR y
 rw [hx] at e1
 rw [hy] at e2
 have e1 : ρ x = .bool a := e1
 have e2 : ρ y = .bool b := e2
 refine ⟨.bool (!(a == b)), ?_, rfl⟩
 obtain ⟨dst, op, ty, pos, af, gd⟩ := o
 simp only at ho
 subst ho
 simp only [execOp, e1, e2]
 simp [eqGuard, binOp, run_eqB hu]
theorem cS_take (xs : List (List Int)) (n : Nat) : (cSets xs).take n = cSets (xs.take n) := by simp [cSets, List.map_take]
theorem cS_snoc (xs : List (List Int)) (x : List Int) : cSets xs ++ [.t 1 (tInts x)] = cSets (xs ++ [x]) := by simp [cSets]
theorem splitT_fc (S : List (List Ar)) (c : List Int) (hn : S.length ≤ 1000000) (hr : ∀ r ∈ S, r.length ≤ 1000000) (hc : c.length = S.length) (hb : ∀ r ∈ S, ∀ a ∈ r, 0 ≤ a.2 ∧ a.2 < (S.length : Int)) : FC Tryz.prog 67 [.a (.c (.t 1 (tRows S))), aInts c] [] (fun r o => o = [] ∧ r = .a (.c (.t 1 (tInts (nxS S c))))) :=
 (split_fc S c hn hr hc hb).frz (fz_c _) (by omega) (by rw [tInts_len, (nx_nrm S c).len, Nat.mul_one])
def RdH (S : List (List Ar)) (c : List Int) (H : List (List Int)) : Prop := ∃ k, H.length = k + 1 ∧ H[k]? = some (itS S c k) ∧ Nrm S.length (itS S c k) ∧ k ≤ S.length ∧ nxS S (itS S c k) = itS S c k
set_option maxHeartbeats 2000000 in
theorem rounds_fc (S : List (List Ar)) (c : List Int) (hn : S.length ≤ 1000000) (hr : ∀ r ∈ S, r.length ≤ 1000000) (hc : Nrm S.length c) (hb : ∀ r ∈ S, ∀ a ∈ r, 0 ≤ a.2 ∧ a.2 < (S.length : Int)) : FC Tryz.prog 47 [.a (.c (.t 1 (tRows S))), aInts c] [] (fun r o => ∃ H, RdH S c H ∧ r = .a (.c (.s 0 H.length)) ∧ o = [.r ⟨22, 1, true, cSets H⟩]) := by
 refine fc_intro Tryz.func47 rfl (by rw [Tryz.ntmps47]; simp) ?_
 rw [Tryz.ntmps47]
 simp only [enum, aInts]
 (refine wk0 ?_;(repeat clear hK K);repeat refine kq fun K hK=>?_)
 refine aw_loop (fun x : Nat × List (List Int) => { tm := [(0, .a (.c (.t 1 (tRows S)))), (5, .a (.c (.s 0 x.2.length)))], hp := [.r ⟨22, 1, true, cSets x.2⟩], n := 27, pin := 0 }) (fun x => x.2.length = x.1 + 1 ∧ x.2[x.1]? = some (itS S c x.1) ∧ Nrm S.length (itS S c x.1) ∧ x.1 ≤ cntC S.length (itS S c x.1)) (fun x => S.length + 1 - cntC S.length (itS S c x.1)) (0, [c]) ?_ ?_ ?_
 ·exact ⟨rfl, rfl, hc, Nat.zero_le _⟩
 ·have e0 : [C.t 1 (tInts c)] = cSets [c] := rfl
  simp only [e0, List.length_cons, List.length_nil]
  exact lmz
 ·rintro ⟨k, H⟩ ⟨hl, hg, hN, hk⟩ K hK
  simp only at hl hg hN hk ⊢
  have hcn := cnt_le S.length (itS S c k)
  have hit : itS S c (k + 1) = nxS S (itS S c k) := rfl
  have hnl := nx_lt hN
  have hnn := nx_nrm S (itS S c k)
  have hNl := hN.len
  have e1 : ((H.length : Int) - 1) = (k : Int) := by omega
  have gl : (cSets H)[k]? = some (.t 1 (tInts (itS S c k))) := cSets_get hg
  have hsp := splitT_fc S (itS S c k) hn hr hNl hb
  generalize hd : itS S c k = d at *
  (refine wk1 (an @e1 (an @cSets_len @gl)) ?_;(repeat clear hK K);repeat refine kq fun K hK=>?_)
  (refine ckz hsp ?_; intro K1 hK1)
  rintro _ _ ⟨rfl, rfl⟩
  (refine bkz ?_; clear hK1 K1)
  (refine wk0 ?_;(repeat clear hK K);repeat refine kq fun K hK=>?_)
  (refine ckz (rints_fc d (nxS S d) (by omega) (by have := hnn.len; omega)) ?_; intro K1 hK1)
  rintro _ _ ⟨rfl, rfl⟩
  (refine bkz ?_; clear hK1 K1)
  by_cases he : d = nxS S d
  ·have d1 : decide (d = nxS S d) = true := by simpa using he
   rw [d1]
   (refine wk0 ?_;(repeat clear hK K);repeat refine kq fun K hK=>?_)
   refine cxz ?_
   (refine wk0 ?_;(repeat clear hK K);repeat refine kq fun K hK=>?_)
   refine rp1 [0] Tryz.results47 @cSets_ren ?_
   exact ⟨H, ⟨k, hl, by rw [hd]; exact hg, by rw [hd]; exact hN, by omega, by rw [hd]; exact he.symm⟩, rfl, rfl⟩
  ·have d1 : decide (d = nxS S d) = false := by simpa using he
   rw [d1]
   have hlt := hnl (Ne.symm he)
   have hnc := cnt_le S.length (nxS S d)
   (refine wk0 ?_;(repeat clear hK K);repeat refine kq fun K hK=>?_)
   refine cyz ?_
   (refine wk1 (an @cS_take (an @cS_snoc (an @tSets_len (an @cSets_len @List.take_length.{0})))) ?_;(repeat clear hK K);repeat refine kq fun K hK=>?_)
   refine rnz ?_
   refine hK _ (k + 1, H ++ [nxS S d]) ⟨by simp [hl], ?_, ?_, ?_⟩ ?_ ?_
   ·simp only
    rw [hit, List.getElem?_append_right (by omega), hl, Nat.sub_self]; rfl
   ·simp only; rw [hit]; exact hnn
   ·simp only; rw [hit]; omega
   ·simp only; rw [hit]; omega
   ·refine Le.trans (le_pick [2] rfl rfl) ?_
    (try simp only [List.set_nil, List.take_nil, List.take_zero, List.map_append, go_sem])
    (try simp only [cSets_ren])
    simp only [List.length_append, List.length_singleton]
    exact lmz
theorem roundsT_fc (S : List (List Ar)) (c : List Int) (hn : S.length ≤ 1000000) (hr : ∀ r ∈ S, r.length ≤ 1000000) (hc : Nrm S.length c) (hb : ∀ r ∈ S, ∀ a ∈ r, 0 ≤ a.2 ∧ a.2 < (S.length : Int)) : FC Tryz.prog 47 [.a (.c (.t 1 (tRows S))), aInts c] [] (fun r o => ∃ H, RdH S c H ∧ o = [] ∧ r = .a (.c (.t 1 (tSets H)))) :=
 (rounds_fc S c hn hr hc hb).frzP (fun H => fz_st H) (by omega) (fun H _ => by rw [tSets_len, Nat.mul_one])
def dvB (B : List Bool) (n s : Nat) : List Int := dvC B s ++ List.replicate (n - s) 0
theorem dvB_len {B : List Bool} {n s : Nat} (h : s ≤ n) : (dvB B n s).length = n := by simp [dvB, dvC_len]; omega
theorem dvB_step {B : List Bool} {n s : Nat} (h : s < n) : (dvB B n s).set s (dv0 B s) = dvB B n (s + 1) := by
 obtain ⟨q, hq⟩ : ∃ q, n - s = q + 1 := ⟨n - s - 1, by omega⟩
 have hq2 : n - (s + 1) = q := by omega
 unfold dvB
 rw [hq, hq2, List.replicate_succ, List.set_append_right _ _ (by rw [dvC_len]; omega), dvC_len, Nat.sub_self, List.set_cons_zero]
 simp [dvC, List.range_succ]
theorem dvB_zero {B : List Bool} {n s : Nat} (h : s < n) (h0 : dv0 B s = 0) : dvB B n s = dvB B n (s + 1) := by
 rw [← dvB_step h, h0]
 obtain ⟨q, hq⟩ : ∃ q, n - s = q + 1 := ⟨n - s - 1, by omega⟩
 unfold dvB
 rw [hq, List.replicate_succ, List.set_append_right _ _ (by rw [dvC_len]; omega), dvC_len, Nat.sub_self, List.set_cons_zero]
set_option maxHeartbeats 2000000 in
theorem sil_fc (R : List (List Ar)) (hv : valB R = true) (hn : R.length ≤ 100) (hr : ∀ r ∈ R, r.length ≤ 1000000) : FC Tryz.prog 30 [aLts R, .b true] [] (fun r o => ∃ c, DlC R c ∧ Nrm R.length c ∧ o = [] ∧ r = aInts c) := by
 refine fc_intro Tryz.func30 rfl (by rw [Tryz.ntmps30]; simp) ?_
 rw [Tryz.ntmps30]
 simp only [enum, aLts]
 have hlo : looB R = true := decide_eq_true (of_decide_eq_true hv).1
 have h1 : 1 ≤ R.length := (of_decide_eq_true hlo).1
 (refine wk0 ?_;(repeat clear hK K);repeat refine kq fun K hK=>?_)
 (refine ckz (rdvgT_fc R hv (by omega) hr) ?_; intro K1 hK1)
 rintro _ _ ⟨B, hB, rfl, rfl⟩
 (refine bkz ?_; clear hK1 K1)
 have hBl := hB.1
 have hB2 : ∀ s, s < R.length → B[s]? = some (B.getD s false) := fun s hs => by rw [List.getD_eq_getElem?_getD, List.getElem?_eq_getElem (by omega)]; rfl
 (refine wk1 @tRows_len ?_;(repeat clear hK K);repeat refine kq fun K hK=>?_)
 have e0 : List.replicate R.length (C.v (.int .i64 0)) = cInts (dvB B R.length 0) := by simp [cInts, dvB, dvC]
 rw [e0]
 refine aw_loop (fun s : Nat => { tm := [(1, .b true), (2, .a (.c (.p 0 0))), (5, .a (.c (.t 1 (tBs B)))), (6, .a (.c (.s 1 R.length))), (7, .i s)], hp := [.r ⟨25, 1, false, [.t 1 (tRows R)]⟩, .r ⟨3, 1, true, cInts (dvB B R.length s)⟩], n := 43, pin := 0 }) (fun s => s ≤ R.length) (fun s => R.length - s) 0 ?_ ?_ ?_
 ·omega
 ·exact lmz
 ·rintro s hs K hK
  by_cases hlt : s < R.length
  ·have d1 : decide ((s : Int) < (R.length : Int)) = true := by simpa using hlt
   have gs := tBs_get (hB2 s hlt)
   have g0 := tBs_get (hB2 0 (by omega))
   have hl := dvB_len (B := B) hs
   have hst := dvB_step (B := B) hlt
   have hz := dvB_zero (B := B) hlt
   by_cases hq : B.getD s false = B.getD 0 false
   ·have d2 : (B.getD s false == B.getD 0 false) = true := by rw [hq]; simp
    have h0 : dv0 B s = 0 := by unfold dv0; rw [if_pos hq]
    (refine wk1 @d1 ?_;(repeat clear hK K);repeat refine kq fun K hK=>?_)
    refine cxz ?_
    (refine wk0 ?_;(repeat clear hK K);repeat refine kq fun K hK=>?_)
    (refine aw_regionU 7 [(0, 0), (1, 0), (2, 0), (3, 1), (4, 0), (5, 0), (6, 1), (7, 2)] (by kernel_rfl) (by kernel_rfl) (by intro c st h; simp [ThenA, InBl, Ret] at h) ?_)
    (refine uk1 (an @tBs_len (an @hBl (an @gs (an @g0 @Int.toNat_zero)))) ?_; repeat clear hK K)
    (refine u_w rfl rfl rfl ?_; intro K1 hK1; refine stp_bne (a := B.getD s false) (b := B.getD 0 false) Tryz.underlying4 rfl rfl (by simp only [go_sem]) (by simp only [go_sem]) ?_; simp only [go_sem, d2, Bool.not_true, Bool.not_false]; refine hK1 _ ?_; clear hK1 K1)
    (refine uk0 ?_; repeat clear hK K)
    refine cyz ?_
    (refine wk0 ?_;(repeat clear hK K);repeat refine kq fun K hK=>?_)
    refine rnz ?_
    refine hK _ (s + 1) (by omega) (by omega) ?_
    rw [hz h0]
    exact lmz
   ·have d2 : (B.getD s false == B.getD 0 false) = false := by simpa using hq
    have h0 : dv0 B s = 1 := by unfold dv0; rw [if_neg hq]
    rw [h0] at hst
    (refine wk1 @d1 ?_;(repeat clear hK K);repeat refine kq fun K hK=>?_)
    refine cxz ?_
    (refine wk0 ?_;(repeat clear hK K);repeat refine kq fun K hK=>?_)
    (refine aw_regionU 7 [(0, 0), (1, 0), (2, 0), (3, 1), (4, 0), (5, 0), (6, 1), (7, 2)] (by kernel_rfl) (by kernel_rfl) (by intro c st h; simp [ThenA, InBl, Ret] at h) ?_)
    (refine uk1 (an @tBs_len (an @hBl (an @gs (an @g0 @Int.toNat_zero)))) ?_; repeat clear hK K)
    (refine u_w rfl rfl rfl ?_; intro K1 hK1; refine stp_bne (a := B.getD s false) (b := B.getD 0 false) Tryz.underlying4 rfl rfl (by simp only [go_sem]) (by simp only [go_sem]) ?_; simp only [go_sem, d2, Bool.not_true, Bool.not_false]; refine hK1 _ ?_; clear hK1 K1)
    (refine uk0 ?_; repeat clear hK K)
    refine cxz ?_
    (refine wks1 (an @cInts_len (an @hl (an @cInts_set @hst))) ?_;(repeat clear hK K);repeat refine kq fun K hK=>?_)
    refine rnz ?_
    refine hK _ (s + 1) (by omega) (by omega) ?_
    exact lmz
  ·have d1 : decide ((s : Int) < (R.length : Int)) = false := by simpa using hlt
   have hse : s = R.length := by omega
   have hend : dvB B R.length R.length = dvC B R.length := by simp [dvB]
   rw [hse] at d1
   rw [hse, hend]
   (refine wk1 @d1 ?_;(repeat clear hK K);repeat refine kq fun K hK=>?_)
   refine cyz ?_
   (refine ekz ?_;repeat clear hK K)
   have hcl := dvC_len B R.length
   have hcn := dvC_nrm B h1
   have htk : (tInts (dvC B R.length)).take R.length = tInts (dvC B R.length) := List.take_of_length_le (by rw [tInts_len]; omega)
   have hif : (if R.length ≤ (tInts (dvC B R.length)).length then C.t 1 (tInts (dvC B R.length)) else C.u) = C.t 1 (tInts (dvC B R.length)) := if_pos (by rw [tInts_len]; omega)
   (refine aw_le (le_frz (r := ⟨3, 1, true, cInts (dvC B R.length)⟩) 1 (tInts (dvC B R.length)) rfl (fz_c _) (show 0 < (1 : Nat) by omega)) ?_; simp only [ST.frz, A0.frz, AV.frz, C.frz, Nat.le_refl, List.set_cons_zero, List.set_cons_succ, go_sem, htk, hif])
   obtain ⟨hSl, hSr⟩ := satR_bd hv hn
   (refine wk0 ?_;(repeat clear hK K);repeat refine kq fun K hK=>?_)
   (refine ckz (satT_fc R hv hn hr) ?_; intro K1 hK1)
   rintro _ _ ⟨rfl, rfl⟩
   (refine bkz ?_; clear hK1 K1)
   (refine wk0 ?_;(repeat clear hK K);repeat refine kq fun K hK=>?_)
   (refine ckz (roundsT_fc (satR R) (dvC B R.length) (by omega) (fun r h => (hSr r h).1) (by rw [hSl]; exact hcn) (fun r h a ha => by rw [hSl]; exact (hSr r h).2 a ha)) ?_; intro K1 hK1)
   rintro _ _ ⟨H, ⟨k, hH1, hH2, hH3, hH4, hH5⟩, rfl, rfl⟩
   (refine bkz ?_; clear hK1 K1)
   have e1 : ((H.length : Int) - 1) = (k : Int) := by omega
   have gl := tSets_get hH2
   (refine wk1 (an @tSets_len (an @e1 @gl)) ?_;(repeat clear hK K);repeat refine kq fun K hK=>?_)
   refine rp0 [] Tryz.results30 ?_
   exact ⟨_, ⟨B, hB, k, rfl, hH5⟩, by have h := hH3; rw [hSl] at h; exact h, rfl⟩
set_option maxHeartbeats 4000000 in
theorem seq_fc (A R : List (List Ar)) (hA : valB A = true) (hv : valB R = true) (hn : A.length + R.length ≤ 100) (ht : totA A + totA R ≤ 1000) (hrA : ∀ r ∈ A, r.length ≤ 1000000) (hr : ∀ r ∈ R, r.length ≤ 1000000) : FC Tryz.prog 21 [aLts A, aLts R, .b true] [] (fun r o => o = [] ∧ r = .b (EqD A R)) := by
 refine fc_intro Tryz.func21 rfl (by rw [Tryz.ntmps21]; simp) ?_
 rw [Tryz.ntmps21]
 simp only [enum, aLts]
 have hz := bth_val hA hv hn ht
 have hzn : (bthR A R).length ≤ 100 := by rw [bthR_len]; exact hn
 have hzr := bth_row hrA hr
 have hA1 : 1 ≤ A.length := (of_decide_eq_true (decide_eq_true (of_decide_eq_true hA).1 : looB A = true)).1
 have hR1 : 1 ≤ R.length := (of_decide_eq_true (decide_eq_true (of_decide_eq_true hv).1 : looB R = true)).1
 have hvb := (of_decide_eq_true hv).1.2.2.2
 (refine wk0 ?_;(repeat clear hK K);repeat refine kq fun K hK=>?_)
 (refine ckz (validR_fc A (by omega) (fun r h => by have := hrA r h; omega)) ?_; intro K1 hK1)
 rintro _ _ ⟨rfl, rfl⟩
 (refine bkz ?_; clear hK1 K1)
 rw [hA]
 (refine wk1 @Bool.not_true ?_;(repeat clear hK K);repeat refine kq fun K hK=>?_)
 (refine lst_goU rfl rfl (by simp only [go_sem] <;> rfl) ?_; intro K1 hK1; refine (stp_call0 (ids := []) (validR_fc R (by omega) (fun r h => by have := hr r h; omega)) rfl rfl (by simp only [go_sem]) (by kernel_rfl) (by (simp only [List.append_nil, go_sem]) <;> rfl) ?_).stp)
 rintro _ _ ⟨rfl, rfl⟩
 (refine bkz ?_; clear hK1 K1)
 rw [hv]
 (refine wk1 @Bool.not_true ?_;(repeat clear hK K);repeat refine kq fun K hK=>?_)
 refine cyz ?_
 (refine wk0 ?_;(repeat clear hK K);repeat refine kq fun K hK=>?_)
 (refine ckz (both_fc A R (by omega) (by omega) hr (fun r h x hx => by have := hvb r h x hx; omega)) ?_; intro K1 hK1)
 rintro _ _ ⟨rfl, rfl⟩
 (simp only [aInts, aSets, aLts, List.append_nil, List.nil_append, List.length_map, go_sem]; refine hK1 _ ?_; clear hK1 K1)
 (refine wk0 ?_;(repeat clear hK K);repeat refine kq fun K hK=>?_)
 (refine ckz (sil_fc (bthR A R) hz hzn hzr) ?_; intro K1 hK1)
 rintro _ _ ⟨c, hc, hN, rfl, rfl⟩
 have hcl : c.length = A.length + R.length := by rw [hN.len, bthR_len]
 (refine bkz ?_; clear hK1 K1)
 (refine wk0 ?_;(repeat clear hK K);repeat refine kq fun K hK=>?_)
 (refine aw_regionU 10 [(0, 0), (1, 0), (2, 1), (3, 0), (4, 0), (5, 1), (6, 0), (7, 0), (8, 1), (9, 0), (10, 2)] (by kernel_rfl) (by kernel_rfl) (by intro c st h; simp [ThenA, InBl, Ret] at h) ?_)
 (refine uk1 (an @Int.toNat_zero (an @tRows_len (an @tInts_len (an (getD_some (c := c) (i := 0) (by omega)) (getD_some (c := c) (i := A.length) (by omega)))))) ?_; repeat clear hK K)
 have he : (c.getD 0 0 == c.getD A.length 0) = EqD A R := EqD.of hA hv hc
 simp only [he]
 exact rpc0 [] Tryz.results21
theorem seq_no (A R : List (List Ar)) (h : valB A = false ∨ valB R = false) (hn : A.length ≤ 1000000) (hn2 : R.length ≤ 1000000) (hrA : ∀ r ∈ A, r.length ≤ 1000000) (hr : ∀ r ∈ R, r.length ≤ 1000000) : FC Tryz.prog 21 [aLts A, aLts R, .b true] [] (fun r o => o = [] ∧ r = .b (EqD A R)) := by
 refine fc_intro Tryz.func21 rfl (by rw [Tryz.ntmps21]; simp) ?_
 rw [Tryz.ntmps21]
 rw [EqD.no h]
 simp only [enum, aLts]
 (refine wk0 ?_;(repeat clear hK K);repeat refine kq fun K hK=>?_)
 (refine ckz (validR_fc A (by omega) (fun r h => by have := hrA r h; omega)) ?_; intro K1 hK1)
 rintro _ _ ⟨rfl, rfl⟩
 (refine bkz ?_; clear hK1 K1)
 cases hA : valB A with
 | false =>
  (refine wk1 @Bool.not_false ?_;(repeat clear hK K);repeat refine kq fun K hK=>?_)
  refine cxz ?_
  (refine wk0 ?_;(repeat clear hK K);repeat refine kq fun K hK=>?_)
  exact rpc0 [] Tryz.results21
 | true =>
  have hv : valB R = false := by rcases h with h | h; (rw [hA] at h; cases h); exact h
  (refine wk1 @Bool.not_true ?_;(repeat clear hK K);repeat refine kq fun K hK=>?_)
  (refine lst_goU rfl rfl (by simp only [go_sem] <;> rfl) ?_; intro K1 hK1; refine (stp_call0 (ids := []) (validR_fc R (by omega) (fun r h => by have := hr r h; omega)) rfl rfl (by simp only [go_sem]) (by kernel_rfl) (by (simp only [List.append_nil, go_sem]) <;> rfl) ?_).stp)
  rintro _ _ ⟨rfl, rfl⟩
  (refine bkz ?_; clear hK1 K1)
  rw [hv]
  (refine wk1 (an @Bool.not_true @Bool.not_false) ?_;(repeat clear hK K);repeat refine kq fun K hK=>?_)
  refine cxz ?_
  (refine wk0 ?_;(repeat clear hK K);repeat refine kq fun K hK=>?_)
  exact rpc0 [] Tryz.results21
theorem deq_no (A R : List (List Ar)) (h : valB A = false ∨ valB R = false) (hn : A.length ≤ 1000000) (hn2 : R.length ≤ 1000000) (hrA : ∀ r ∈ A, r.length ≤ 1000000) (hr : ∀ r ∈ R, r.length ≤ 1000000) : FC Tryz.prog 20 [aLts A, aLts R] [] (fun r o => o = [] ∧ r = .b (EqD A R)) := by
 refine fc_intro Tryz.func20 rfl (by rw [Tryz.ntmps20]; simp) ?_
 rw [Tryz.ntmps20]
 rw [EqD.no h]
 simp only [enum, aLts]
 (refine wk0 ?_;(repeat clear hK K);repeat refine kq fun K hK=>?_)
 (refine ckz (valid_fc A (by omega) (fun r h => by have := hrA r h; omega)) ?_; intro K1 hK1)
 rintro _ _ ⟨rfl, rfl⟩
 (refine bkz ?_; clear hK1 K1)
 cases hA : valB A with
 | false =>
  (refine wk1 @Bool.not_false ?_;(repeat clear hK K);repeat refine kq fun K hK=>?_)
  refine cxz ?_
  (refine wk0 ?_;(repeat clear hK K);repeat refine kq fun K hK=>?_)
  exact rpc0 [] Tryz.results20
 | true =>
  have hv : valB R = false := by rcases h with h | h; (rw [hA] at h; cases h); exact h
  (refine wk1 @Bool.not_true ?_;(repeat clear hK K);repeat refine kq fun K hK=>?_)
  (refine lst_goU rfl rfl (by simp only [go_sem] <;> rfl) ?_; intro K1 hK1; refine (stp_call0 (ids := []) (valid_fc R (by omega) (fun r h => by have := hr r h; omega)) rfl rfl (by simp only [go_sem]) (by kernel_rfl) (by (simp only [List.append_nil, go_sem]) <;> rfl) ?_).stp)
  rintro _ _ ⟨rfl, rfl⟩
  (refine bkz ?_; clear hK1 K1)
  rw [hv]
  (refine wk1 (an @Bool.not_true @Bool.not_false) ?_;(repeat clear hK K);repeat refine kq fun K hK=>?_)
  refine cxz ?_
  (refine wk0 ?_;(repeat clear hK K);repeat refine kq fun K hK=>?_)
  exact rpc0 [] Tryz.results20
theorem val_cases (A R : List (List Ar)) : (valB A = true ∧ valB R = true) ∨ (valB A = false ∨ valB R = false) := by
 cases valB A <;> cases valB R <;> simp
theorem seqA_fc (A R : List (List Ar)) (hn : A.length + R.length ≤ 100) (ht : totA A + totA R ≤ 1000) (hrA : ∀ r ∈ A, r.length ≤ 1000000) (hr : ∀ r ∈ R, r.length ≤ 1000000) : FC Tryz.prog 21 [aLts A, aLts R, .b true] [] (fun r o => o = [] ∧ r = .b (EqD A R)) := by
 rcases val_cases A R with ⟨h1, h2⟩ | h
 ·exact seq_fc A R h1 h2 hn ht hrA hr
 ·exact seq_no A R h (by omega) (by omega) hrA hr
theorem deqA_fc (A R : List (List Ar)) (hn : A.length + R.length ≤ 100) (ht : totA A + totA R ≤ 1000) (hrA : ∀ r ∈ A, r.length ≤ 1000000) (hr : ∀ r ∈ R, r.length ≤ 1000000) : FC Tryz.prog 20 [aLts A, aLts R] [] (fun r o => o = [] ∧ r = .b (EqD A R)) := by
 rcases val_cases A R with ⟨h1, h2⟩ | h
 ·exact deq_fc A R h1 h2 hn ht hrA hr
 ·exact deq_no A R h (by omega) (by omega) hrA hr
end Go.Proofs.YtahnebicgbjonaaGreat
