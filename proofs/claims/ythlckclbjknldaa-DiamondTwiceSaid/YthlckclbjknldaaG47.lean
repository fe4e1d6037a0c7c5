/- ref23: SameRow, Same at equal systems. law28.sane by the contracts, at its one system. -/
import Derived.Test.YthlckclbjknldaaMG
import Derived.Test.YthlckclbjknldaaG61
import Derived.Test.YthlckclbjknldaaG12
namespace Go.Proofs.Ythlckclbjknldaa
set_option linter.unusedVariables false
set_option linter.unusedSimpArgs false
open Go.RowKit
set_option maxRecDepth 100000
attribute [local go_sem] List.set_cons_zero List.set_cons_succ List.map_cons List.map_nil List.take_succ_cons List.take_zero List.drop_zero List.drop_succ_cons C.pl C.one List.all_cons List.all_nil Bool.and_true Nat.mul_one Int.toNat_natCast

theorem arcNe_s (x y : Operand) (a : Ar) : aggEq Try.prog .neq 34 x y [.int .i64 a.1, .int .i64 a.2] [.int .i64 a.1, .int .i64 a.2] false = True := by
 have h := arcNe_d x y a a
 rw [decide_eq_true (rfl : a = a)] at h
 exact h
theorem sameRow_fc (r : List Ar) (hn : r.length ≤ 1000000) : FC Try.prog 22 [.a (.c (.t 2 (tArcs r))), .a (.c (.t 2 (tArcs r)))] [] (fun x o => o = [] ∧ x = .b true) := by
 refine fc_intro Try.func22 rfl (by rw [Try.ntmps22]; simp) ?_
 rw [Try.ntmps22]
 simp only [enum]
 have d0 : ((r.length : Int) != (r.length : Int)) = false := by simp
 (repeat (first | (refine aw_seq ?_; intro K hK) | refine aw_block ?_ | refine aw_region ?_ | (refine lst_x rfl rfl ?_; intro K1 hK1; simp only [go_sem, tArcs_len, half2, d0]; (first | refine hK1 _ ?_ | refine andk (hK1 _ ?_)); clear hK1 K1) | ((first | refine lst_nil ?_ | refine aw_skip ?_); refine hK _ ?_; clear hK K)))
 (refine aw_cnd ?_; intro X Y hX hY; simp only [go_sem])
 refine hY ?_
 clear hX hY X Y
 (repeat (first | (refine aw_seq ?_; intro K hK) | refine aw_block ?_ | refine aw_region ?_ | (refine lst_x rfl rfl ?_; intro K1 hK1; simp only [go_sem]; (first | refine hK1 _ ?_ | refine andk (hK1 _ ?_)); clear hK1 K1) | ((first | refine lst_nil ?_ | refine aw_skip ?_); refine hK _ ?_; clear hK K)))
 refine aw_loop (fun k : Nat => { tm := [(0, .a (.c (.t 2 (tArcs r)))), (1, .a (.c (.t 2 (tArcs r)))), (5, .i k)], hp := [], n := 26, pin := 0 }) (fun k => k ≤ r.length) (fun k => r.length - k) 0 ?_ ?_ ?_
 ·omega
 ·(refine le_tm ?_; simp only [LeTm, go_sem]; try simp)
 ·rintro k hk K hK
  by_cases hlt : k < r.length
  ·have d1 : decide ((k : Int) < (r.length : Int)) = true := by simpa using hlt
   have hat := tArcs_at hlt
   have d2 : (!decide (r[k] = r[k])) = false := by simp
   (repeat (first | (refine aw_seq ?_; intro K hK) | refine aw_block ?_ | refine aw_region ?_ | (refine lst_x rfl rfl ?_; intro K1 hK1; simp only [go_sem, d1, tArcs_len, half2]; (first | refine hK1 _ ?_ | refine andk (hK1 _ ?_)); clear hK1 K1) | ((first | refine lst_nil ?_ | refine aw_skip ?_); refine hK _ ?_; clear hK K)))
   (refine aw_cnd ?_; intro X Y hX hY; simp only [go_sem])
   refine hX ?_
   clear hX hY X Y
   (repeat (first | (refine aw_seq ?_; intro K hK) | refine aw_block ?_ | refine aw_region ?_ | (refine lst_x rfl rfl ?_; intro K1 hK1; simp only [go_sem]; (first | refine hK1 _ ?_ | refine andk (hK1 _ ?_)); clear hK1 K1) | ((first | refine lst_nil ?_ | refine aw_skip ?_); refine hK _ ?_; clear hK K)))
   (refine aw_regionU 8 [(0, 0), (1, 0), (2, 0), (3, 1), (4, 0), (5, 0), (6, 0), (7, 1), (8, 2)] (by kernel_rfl) (by kernel_rfl) (by intro c st h; simp [ThenA, InBl, Ret] at h) ?_)
   (repeat (first | ((first | refine u_0x rfl rfl rfl ?_ | refine u_1x rfl rfl rfl ?_); intro K1 hK1; simp only [go_sem, hat, tArcs_len, half2, arcNe_s, arcEq_b, decide_true, Bool.not_true, beq_self_eq_true, Bool.and_self, true_and]; (first | refine hK1 _ ?_ | refine andk (hK1 _ ?_)); clear hK1 K1) | (refine u_2x rfl rfl rfl rfl ?_; intro K1 hK1; simp only [go_sem, hat, tArcs_len, half2, arcNe_s, arcEq_b, decide_true, Bool.not_true, beq_self_eq_true, Bool.and_self, true_and]; (first | refine hK1 _ ?_ | refine andk (hK1 _ ?_)); clear hK1 K1) | (refine u_nil ?_; refine hK _ ?_; clear hK K)))
   (refine aw_cnd ?_; intro X Y hX hY; simp only [go_sem])
   refine hY ?_
   clear hX hY X Y
   (repeat (first | (refine aw_seq ?_; intro K hK) | refine aw_block ?_ | refine aw_region ?_ | (refine lst_x rfl rfl ?_; intro K1 hK1; simp only [go_sem]; (first | refine hK1 _ ?_ | refine andk (hK1 _ ?_)); clear hK1 K1) | ((first | refine lst_nil ?_ | refine aw_skip ?_); refine hK _ ?_; clear hK K)))
   ((try refine lst_nil ?_); (try refine aw_skip ?_); try simp only [ThenA])
   refine hK _ (k + 1) (by omega) (by omega) ?_
   (refine le_tm ?_; simp only [LeTm, go_sem]; try simp)
  ·have d1 : decide ((k : Int) < (r.length : Int)) = false := by simpa using hlt
   (repeat (first | (refine aw_seq ?_; intro K hK) | refine aw_block ?_ | refine aw_region ?_ | (refine lst_x rfl rfl ?_; intro K1 hK1; simp only [go_sem, d1, tArcs_len, half2]; (first | refine hK1 _ ?_ | refine andk (hK1 _ ?_)); clear hK1 K1) | ((first | refine lst_nil ?_ | refine aw_skip ?_); refine hK _ ?_; clear hK K)))
   (refine aw_cnd ?_; intro X Y hX hY; simp only [go_sem])
   refine hY ?_
   clear hX hY X Y
   (refine aw_exit ?_; simp only [ThenA, InBl, reduceIte, Nat.reduceEqDiff]; (first | refine hK _ ?_ | (clear hK K; refine hK _ ?_) | (clear hK K; clear hK K; refine hK _ ?_) | (clear hK K; clear hK K; clear hK K; refine hK _ ?_) | (clear hK K; clear hK K; clear hK K; clear hK K; refine hK _ ?_) | (clear hK K; clear hK K; clear hK K; clear hK K; clear hK K; refine hK _ ?_)); clear hK K)
   (repeat (first | (refine aw_seq ?_; intro K hK) | refine aw_block ?_ | refine aw_region ?_ | (refine lst_x rfl rfl ?_; intro K1 hK1; simp only [go_sem]; (first | refine hK1 _ ?_ | refine andk (hK1 _ ?_)); clear hK1 K1) | ((first | refine lst_nil ?_ | refine aw_skip ?_); refine hK _ ?_; clear hK K)))
   ((try refine aw_ret ?_); (try simp only [ThenA, InBl]); refine ret_le (le_pick [] rfl rfl) ?_; (try simp only [List.set_nil, List.take_nil, List.take_zero, List.map_append, go_sem]); ((try refine aw_ret ?_); (try refine lst_nil ?_); (try simp only [ThenA, InBl]); refine ret_mk (by first | exact .inl rfl | exact .inr rfl) rfl ?_; simp only [rtn, resA, resL, resV, Try.results22, go_sem, true_and, and_true]))
theorem same_fc (R : List (List Ar)) (hn : R.length ≤ 1000000) (hr : ∀ r ∈ R, r.length ≤ 1000000) : FC Try.prog 10 [aLts R, aLts R] [] (fun x o => o = [] ∧ x = .b true) := by
 refine fc_intro Try.func10 rfl (by rw [Try.ntmps10]; simp) ?_
 rw [Try.ntmps10]
 simp only [enum, aLts]
 have d0 : ((R.length : Int) != (R.length : Int)) = false := by simp
 (repeat (first | (refine aw_seq ?_; intro K hK) | refine aw_block ?_ | refine aw_region ?_ | (refine lst_x rfl rfl ?_; intro K1 hK1; simp only [go_sem, tRows_len, d0]; (first | refine hK1 _ ?_ | refine andk (hK1 _ ?_)); clear hK1 K1) | ((first | refine lst_nil ?_ | refine aw_skip ?_); refine hK _ ?_; clear hK K)))
 (refine aw_cnd ?_; intro X Y hX hY; simp only [go_sem])
 refine hY ?_
 clear hX hY X Y
 (repeat (first | (refine aw_seq ?_; intro K hK) | refine aw_block ?_ | refine aw_region ?_ | (refine lst_x rfl rfl ?_; intro K1 hK1; simp only [go_sem]; (first | refine hK1 _ ?_ | refine andk (hK1 _ ?_)); clear hK1 K1) | ((first | refine lst_nil ?_ | refine aw_skip ?_); refine hK _ ?_; clear hK K)))
 refine aw_loop (fun k : Nat => { tm := [(2, .a (.c (.p 0 0))), (3, .a (.c (.p 1 0))), (5, .i k)], hp := [.r ⟨27, 1, false, [.t 1 (tRows R)]⟩, .r ⟨27, 1, false, [.t 1 (tRows R)]⟩], n := 32, pin := 0 }) (fun k => k ≤ R.length) (fun k => R.length - k) 0 ?_ ?_ ?_
 ·omega
 ·(refine le_tm ?_; simp only [LeTm, go_sem]; try simp)
 ·rintro k hk K hK
  by_cases hlt : k < R.length
  ·have d1 : decide ((k : Int) < (R.length : Int)) = true := by simpa using hlt
   have hg := List.getElem?_eq_getElem hlt
   (repeat (first | (refine aw_seq ?_; intro K hK) | refine aw_block ?_ | refine aw_region ?_ | (refine lst_x rfl rfl ?_; intro K1 hK1; simp only [go_sem, d1, tRows_len]; (first | refine hK1 _ ?_ | refine andk (hK1 _ ?_)); clear hK1 K1) | ((first | refine lst_nil ?_ | refine aw_skip ?_); refine hK _ ?_; clear hK K)))
   (refine aw_cnd ?_; intro X Y hX hY; simp only [go_sem])
   refine hX ?_
   clear hX hY X Y
   (repeat (first | (refine aw_seq ?_; intro K hK) | refine aw_block ?_ | refine aw_region ?_ | (refine lst_x rfl rfl ?_; intro K1 hK1; simp only [go_sem]; (first | refine hK1 _ ?_ | refine andk (hK1 _ ?_)); clear hK1 K1) | ((first | refine lst_nil ?_ | refine aw_skip ?_); refine hK _ ?_; clear hK K)))
   (refine aw_regionU 10 [(0, 0), (1, 1), (2, 0), (3, 0), (4, 1), (5, 0), (6, 1), (7, 0), (8, 0), (9, 1), (10, 2), (11, 0)] (by kernel_rfl) (by kernel_rfl) (by intro c st h; simp [ThenA, InBl, Ret] at h) ?_)
   (repeat (first | ((first | refine u_0x rfl rfl rfl ?_ | refine u_1x rfl rfl rfl ?_); intro K1 hK1; simp only [go_sem, tRows_len, tRows_get hg]; (first | refine hK1 _ ?_ | refine andk (hK1 _ ?_)); clear hK1 K1) | (refine u_2x rfl rfl rfl rfl ?_; intro K1 hK1; simp only [go_sem, tRows_len, tRows_get hg]; (first | refine hK1 _ ?_ | refine andk (hK1 _ ?_)); clear hK1 K1) | (refine u_nil ?_; refine hK _ ?_; clear hK K)))
   (refine u_w rfl rfl rfl ?_; intro K1 hK1; refine (stp_call0 (ids := []) (sameRow_fc R[k] (hr _ (List.getElem_mem hlt))) rfl rfl (by simp only [go_sem]) (by kernel_rfl) (by (simp only [List.append_nil, go_sem]) <;> rfl) ?_).stp)
   rintro _ _ ⟨rfl, rfl⟩
   (simp only [aInts, aSets, List.append_nil, List.nil_append, List.length_map, go_sem]; refine hK1 _ ?_; clear hK1 K1)
   (repeat (first | ((first | refine u_0x rfl rfl rfl ?_ | refine u_1x rfl rfl rfl ?_); intro K1 hK1; simp only [go_sem, Bool.not_true]; (first | refine hK1 _ ?_ | refine andk (hK1 _ ?_)); clear hK1 K1) | (refine u_2x rfl rfl rfl rfl ?_; intro K1 hK1; simp only [go_sem, Bool.not_true]; (first | refine hK1 _ ?_ | refine andk (hK1 _ ?_)); clear hK1 K1) | (refine u_nil ?_; refine hK _ ?_; clear hK K)))
   (refine aw_cnd ?_; intro X Y hX hY; simp only [go_sem])
   refine hY ?_
   clear hX hY X Y
   (repeat (first | (refine aw_seq ?_; intro K hK) | refine aw_block ?_ | refine aw_region ?_ | (refine lst_x rfl rfl ?_; intro K1 hK1; simp only [go_sem]; (first | refine hK1 _ ?_ | refine andk (hK1 _ ?_)); clear hK1 K1) | ((first | refine lst_nil ?_ | refine aw_skip ?_); refine hK _ ?_; clear hK K)))
   ((try refine lst_nil ?_); (try refine aw_skip ?_); try simp only [ThenA])
   refine hK _ (k + 1) (by omega) (by omega) ?_
   (refine le_tm ?_; simp only [LeTm, go_sem]; try simp)
  ·have d1 : decide ((k : Int) < (R.length : Int)) = false := by simpa using hlt
   (repeat (first | (refine aw_seq ?_; intro K hK) | refine aw_block ?_ | refine aw_region ?_ | (refine lst_x rfl rfl ?_; intro K1 hK1; simp only [go_sem, d1, tRows_len]; (first | refine hK1 _ ?_ | refine andk (hK1 _ ?_)); clear hK1 K1) | ((first | refine lst_nil ?_ | refine aw_skip ?_); refine hK _ ?_; clear hK K)))
   (refine aw_cnd ?_; intro X Y hX hY; simp only [go_sem])
   refine hY ?_
   clear hX hY X Y
   (refine aw_exit ?_; simp only [ThenA, InBl, reduceIte, Nat.reduceEqDiff]; (first | refine hK _ ?_ | (clear hK K; refine hK _ ?_) | (clear hK K; clear hK K; refine hK _ ?_) | (clear hK K; clear hK K; clear hK K; refine hK _ ?_) | (clear hK K; clear hK K; clear hK K; clear hK K; refine hK _ ?_) | (clear hK K; clear hK K; clear hK K; clear hK K; clear hK K; refine hK _ ?_)); clear hK K)
   (repeat (first | (refine aw_seq ?_; intro K hK) | refine aw_block ?_ | refine aw_region ?_ | (refine lst_x rfl rfl ?_; intro K1 hK1; simp only [go_sem]; (first | refine hK1 _ ?_ | refine andk (hK1 _ ?_)); clear hK1 K1) | ((first | refine lst_nil ?_ | refine aw_skip ?_); refine hK _ ?_; clear hK K)))
   ((try refine aw_ret ?_); (try simp only [ThenA, InBl]); refine ret_le (le_pick [] rfl rfl) ?_; (try simp only [List.set_nil, List.take_nil, List.take_zero, List.map_append, go_sem]); ((try refine aw_ret ?_); (try refine lst_nil ?_); (try simp only [ThenA, InBl]); refine ret_mk (by first | exact .inl rfl | exact .inr rfl) rfl ?_; simp only [rtn, resA, resL, resV, Try.results10, go_sem, true_and, and_true]))
end Go.Proofs.Ythlckclbjknldaa
namespace Go.Proofs.Ythlckclbjknldaa
set_option linter.unusedVariables false
set_option linter.unusedSimpArgs false
open Go.RowKit
set_option maxRecDepth 100000
attribute [local go_sem] List.set_cons_zero List.set_cons_succ List.map_cons List.map_nil List.take_succ_cons List.take_zero List.drop_zero List.drop_succ_cons C.pl C.one List.all_cons List.all_nil Bool.and_true Nat.mul_one Int.toNat_natCast

def sR : List (List Ar) := [[(0, 1)], [(0, 2), (2, 3)], [(3, 3)], []]
def sX : List (List Ar) := [[(0, 1), (2, 2), (3, 2)], [(3, 2)], []]
theorem sR_val : valB sR = true := by kernel_rfl
theorem sR_adj : ∀ v w, w ∈ Adj true sR v → v ≤ w
 | 0, w, h => by have e : Adj true sR 0 = [1] := rfl; rw [e] at h; simp at h; omega
 | 1, w, h => by have e : Adj true sR 1 = [2] := rfl; rw [e] at h; simp at h; omega
 | 2, w, h => by have e : Adj true sR 2 = [] := rfl; rw [e] at h; simp at h
 | 3, w, h => by have e : Adj true sR 3 = [] := rfl; rw [e] at h; simp at h
 | n + 4, w, h => by have e : Adj true sR (n + 4) = [] := rfl; rw [e] at h; simp at h
theorem sR_le {v u : Nat} (h : Rc (Adj true sR) v u) : v ≤ u := by
 induction h with
 | refl => exact Nat.le_refl _
 | tail _ h2 ih => exact Nat.le_trans ih (sR_adj _ _ h2)
theorem sR_D {D : List Int} (hD : D.length = sR.length) (hL : ∀ v, v < sR.length → Least (Adj true sR) v (fnL D (-1) v)) : D = [0, 1, 2, 3] := by
 refine least_rows (n := 4) hD rfl hL fun v hv => ⟨v, ?_, .refl v, .refl v, fun u h1 _ => sR_le h1⟩
 match v, hv with
 | 0, _ => rfl
 | 1, _ => rfl
 | 2, _ => rfl
 | 3, _ => rfl
theorem cl_in {E : Nat → List Nat} {n : Nat} {L : List Nat} (h0 : n ∈ L) (hc : ∀ u ∈ L, ∀ w ∈ E u, w ∈ L) {u : Nat} (h : Rc E n u) : u ∈ L := by
 induction h with
 | refl => exact h0
 | tail _ h2 ih => exact hc _ ih _ h2
theorem sR_cl {n : Nat} {L : List Nat} (h0 : n ∈ L) (hc : ∀ u ∈ L, ∀ w ∈ Adj true sR u, w ∈ L) (hr : ∀ u ∈ L, Rc (Adj true sR) n u) (he : ordN sR.length (fun u => decide (u ∈ L)) = L) : sclo sR n = L := by
 rw [← sclo_eq (p := fun u => decide (u ∈ L)) fun u _ => ⟨fun h => hr u (by simpa using h), fun h => by simpa using cl_in h0 hc h⟩, he]
theorem sR_c0 : sclo sR 0 = [0, 1, 2] := by
 have h1 : Rc (Adj true sR) 0 1 := .tail (.refl 0) (show 1 ∈ [1] by simp)
 have h2 : Rc (Adj true sR) 0 2 := .tail h1 (show 2 ∈ [2] by simp)
 refine sR_cl (by simp) (by decide) (fun u hu => ?_) (by decide)
 simp at hu
 rcases hu with rfl | rfl | rfl
 ·exact .refl 0
 ·exact h1
 ·exact h2
theorem sR_c1 : sclo sR 1 = [1, 2] := by
 have h2 : Rc (Adj true sR) 1 2 := .tail (.refl 1) (show 2 ∈ [2] by simp)
 refine sR_cl (by simp) (by decide) (fun u hu => ?_) (by decide)
 simp at hu
 rcases hu with rfl | rfl
 ·exact .refl 1
 ·exact h2
theorem sR_dm : dmR sR = [unS sR 0 [0, 1, 2], unS sR 1 [1, 2], [(3, 3)], []] := by
 have e0 : dmRow sR 0 = unS sR 0 [0, 1, 2] := by rw [dmRow, if_neg (by decide), sR_c0]
 have e1 : dmRow sR 1 = unS sR 1 [1, 2] := by rw [dmRow, if_neg (by decide), sR_c1]
 have e2 : dmRow sR 2 = [(3, 3)] := by rw [dmRow, if_pos (by decide)]; rfl
 have e3 : dmRow sR 3 = [] := by rw [dmRow, if_pos (by decide)]; rfl
 show [dmRow sR 0, dmRow sR 1, dmRow sR 2, dmRow sR 3] = _
 rw [e0, e1, e2, e3]
theorem sR_x : (canonR [unS sR 0 [0, 1, 2], unS sR 1 [1, 2], [(3, 3)], []]).1 = sX := by kernel_rfl
theorem sR_q : (canonR (tlOut (clsN [0, 1, 2, 3]) (ixS [0, 1, 2, 3] sR.length).2 sR sR.length)).1 = sR := by kernel_rfl
theorem sdia_fc : FC Try.prog 7 [aLts sR] [] (fun r o => o = [.r ⟨27, 1, false, [.t 1 (tRows sX)]⟩] ∧ r = .tup [.g [.t 1 (tRows sX)], .c (.v (.int .i64 0))]) :=
 (dia_fc sR sR_val (by decide) (by decide) (by decide)).mono fun r o ⟨D, hD, hL, q, hq, h⟩ => by
  rw [sR_D hD hL] at hq
  have hq1 : q.1 = sR := by rw [hq]; exact sR_q
  rw [hq1, sR_dm, sR_x, diaO, if_pos (by decide)] at h
  exact h
set_option maxHeartbeats 2000000 in
theorem sane28d_fc : FC Try.prog 9 [] [] (fun r _ => r = .b true) := by
 refine fc_intro Try.func9 rfl (by rw [Try.ntmps9]; simp) ?_
 rw [Try.ntmps9]
 simp only [enum]
 have hsd := sdia_fc
 have hsm := same_fc sX (by decide) (by decide)
 simp only [aLts] at hsd hsm
 (repeat (first | (refine aw_seq ?_; intro K hK) | refine aw_block ?_ | refine aw_region ?_ | (refine lst_x rfl rfl ?_; intro K1 hK1; simp only [go_sem, ST.put, setC, A0.cells]; (first | refine hK1 _ ?_ | refine andk (hK1 _ ?_)); clear hK1 K1) | ((first | refine lst_nil ?_ | refine aw_skip ?_); refine hK _ ?_; clear hK K)))
 refine lst_le (le_sink (r := ⟨34, 2, true, cArcs [(0, 1)]⟩) (ts := tArcs [(0, 1)]) 3 0 0 1 (by decide) rfl rfl rfl rfl (show 0 < 2 by omega) rfl (fz_ca _)) ?_
 simp only [go_sem]
 refine lst_le (le_sink (r := ⟨34, 2, true, cArcs [(0, 2), (2, 3)]⟩) (ts := tArcs [(0, 2), (2, 3)]) 3 1 1 2 (by decide) rfl rfl rfl rfl (show 0 < 2 by omega) rfl (fz_ca _)) ?_
 simp only [go_sem]
 refine lst_le (le_sink (r := ⟨34, 2, true, cArcs [(3, 3)]⟩) (ts := tArcs [(3, 3)]) 3 2 2 1 (by decide) rfl rfl rfl rfl (show 0 < 2 by omega) rfl (fz_ca _)) ?_
 simp only [go_sem]
 refine lst_le (le_nt 3 [2, 2, 2, 2] rfl) ?_
 simp only [ntA, otC, go_sem]
 (refine lst_le (le_frz (r := ⟨32, 1, true, cRows sR⟩) 3 (tRows sR) rfl (fz_cr _) (show 0 < (1 : Nat) by omega)) ?_; simp only [ST.frz, A0.frz, AV.frz, C.frz, Nat.le_refl, List.set_cons_zero, List.set_cons_succ, go_sem, show (tRows sR).take 4 = tRows sR from rfl])
 (refine lst_cons rfl ?_; intro K1 hK1; refine (stp_call0 (ids := []) (hsd) rfl rfl (by simp only [go_sem]) (by kernel_rfl) (by (simp only [List.append_nil, go_sem]) <;> rfl) ?_).stp)
 rintro _ _ ⟨rfl, rfl⟩
 (simp only [aInts, aSets, List.append_nil, List.nil_append, List.length_map, go_sem]; refine hK1 _ ?_; clear hK1 K1)
 (repeat (first | (refine aw_seq ?_; intro K hK) | refine aw_block ?_ | refine aw_region ?_ | (refine lst_x rfl rfl ?_; intro K1 hK1; simp only [go_sem, ST.put, setC, A0.cells]; (first | refine hK1 _ ?_ | refine andk (hK1 _ ?_)); clear hK1 K1) | ((first | refine lst_nil ?_ | refine aw_skip ?_); refine hK _ ?_; clear hK K)))
 refine lst_le (le_sink (r := ⟨34, 2, true, cArcs [(0, 1), (2, 2), (3, 2)]⟩) (ts := tArcs [(0, 1), (2, 2), (3, 2)]) 9 0 7 3 (by decide) rfl rfl rfl rfl (show 0 < 2 by omega) rfl (fz_ca _)) ?_
 simp only [go_sem]
 refine lst_le (le_sink (r := ⟨34, 2, true, cArcs [(3, 2)]⟩) (ts := tArcs [(3, 2)]) 9 1 8 1 (by decide) rfl rfl rfl rfl (show 0 < 2 by omega) rfl (fz_ca _)) ?_
 simp only [go_sem]
 refine lst_le (le_nt 9 [2, 2, 2] rfl) ?_
 simp only [ntA, otC, go_sem]
 (refine lst_le (le_frz (r := ⟨32, 1, true, cRows sX⟩) 9 (tRows sX) rfl (fz_cr _) (show 0 < (1 : Nat) by omega)) ?_; simp only [ST.frz, A0.frz, AV.frz, C.frz, Nat.le_refl, List.set_cons_zero, List.set_cons_succ, go_sem, show (tRows sX).take 3 = tRows sX from rfl, show (if 3 ≤ (tRows sX).length then C.t 1 (tRows sX) else C.u) = C.t 1 (tRows sX) from rfl])
 (refine lst_goU rfl rfl (by simp only [go_sem] <;> rfl) ?_; intro K1 hK1; refine (stp_call0 (ids := []) (hsm) rfl rfl (by simp only [go_sem]) (by kernel_rfl) (by (simp only [List.append_nil, go_sem]) <;> rfl) ?_).stp)
 rintro _ _ ⟨rfl, rfl⟩
 (simp only [aInts, aSets, List.append_nil, List.nil_append, List.length_map, go_sem]; refine hK1 _ ?_; clear hK1 K1)
 (repeat (first | (refine aw_seq ?_; intro K hK) | refine aw_block ?_ | refine aw_region ?_ | (refine lst_x rfl rfl ?_; intro K1 hK1; simp only [go_sem]; (first | refine hK1 _ ?_ | refine andk (hK1 _ ?_)); clear hK1 K1) | ((first | refine lst_nil ?_ | refine aw_skip ?_); refine hK _ ?_; clear hK K)))
 ((try refine aw_ret ?_); (try refine lst_nil ?_); (try simp only [ThenA, InBl]); refine ret_mk (by first | exact .inl rfl | exact .inr rfl) rfl ?_; simp only [rtn, resA, resL, resV, Try.results9, go_sem])
end Go.Proofs.Ythlckclbjknldaa
