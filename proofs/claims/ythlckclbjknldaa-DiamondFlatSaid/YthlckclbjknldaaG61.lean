/- diamond.Diamond. -/
import Derived.Test.YthlckclbjknldaaG44
import Derived.Test.YthlckclbjknldaaTl2
namespace Go.Proofs.Ythlckclbjknldaa
set_option linter.unusedVariables false
set_option linter.unusedSimpArgs false
open Go.RowKit
set_option maxRecDepth 100000
attribute [local go_sem] List.set_cons_zero List.set_cons_succ List.map_cons List.map_nil List.take_succ_cons List.take_zero List.drop_zero List.drop_succ_cons C.pl C.one List.all_cons List.all_nil Bool.and_true Nat.mul_one Int.toNat_natCast

theorem cInts_noO (l : List Int) : (cInts l).all C.pl = true := by simp [cInts, C.pl]
def diaO (x : List (List Ar)) (r : AV) (o : List Ob) : Prop :=
 if totA x ≤ 262144 then o = [.r ⟨27, 1, false, [.t 1 (tRows x)]⟩] ∧ r = .tup [.g [.t 1 (tRows x)], .c (.v (.int .i64 0))]
 else o = [.r ⟨27, 1, false, [.v (.slice none 0 0)]⟩] ∧ r = .tup [.g [.v (.slice none 0 0)], .c (.v (.int .i64 10))]
theorem unstT_fc (R : List (List Ar)) (n : Nat) (cl : List Nat) (hlo : looB R = true) (hn : R.length ≤ 1000000) (hr : ∀ r ∈ R, r.length ≤ 1000000) (hcl : ∀ s ∈ cl, s < R.length) (hcln : cl.length ≤ 1000000) : FC Try.prog 16 [aLts R, .i n, .a (.c (.t 1 (tInts (cl.map Int.ofNat))))] [] (fun r o => o = [] ∧ r = .a (.c (.t 2 (tArcs (unS R n cl))))) :=
 ((unst_fc R n cl hlo hn hr hcl hcln).mono fun r o h => ⟨h.2, h.1⟩).frz (fz_ca _) (by omega) (by rw [tArcs_len])
set_option maxHeartbeats 8000000 in
theorem dia_fc (R : List (List Ar)) (hv : valB R = true) (h1 : 1 ≤ R.length) (hn : R.length ≤ 1000000) (hr : ∀ r ∈ R, r.length ≤ 1000000) : FC Try.prog 7 [aLts R] [] (fun r o => ∃ D : List Int, D.length = R.length ∧ (∀ v, v < R.length → Least (Adj true R) v (fnL D (-1) v)) ∧ ∃ q, q = canonR (tlOut (clsN D) (ixS D R.length).2 R R.length) ∧ diaO (canonR (dmR q.1)).1 r o) := by
 refine fc_intro Try.func7 rfl (by rw [Try.ntmps7]; simp) ?_
 rw [Try.ntmps7]
 simp only [enum, aLts]
 (repeat (first | (refine aw_seq ?_; intro K hK) | refine aw_block ?_ | refine aw_region ?_ | (refine lst_x rfl rfl ?_; intro K1 hK1; simp only [go_sem]; (first | refine hK1 _ ?_ | refine andk (hK1 _ ?_)); clear hK1 K1) | ((first | refine lst_nil ?_ | refine aw_skip ?_); refine hK _ ?_; clear hK K)))
 (refine lst_cons rfl ?_; intro K1 hK1; refine (stp_call0 (ids := []) (tauL_fc R hv h1 hn hr) rfl rfl (by simp only [go_sem]) (by kernel_rfl) (by (simp only [List.append_nil, go_sem]) <;> rfl) ?_).stp)
 rintro _ _ ⟨D, hD, hLD, q, hq, rfl, rfl⟩
 have hvF := tl_val hv hD hLD
 rw [← hq] at hvF
 obtain ⟨F, hF⟩ : ∃ F, F = q.1 := ⟨_, rfl⟩
 rw [← hF] at hvF ⊢
 have hloF : looB F = true := decide_eq_true (of_decide_eq_true hvF).1
 have hpF : LooP F := of_decide_eq_true hloF
 have hFl : F.length ≤ 16384 := hpF.2.1
 have hFt : totA F ≤ 262144 := hpF.2.2.1
 have hF1 := hpF.1
 have hFr : ∀ r ∈ F, r.length ≤ 1000000 := fun r hr0 => by
  obtain ⟨j, hj, rfl⟩ := List.getElem_of_mem hr0
  have h := totA_row F j
  rw [List.getD_eq_getElem?_getD, List.getElem?_eq_getElem hj, Option.getD_some] at h
  omega
 (simp only [aInts, aSets, List.append_nil, List.nil_append, List.length_map, go_sem]; refine hK1 _ ?_; clear hK1 K1)
 (repeat (first | (refine aw_seq ?_; intro K hK) | refine aw_block ?_ | refine aw_region ?_ | (refine lst_x rfl rfl ?_; intro K1 hK1; simp only [go_sem, ST.put, setC, A0.cells]; (first | refine hK1 _ ?_ | refine andk (hK1 _ ?_)); clear hK1 K1) | ((first | refine lst_nil ?_ | refine aw_skip ?_); refine hK _ ?_; clear hK K)))
 (refine aw_cnd ?_; intro X Y hX hY; simp only [go_sem])
 refine ⟨fun h => absurd h (by simp), fun _ => hY ?_⟩
 clear hX hY X Y
 (repeat (first | (refine aw_seq ?_; intro K hK) | refine aw_block ?_ | refine aw_region ?_ | (refine lst_x rfl rfl ?_; intro K1 hK1; simp only [go_sem]; (first | refine hK1 _ ?_ | refine andk (hK1 _ ?_)); clear hK1 K1) | ((first | refine lst_nil ?_ | refine aw_skip ?_); refine hK _ ?_; clear hK K)))
 (refine lst_cons rfl ?_; intro K1 hK1; refine (stp_call0 (ids := []) (fnew_fc F (by omega)) rfl rfl (by simp only [go_sem]) (by kernel_rfl) (by (simp only [List.append_nil, go_sem]) <;> rfl) ?_).stp)
 rintro _ _ ⟨rfl, rfl⟩
 (simp only [aInts, aSets, wkO, cInts_up, List.append_nil, List.nil_append, List.length_map, go_sem]; refine hK1 _ ?_; clear hK1 K1)
 (repeat (first | (refine aw_seq ?_; intro K hK) | refine aw_block ?_ | refine aw_region ?_ | (refine lst_x rfl rfl ?_; intro K1 hK1; simp only [go_sem, tRows_len]; (first | refine hK1 _ ?_ | refine andk (hK1 _ ?_)); clear hK1 K1) | ((first | refine lst_nil ?_ | refine aw_skip ?_); refine hK _ ?_; clear hK K)))
 refine aw_le (le_ot 6 rfl) ?_
 simp only [cRows_ot, go_sem]
 refine aw_le (le_pick [1, 3, 4, 5, 6] rfl rfl) ?_
 (try simp only [List.set_nil, List.take_nil, List.take_zero, List.map_append, go_sem])
 (try simp only [cInts_ren, cRows_ren])
 refine aw_loop (fun x : Nat × List Int × Nat => { tm := [(2, .a (.c (.p 0 0))), (4, .a (.c (.p 1 0))), (6, .a (.c (.p 2 0))), (7, .a (.c (.s 4 F.length))), (28, .a (.c (.t 1 (tRows F)))), (29, .i F.length), (30, .i x.1)], hp := [.r ⟨27, 1, false, [.v (.slice none 0 0)]⟩, .r ⟨27, 1, false, [.t 1 (tRows F)]⟩, .r ⟨57, 3, false, [.t 1 (tRows F), .s 3 F.length, .v (.int .i64 x.2.2)]⟩, .r ⟨3, 1, true, cInts x.2.1⟩, .r ⟨32, 1, true, cRows (dmL F x.1 ++ List.replicate (F.length - x.1) [])⟩], n := 62, pin := 0 }) (fun x => x.1 ≤ F.length ∧ x.2.1.length = F.length ∧ (∀ y ∈ x.2.1, y ≤ (x.2.2 : Int)) ∧ x.2.2 ≤ x.1) (fun x => F.length - x.1) (0, List.replicate F.length 0, 0) ?_ ?_ ?_
 ·exact ⟨by simp, by simp, fun y hy => by have := List.eq_of_mem_replicate hy; simp only; omega, by simp⟩
 ·simp only [dmL, List.range_zero, List.map_nil, List.nil_append, Nat.sub_zero]
  (refine le_tm ?_; simp only [LeTm, go_sem]; try simp)
 ·rintro ⟨k, seen, rd⟩ ⟨hk, hse, hsb, hrd⟩ K hK
  simp only at hk hse hsb hrd
  by_cases hlt : k < F.length
  ·have d1 : decide ((k : Int) < (F.length : Int)) = true := by simpa using hlt
   have hgR := List.getElem?_eq_getElem hlt
   have hst := stable_fc F k hlt (by omega) hFr
   have hRu : F.getD k [] = F[k] := by rw [List.getD_eq_getElem?_getD, hgR]; rfl
   have hsn := dmL_snoc F k
   have hdr : dmRow F k = if stB F[k] then F[k] else unS F k (sclo F k) := by unfold dmRow; rw [hRu]
   obtain ⟨m, hm⟩ : ∃ m, F.length - k = m + 1 := ⟨F.length - k - 1, by omega⟩
   have hm2 : F.length - (k + 1) = m := by omega
   have hl : (dmL F k ++ List.replicate (m + 1) ([] : List Ar)).length = F.length := by simp [dmL_len]; omega
   have crf := cRows_fill (dmL F k) m (dmRow F k) 
   rw [← hsn, dmL_len] at crf
   rw [hm]
   cases hsb2 : stB F[k] with
   | true =>
    rw [hsb2, if_pos rfl] at hdr
    rw [hsb2] at hst
    rw [hdr] at crf
    (repeat (first | (refine aw_seq ?_; intro K hK) | refine aw_block ?_ | refine aw_region ?_ | (refine lst_x rfl rfl ?_; intro K1 hK1; simp only [go_sem, d1]; (first | refine hK1 _ ?_ | refine andk (hK1 _ ?_)); clear hK1 K1) | ((first | refine lst_nil ?_ | refine aw_skip ?_); refine hK _ ?_; clear hK K)))
    (refine aw_cnd ?_; intro X Y hX hY; simp only [go_sem])
    refine hX ?_
    clear hX hY X Y
    (repeat (first | (refine aw_seq ?_; intro K hK) | refine aw_block ?_ | refine aw_region ?_ | (refine lst_x rfl rfl ?_; intro K1 hK1; simp only [go_sem, tRows_len, tRows_get hgR]; (first | refine hK1 _ ?_ | refine andk (hK1 _ ?_)); clear hK1 K1) | ((first | refine lst_nil ?_ | refine aw_skip ?_); refine hK _ ?_; clear hK K)))
    (refine lst_cons rfl ?_; intro K1 hK1; refine (stp_call0 (ids := []) (hst) rfl rfl (by simp only [go_sem]) (by kernel_rfl) (by (simp only [List.append_nil, go_sem]) <;> rfl) ?_).stp)
    rintro _ _ ⟨rfl, rfl⟩
    (simp only [aInts, aSets, List.append_nil, List.nil_append, List.length_map, go_sem]; refine hK1 _ ?_; clear hK1 K1)
    (repeat (first | (refine aw_seq ?_; intro K hK) | refine aw_block ?_ | refine aw_region ?_ | (refine lst_x rfl rfl ?_; intro K1 hK1; simp only [go_sem, hsb2]; (first | refine hK1 _ ?_ | refine andk (hK1 _ ?_)); clear hK1 K1) | ((first | refine lst_nil ?_ | refine aw_skip ?_); refine hK _ ?_; clear hK K)))
    (refine aw_cnd ?_; intro X Y hX hY; simp only [go_sem])
    refine hX ?_
    clear hX hY X Y
    (repeat (first | (refine aw_seq ?_; intro K hK) | refine aw_block ?_ | refine aw_region ?_ | (refine lst_x rfl rfl ?_; intro K1 hK1; simp only [go_sem, cRows_len, hl, ST.put, setC, A0.cells, crf]; (first | refine hK1 _ ?_ | refine andk (hK1 _ ?_)); clear hK1 K1) | ((first | refine lst_nil ?_ | refine aw_skip ?_); refine hK _ ?_; clear hK K)))
    (refine aw_exit ?_; simp only [ThenA, InBl, reduceIte, Nat.reduceEqDiff]; (first | refine hK _ ?_ | (clear hK K; refine hK _ ?_) | (clear hK K; clear hK K; refine hK _ ?_) | (clear hK K; clear hK K; clear hK K; refine hK _ ?_) | (clear hK K; clear hK K; clear hK K; clear hK K; refine hK _ ?_) | (clear hK K; clear hK K; clear hK K; clear hK K; clear hK K; refine hK _ ?_)); clear hK K)
    (repeat (first | (refine aw_seq ?_; intro K hK) | refine aw_block ?_ | refine aw_region ?_ | (refine lst_x rfl rfl ?_; intro K1 hK1; simp only [go_sem]; (first | refine hK1 _ ?_ | refine andk (hK1 _ ?_)); clear hK1 K1) | ((first | refine lst_nil ?_ | refine aw_skip ?_); refine hK _ ?_; clear hK K)))
    ((try refine lst_nil ?_); (try refine aw_skip ?_); try simp only [ThenA])
    refine hK _ (k + 1, seen, rd) ⟨by simp only; omega, hse, hsb, by simp only; omega⟩ (by simp only; omega) ?_
    simp only [hm2]
    (refine le_tm ?_; simp only [LeTm, go_sem]; try simp)
   | false =>
    have hne : (cInts seen).isEmpty = false := by
     rw [List.isEmpty_eq_false_iff]
     intro e
     have := congrArg List.length e
     rw [cInts_len, List.length_nil] at this
     omega
    rw [hsb2] at hdr hst
    simp only [Bool.false_eq_true, if_false] at hdr
    rw [hdr] at crf
    (repeat (first | (refine aw_seq ?_; intro K hK) | refine aw_block ?_ | refine aw_region ?_ | (refine lst_x rfl rfl ?_; intro K1 hK1; simp only [go_sem, d1]; (first | refine hK1 _ ?_ | refine andk (hK1 _ ?_)); clear hK1 K1) | ((first | refine lst_nil ?_ | refine aw_skip ?_); refine hK _ ?_; clear hK K)))
    (refine aw_cnd ?_; intro X Y hX hY; simp only [go_sem])
    refine hX ?_
    clear hX hY X Y
    (repeat (first | (refine aw_seq ?_; intro K hK) | refine aw_block ?_ | refine aw_region ?_ | (refine lst_x rfl rfl ?_; intro K1 hK1; simp only [go_sem, tRows_len, tRows_get hgR]; (first | refine hK1 _ ?_ | refine andk (hK1 _ ?_)); clear hK1 K1) | ((first | refine lst_nil ?_ | refine aw_skip ?_); refine hK _ ?_; clear hK K)))
    (refine lst_cons rfl ?_; intro K1 hK1; refine (stp_call0 (ids := []) (hst) rfl rfl (by simp only [go_sem]) (by kernel_rfl) (by (simp only [List.append_nil, go_sem]) <;> rfl) ?_).stp)
    rintro _ _ ⟨rfl, rfl⟩
    (simp only [aInts, aSets, List.append_nil, List.nil_append, List.length_map, go_sem]; refine hK1 _ ?_; clear hK1 K1)
    (repeat (first | (refine aw_seq ?_; intro K hK) | refine aw_block ?_ | refine aw_region ?_ | (refine lst_x rfl rfl ?_; intro K1 hK1; simp only [go_sem, hsb2]; (first | refine hK1 _ ?_ | refine andk (hK1 _ ?_)); clear hK1 K1) | ((first | refine lst_nil ?_ | refine aw_skip ?_); refine hK _ ?_; clear hK K)))
    (refine aw_cnd ?_; intro X Y hX hY; simp only [go_sem])
    refine hY ?_
    clear hX hY X Y
    (repeat (first | (refine aw_seq ?_; intro K hK) | refine aw_block ?_ | refine aw_region ?_ | (refine lst_x rfl rfl ?_; intro K1 hK1; simp only [go_sem]; (first | refine hK1 _ ?_ | refine andk (hK1 _ ?_)); clear hK1 K1) | ((first | refine lst_nil ?_ | refine aw_skip ?_); refine hK _ ?_; clear hK K)))
    (refine aw_regionV [2, 3] [(0, 0, 0), (1, 0, 0), (3, 0, 0), (4, 0, 0), (5, 0, 0), (2, 1, 8), (6, 2, 0), (7, 2, 0), (8, 2, 0), (9, 0, 0), (10, 2, 0)] (by kernel_rfl) (by kernel_rfl) (by intro c st h; simp [ThenA, InBl, Ret] at h) ?_)
    (repeat (first | ((first | refine v_0 rfl rfl rfl ?_ | refine v_1 rfl rfl rfl rfl rfl rfl rfl rfl rfl ?_ | refine v_1q rfl rfl rfl rfl rfl rfl rfl ?_ | refine v_1f rfl rfl rfl ?_ | refine v_2f rfl rfl rfl rfl ?_); intro K1 hK1; simp only [go_sem]; (first | refine hK1 _ ?_ | refine andk (hK1 _ ?_)); clear hK1 K1) | (refine v_nil ⟨by simp, by simp, ?_⟩; refine hK _ ?_; clear hK K)))
    (refine v_1 rfl rfl rfl rfl rfl rfl rfl (by simp only [rowsB, List.getD_cons_zero, List.getD_cons_succ, hne, List.isEmpty_cons, Bool.not_false, Bool.true_and, Bool.and_true, Bool.and_self]) rfl ?_; intro K1 hK1; simp only [go_sem]; refine hK1 _ ?_; clear hK1 K1)
    (refine v_2 rfl rfl ?_; intro K1 hK1; refine stpX_a rfl ?_; simp only [go_sem]; refine hK1 _ ?_; clear hK1 K1)
    (refine v_le (le_frz (r := ⟨3, 1, true, cInts [(k : Int)]⟩) 5 (tInts [(k : Int)]) rfl (fz_c _) (show 0 < (1 : Nat) by omega)) ?_; simp only [ST.frz, A0.frz, AV.frz, C.frz, Nat.le_refl, List.set_cons_zero, List.set_cons_succ, go_sem, show (tInts [(k : Int)]).take 1 = tInts [(k : Int)] from rfl])
    (refine v_2 rfl rfl ?_; intro K1 hK1; refine stpX_call (ids := []) [2, 3] (wreach_fc F true [k] hloF (by omega) hFr (by simpa using hlt) (by simp) seen rd hse hsb (by omega) (by omega)) rfl rfl (by simp only [go_sem]) (by kernel_rfl) rfl (by simp only [noOs, noO, List.getD_cons_zero, List.getD_cons_succ, cInts_noO, List.all_cons, List.all_nil, C.pl, Bool.and_true, Bool.and_self]) rfl (by (simp only [List.map_append, List.append_nil, go_sem]) <;> rfl) (by (simp only [pkh, wkO, cInts_ren, go_sem]) <;> rfl) ?_ ?_)
    ·rintro _ _ ⟨s1, hs1, _, _, _, rfl, rfl⟩ i o hi hl
     match i, hi, hl with
     | 0, hi, _ => cases hi; rfl
     | 1, hi, _ => cases hi; rfl
    rintro _ _ ⟨seen2, hse2, hsb3, p, hp, rfl, rfl⟩
    (simp only [aInts, aSets, wkO, cInts_up, List.append_nil, List.nil_append, List.length_map, go_sem]; refine hK1 _ ?_; clear hK1 K1)
    rw [sclo_eq (n := k) (fun u hu => by rw [hp u hu]; simp)]
    have hcl := sclo_lt (F := F) (n := k)
    have hcn := sclo_len F k
    have htk : (tInts ((sclo F k).map Int.ofNat)).take (sclo F k).length = tInts ((sclo F k).map Int.ofNat) := List.take_of_length_le (by rw [tInts_len, List.length_map]; exact Nat.le_refl _)
    generalize sclo F k = cl at *
    (refine v_le (le_frz (r := ⟨3, 1, true, cInts (cl.map Int.ofNat)⟩) 6 (tInts (cl.map Int.ofNat)) rfl (fz_c _) (show 0 < (1 : Nat) by omega)) ?_; simp only [ST.frz, A0.frz, AV.frz, C.frz, Nat.le_refl, List.set_cons_zero, List.set_cons_succ, go_sem, tInts_len, List.length_map, htk])
    (refine v_2 rfl rfl ?_; intro K1 hK1; refine stpX_mono ?_; refine stpX_call (ids := []) [] (unstT_fc F k cl hloF (by omega) hFr hcl (by omega)) rfl rfl (by simp only [go_sem]) (by kernel_rfl) rfl rfl rfl (by (simp only [List.map_append, List.append_nil, go_sem]) <;> rfl) (by (simp only [pkh, go_sem]) <;> rfl) ?_ ?_)
    ·rintro _ _ ⟨rfl, rfl⟩ i o hi hl; simp at hl
    rintro _ _ ⟨rfl, rfl⟩
    (simp only [aInts, aSets, List.append_nil, List.nil_append, List.length_map, go_sem]; refine hK1 _ ?_; clear hK1 K1)
    (repeat (first | ((first | refine v_0 rfl rfl rfl ?_ | refine v_1 rfl rfl rfl rfl rfl rfl rfl rfl rfl ?_ | refine v_1q rfl rfl rfl rfl rfl rfl rfl ?_ | refine v_1f rfl rfl rfl ?_ | refine v_2f rfl rfl rfl rfl ?_); intro K1 hK1; simp only [go_sem, cRows_len, hl]; (first | refine hK1 _ ?_ | refine andk (hK1 _ ?_)); clear hK1 K1) | (refine v_nil ⟨by simp, by simp, ?_⟩; refine hK _ ?_; clear hK K)))
    (refine v_3 rfl rfl rfl ?_; intro K1 hK1; refine stp_ev rfl ?_; simp only [go_sem, cRows_len, hl, ST.put, setC, A0.cells, crf]; (first | refine hK1 _ ?_ | refine andk (hK1 _ ?_)); clear hK1 K1)
    (repeat (first | ((first | refine v_0 rfl rfl rfl ?_ | refine v_1 rfl rfl rfl rfl rfl rfl rfl rfl rfl ?_ | refine v_1q rfl rfl rfl rfl rfl rfl rfl ?_ | refine v_1f rfl rfl rfl ?_ | refine v_2f rfl rfl rfl rfl ?_); intro K1 hK1; simp only [go_sem]; (first | refine hK1 _ ?_ | refine andk (hK1 _ ?_)); clear hK1 K1) | (refine v_nil ⟨by simp, by simp, ?_⟩; refine hK _ ?_; clear hK K)))
    (repeat (first | (refine aw_seq ?_; intro K hK) | refine aw_block ?_ | refine aw_region ?_ | (refine lst_x rfl rfl ?_; intro K1 hK1; simp only [go_sem]; (first | refine hK1 _ ?_ | refine andk (hK1 _ ?_)); clear hK1 K1) | ((first | refine lst_nil ?_ | refine aw_skip ?_); refine hK _ ?_; clear hK K)))
    ((try refine lst_nil ?_); (try refine aw_skip ?_); try simp only [ThenA])
    refine hK _ (k + 1, seen2, rd + 1) ⟨by simp only; omega, hse2, fun y hy => by have := hsb3 y hy; simp only; omega, by simp only; omega⟩ (by simp only; omega) ?_
    simp only [hm2]
    refine Le.trans (le_pick [0, 1, 2, 3, 4] rfl rfl) ?_
    (try simp only [List.set_nil, List.take_nil, List.take_zero, List.map_append, go_sem])
    (try simp only [cInts_ren, cRows_ren])
    (refine le_tm ?_; simp only [LeTm, go_sem]; try simp)
  ·have d1 : decide ((k : Int) < (F.length : Int)) = false := by simpa using hlt
   have hke : k = F.length := by omega
   rw [hke] at d1
   have e0 : dmL F F.length ++ List.replicate (F.length - F.length) [] = dmR F := by simp [dmR]
   rw [hke, e0]
   have hml : (dmR F).length = F.length := dmL_len F F.length
   have hbd := dm_bd hloF
   have hco := fcanon_fc (dmR F) (by omega) (fun r hr0 a ha => by have := (hbd r hr0).1 a ha; exact ⟨this.2.2.1, this.2.2.2⟩) (by omega) (fun r hr0 => (hbd r hr0).2)
   have hend : ∀ r o, diaO (canonR (dmR F)).1 r o → ∃ D : List Int, D.length = R.length ∧ (∀ v, v < R.length → Least (Adj true R) v (fnL D (-1) v)) ∧ ∃ q, q = canonR (tlOut (clsN D) (ixS D R.length).2 R R.length) ∧ diaO (canonR (dmR q.1)).1 r o := fun r o h => ⟨D, hD, hLD, q, hq, by rw [← hF]; exact h⟩
   generalize hG : dmR F = G at *
   generalize (canonR G).1 = x at *
   (repeat (first | (refine aw_seq ?_; intro K hK) | refine aw_block ?_ | refine aw_region ?_ | (refine lst_x rfl rfl ?_; intro K1 hK1; simp only [go_sem, d1]; (first | refine hK1 _ ?_ | refine andk (hK1 _ ?_)); clear hK1 K1) | ((first | refine lst_nil ?_ | refine aw_skip ?_); refine hK _ ?_; clear hK K)))
   (refine aw_cnd ?_; intro X Y hX hY; simp only [go_sem])
   refine hY ?_
   clear hX hY X Y
   (refine aw_exit ?_; simp only [ThenA, InBl, reduceIte, Nat.reduceEqDiff]; (first | refine hK _ ?_ | (clear hK K; refine hK _ ?_) | (clear hK K; clear hK K; refine hK _ ?_) | (clear hK K; clear hK K; clear hK K; refine hK _ ?_) | (clear hK K; clear hK K; clear hK K; clear hK K; refine hK _ ?_) | (clear hK K; clear hK K; clear hK K; clear hK K; clear hK K; refine hK _ ?_)); clear hK K)
   have htk : (tRows G).take F.length = tRows G := List.take_of_length_le (by rw [tRows_len]; omega)
   (refine aw_le (le_frz (r := ⟨32, 1, true, cRows G⟩) 4 (tRows G) rfl (fz_cr _) (show 0 < (1 : Nat) by omega)) ?_; simp only [ST.frz, A0.frz, AV.frz, C.frz, Nat.le_refl, List.set_cons_zero, List.set_cons_succ, go_sem, htk, tRows_len, hml])
   (repeat (first | (refine aw_seq ?_; intro K hK) | refine aw_block ?_ | refine aw_region ?_ | (refine lst_x rfl rfl ?_; intro K1 hK1; simp only [go_sem]; (first | refine hK1 _ ?_ | refine andk (hK1 _ ?_)); clear hK1 K1) | ((first | refine lst_nil ?_ | refine aw_skip ?_); refine hK _ ?_; clear hK K)))
   (refine lst_cons rfl ?_; intro K1 hK1; refine (stp_call0 (ids := []) (hco) rfl rfl (by simp only [go_sem]) (by kernel_rfl) (by (simp only [List.append_nil, go_sem]) <;> rfl) ?_).stp)
   intro r0 o0 h0
   by_cases ht : totA x ≤ 262144
   ·rw [fcR, if_pos ht] at h0
    obtain ⟨rfl, rfl⟩ := h0
    (simp only [aInts, aSets, List.append_nil, List.nil_append, List.length_map, go_sem]; refine hK1 _ ?_; clear hK1 K1)
    (repeat (first | (refine aw_seq ?_; intro K hK) | refine aw_block ?_ | refine aw_region ?_ | (refine lst_x rfl rfl ?_; intro K1 hK1; simp only [go_sem, ST.put, setC, A0.cells, Bool.not_true]; (first | refine hK1 _ ?_ | refine andk (hK1 _ ?_)); clear hK1 K1) | ((first | refine lst_nil ?_ | refine aw_skip ?_); refine hK _ ?_; clear hK K)))
    (refine aw_cnd ?_; intro X Y hX hY; simp only [go_sem])
    refine hY ?_
    clear hX hY X Y
    (repeat (first | (refine aw_seq ?_; intro K hK) | refine aw_block ?_ | refine aw_region ?_ | (refine lst_x rfl rfl ?_; intro K1 hK1; simp only [go_sem, ST.put, setC, A0.cells]; (first | refine hK1 _ ?_ | refine andk (hK1 _ ?_)); clear hK1 K1) | ((first | refine lst_nil ?_ | refine aw_skip ?_); refine hK _ ?_; clear hK K)))
    ((try refine aw_ret ?_); (try simp only [ThenA, InBl]); refine ret_le (le_pick [0] rfl rfl) ?_; (try simp only [List.set_nil, List.take_nil, List.take_zero, List.map_append, go_sem]); ((try refine aw_ret ?_); (try refine lst_nil ?_); (try simp only [ThenA, InBl]); refine ret_mk (by first | exact .inl rfl | exact .inr rfl) rfl ?_; simp only [rtn, resA, resL, resV, Try.results7, go_sem, true_and, and_true]))
    refine hend _ _ ?_
    rw [diaO, if_pos ht]
    exact ⟨rfl, rfl⟩
   ·rw [fcR, if_neg ht] at h0
    obtain ⟨rfl, rfl⟩ := h0
    (simp only [aInts, aSets, List.append_nil, List.nil_append, List.length_map, go_sem]; refine hK1 _ ?_; clear hK1 K1)
    (repeat (first | (refine aw_seq ?_; intro K hK) | refine aw_block ?_ | refine aw_region ?_ | (refine lst_x rfl rfl ?_; intro K1 hK1; simp only [go_sem, ST.put, setC, A0.cells, Bool.not_false]; (first | refine hK1 _ ?_ | refine andk (hK1 _ ?_)); clear hK1 K1) | ((first | refine lst_nil ?_ | refine aw_skip ?_); refine hK _ ?_; clear hK K)))
    (refine aw_cnd ?_; intro X Y hX hY; simp only [go_sem])
    refine hX ?_
    clear hX hY X Y
    (repeat (first | (refine aw_seq ?_; intro K hK) | refine aw_block ?_ | refine aw_region ?_ | (refine lst_x rfl rfl ?_; intro K1 hK1; simp only [go_sem, ST.put, setC, A0.cells]; (first | refine hK1 _ ?_ | refine andk (hK1 _ ?_)); clear hK1 K1) | ((first | refine lst_nil ?_ | refine aw_skip ?_); refine hK _ ?_; clear hK K)))
    ((try refine aw_ret ?_); (try simp only [ThenA, InBl]); refine ret_le (le_pick [0] rfl rfl) ?_; (try simp only [List.set_nil, List.take_nil, List.take_zero, List.map_append, go_sem]); ((try refine aw_ret ?_); (try refine lst_nil ?_); (try simp only [ThenA, InBl]); refine ret_mk (by first | exact .inl rfl | exact .inr rfl) rfl ?_; simp only [rtn, resA, resL, resV, Try.results7, go_sem, true_and, and_true]))
    refine hend _ _ ?_
    rw [diaO, if_neg ht]
    exact ⟨rfl, rfl⟩
end Go.Proofs.Ythlckclbjknldaa
