/- ref28.Diamond. -/
import Derived.Test.YthlckclbjknldaaGreatZk
import Derived.Test.YthlckclbjknldaaGreatMI
import Derived.Test.YthlckclbjknldaaGreatG61
import Derived.Test.YthlckclbjknldaaGreatG50
import Derived.Test.YthlckclbjknldaaGreatG02
import Derived.Test.YthlckclbjknldaaGreatG51a
namespace Go.Proofs.YthlckclbjknldaaGreat
set_option linter.unusedVariables false
set_option linter.unusedSimpArgs false
open Go.RowKit
set_option maxRecDepth 100000
attribute [local go_sem] List.set_cons_zero List.set_cons_succ List.map_cons List.map_nil List.take_succ_cons List.take_zero List.drop_zero List.drop_succ_cons C.pl C.one List.all_cons List.all_nil Bool.and_true Nat.mul_one Int.toNat_natCast

theorem rclo_fc (F : List (List Ar)) (n : Nat) (hv : valB F = true) (hnl : n < F.length) (hn : F.length ≤ 1000000) (hr : ∀ r ∈ F, r.length ≤ 1000000) : FC Tryz.prog 83 [aLts F, .a (.c (.t 1 (tInts [(n : Int)]))), .b true] [] (fun r o => o = [] ∧ r = .a (.c (.t 1 (tInts ((sclo F n).map Int.ofNat))))) :=
 ((reach_fc F n true hv hnl hn hr).mono fun r o ⟨B, h1, h2, L, hL, h3, h4⟩ => by
  have e : (List.range F.length).filter (seenB B) = sclo F n := sclo_eq (p := seenB B) fun u _ => by rw [h2, adj_eq true hv]
  rw [e] at hL
  subst hL
  exact ⟨h4, h3⟩).frz (fz_c _) Nat.zero_lt_one (by rw [tInts_len, Nat.mul_one])
noncomputable def rwN (F : List (List Ar)) (n m : Nat) (row : List Ar) : List (List Ar) := rdL F n ++ row :: List.replicate m []
theorem rwN_len {F : List (List Ar)} {n m : Nat} (row : List Ar) (h : F.length - n = m + 1) : (rwN F n m row).length = F.length := by simp [rwN, rdL_len]; omega
theorem rwN_get (F : List (List Ar)) (n m : Nat) (row : List Ar) : (rwN F n m row)[n]? = some row := by
 unfold rwN
 rw [List.getElem?_append_right (by rw [rdL_len]; exact Nat.le_refl _), rdL_len, Nat.sub_self]; rfl
theorem rwN_set (F : List (List Ar)) (n m : Nat) (row x : List Ar) : (rwN F n m row).set n x = rwN F n m x := by
 unfold rwN
 rw [List.set_append_right _ _ (by rw [rdL_len]; exact Nat.le_refl _), rdL_len, Nat.sub_self, List.set_cons_zero]
theorem rwN_start (F : List (List Ar)) (n m : Nat) : rdL F n ++ List.replicate (m + 1) [] = rwN F n m [] := by rw [List.replicate_succ]; rfl
theorem rwN_end (F : List (List Ar)) (n m : Nat) : rwN F n m (rdRow F n) = rdL F (n + 1) ++ List.replicate m [] := by rw [rdL_snoc, List.append_assoc]; rfl
theorem rowOf_snoc (l : List Ar) (a : Ar) : rowOf (l ++ [a]) = insA a (rowOf l) := by unfold rowOf; rw [List.foldl_append]; rfl
theorem rdSets_snoc (F : List (List Ar)) (cl : List Nat) (s : Nat) : rdSets F (cl ++ [s]) = rdSets F cl ++ (if stS F s then [acS F s] else []) := by
 unfold rdSets
 rw [List.filter_append, List.map_append]
 congr 1
 cases h : stS F s <;> simp [List.filter_cons, h]
theorem rdSets_len (F : List (List Ar)) (cl : List Nat) : (rdSets F cl).length ≤ cl.length := by
 unfold rdSets
 rw [List.length_map]
 exact List.length_filter_le _ _
theorem unR_pre (F : List (List Ar)) (n : Nat) (cl : List Nat) (k : Nat) : (unR F n (cl.take k)).length ≤ (unR F n cl).length := by
 have : unR F n cl = unR F n (cl.take k) ++ unR F n (cl.drop k) := by
  unfold unR
  rw [← List.flatMap_append, List.take_append_drop]
 rw [this, List.length_append]; omega
theorem canon_loo {G : List (List Ar)} (h1 : 1 ≤ G.length) (h2 : G.length ≤ 16384) (hb : ∀ r ∈ G, ∀ a ∈ r, 0 ≤ a.1 ∧ a.1 ≤ 1025 ∧ 0 ≤ a.2 ∧ a.2 < (G.length : Int)) : looB (canonR G).1 = decide (totA (canonR G).1 ≤ 262144) := by
 obtain ⟨k1, k2, k3, k4⟩ := canGo_val (B := totA G) hb G.length 0 _ _ [] G (NumOk.start h1) (NumInj.start h1) (NumSur.start h1) rfl (by simp) (by omega) ⟨by simp, by simp⟩ rfl (fun _ _ _ => rfl) (by simp [totA])
 simp only [List.length_singleton] at k1
 rw [Bool.eq_iff_iff]
 show decide (LooP (canonR G).1) = true ↔ _
 rw [decide_eq_true_iff, decide_eq_true_iff]
 exact ⟨fun h => h.2.2.1, fun h => ⟨k1, Nat.le_trans k2 h2, h, k3.bd⟩⟩
theorem rd_bd {F : List (List Ar)} (hv : valB F = true) : ∀ r ∈ rdL F F.length, (∀ a ∈ r, 0 ≤ a.1 ∧ a.1 ≤ 1025 ∧ 0 ≤ a.2 ∧ a.2 < (F.length : Int)) ∧ r.length ≤ 1000000 := by
 have hlo : looB F = true := decide_eq_true (of_decide_eq_true hv).1
 have hp : LooP F := of_decide_eq_true hlo
 have hb := dm_bd hlo
 have h2 : F.length ≤ 16384 := hp.2.1
 have h3 : totA F ≤ 262144 := hp.2.2.1
 intro r hr
 obtain ⟨n, hn, rfl⟩ := List.mem_map.1 hr
 have hn2 : n < F.length := by simpa using hn
 have hm : dmRow F n ∈ dmR F := List.mem_map.2 ⟨n, hn, rfl⟩
 refine ⟨fun a ha => ?_, ?_⟩
 ·have := (hb _ hm).1 a ((dm_row hv n a).2 ha)
  rw [show (dmR F).length = F.length from dmL_len F F.length] at this
  exact this
 ·unfold rdRow
  split
  ·have := totA_row F n; omega
  ·have k1 := rwC_len (F := F) (all := sclo F n) (S := minR (rdSets F (sclo F n))) (rowOf_sorted (unR F n (sclo F n))) (minR (rdSets F (sclo F n))).length
   have k2 := len_rowOf (unR F n (sclo F n))
   have k3 := unR_len F n (sclo F n)
   have k4 : ((sclo F n).map fun s => (F.getD s []).length).sum ≤ totA F := by rw [tot_range]; exact sum_filter_le _ _ _
   have k5 := sclo_len F n
   omega
set_option maxHeartbeats 16000000 in
theorem rdia_fc (R : List (List Ar)) (hv : valB R = true) (h1 : 1 ≤ R.length) (hn : R.length ≤ 1000000) (hr : ∀ r ∈ R, r.length ≤ 1000000) : FC Tryz.prog 47 [aLts R] [] (fun r o => ∃ D : List Int, D.length = R.length ∧ (∀ v, v < R.length → Least (AdjF true R) v (fnL D (-1) v)) ∧ ∃ q, q = canonR (tiOut (clsN D) (ixS D R.length).2 R R.length) ∧ diaO (canonR (dmR q.1)).1 r o) := by
 refine fc_intro Tryz.func47 rfl (by rw [Tryz.ntmps47]; simp) ?_
 rw [Tryz.ntmps47]
 simp only [enum, aLts]
 (refine wk0 ?_; (repeat clear hK K); repeat (refine Kq.mk ?_; intro K hK))
 (refine ckz (rtauL_fc R hv h1 hn hr) ?_; intro K1 hK1)
 rintro _ _ ⟨D, hD, hLD, q, hq, rfl, rfl⟩
 have hvF : valB q.1 = true := by
  have := tl_val (D := D) hv hD (by rw [← adj_eq true hv]; exact hLD)
  rw [hq, canon_ti]; exact this
 obtain ⟨F, hF⟩ : ∃ F, F = q.1 := ⟨_, rfl⟩
 rw [← hF] at hvF ⊢
 have hloF : looB F = true := decide_eq_true (of_decide_eq_true hvF).1
 have hpF : LooP F := of_decide_eq_true hloF
 have hFl : F.length ≤ 16384 := hpF.2.1
 have hFt : totA F ≤ 262144 := hpF.2.2.1
 have hF1 := hpF.1
 have hFr : ∀ r ∈ F, r.length ≤ 262144 := fun r hr0 => by
  obtain ⟨j, hj, rfl⟩ := List.getElem_of_mem hr0
  have h := totA_row F j
  rw [List.getD_eq_getElem?_getD, List.getElem?_eq_getElem hj, Option.getD_some] at h
  omega
 have hFr1 : ∀ r ∈ F, r.length ≤ 1000000 := fun r h => by have := hFr r h; omega
 have hFn : F.length ≤ 1000000 := by omega
 have hend : ∀ r o, diaO (canonR (dmR F)).1 r o → ∃ D : List Int, D.length = R.length ∧ (∀ v, v < R.length → Least (AdjF true R) v (fnL D (-1) v)) ∧ ∃ q, q = canonR (tiOut (clsN D) (ixS D R.length).2 R R.length) ∧ diaO (canonR (dmR q.1)).1 r o := fun r o h => ⟨D, hD, hLD, q, hq, by rw [← hF]; exact h⟩
 (refine bkz ?_; clear hK1 K1)
 (refine wks0 ?_; (repeat clear hK K); repeat (refine Kq.mk ?_; intro K hK))
 (refine aw_cnd ?_; intro X Y hX hY; simp only [go_sem])
 refine ⟨fun h => absurd h (by simp), fun _ => hY ?_⟩
 clear hX hY X Y
 (refine wks1 @tRows_len ?_; (repeat clear hK K); repeat (refine Kq.mk ?_; intro K hK))
 refine aw_le (le_ot 4 rfl) ?_
 simp only [cRows_ot, go_sem]
 refine aw_le (le_pick [1, 3, 4, 5] rfl rfl) ?_
 (try simp only [List.set_nil, List.take_nil, List.take_zero, List.map_append, go_sem])
 (try simp only [cInts_ren, cRows_ren])
 refine aw_loop (fun n : Nat => { tm := [(2, .a (.c (.p 0 0))), (4, .a (.c (.p 1 0))), (6, .a (.c (.p 3 0))), (7, .i n)], hp := [.r ⟨25, 1, false, [.v (.slice none 0 0)]⟩, .r ⟨25, 1, false, [.t 1 (tRows F)]⟩, .r ⟨29, 1, true, cRows (rdL F n ++ List.replicate (F.length - n) [])⟩, .r ⟨25, 1, false, [.s 2 F.length]⟩], n := 200, pin := 0 }) (fun n => n ≤ F.length) (fun n => F.length - n) 0 ?_ ?_ ?_
 ·omega
 ·simp only [rdL, List.range_zero, List.map_nil, List.nil_append, Nat.sub_zero]
  exact lmz
 ·rintro n hnl K hK
  by_cases hlt : n < F.length
  ·have d1 : decide ((n : Int) < (F.length : Int)) = true := by simpa using hlt
   have hgR := List.getElem?_eq_getElem hlt
   have hst := rst_fc F n hvF hlt hFn hFr1
   obtain ⟨m, hm⟩ : ∃ m, F.length - n = m + 1 := ⟨F.length - n - 1, by omega⟩
   have hm2 : F.length - (n + 1) = m := by omega
   have hre := rwN_end F n m
   have hKo := hK
   rw [hm, rwN_start]
   cases hsb : stS F n with
   | true =>
    rw [hsb] at hst
    have hrr : rdRow F n = F[n] := by rw [rdRow, if_pos hsb, getD_at hlt]
    rw [hrr] at hre
    have hoL := rwN_len (row := []) hm
    have hoS := rwN_set F n m [] F[n]
    generalize F[n] = row at *
    (refine wk1 (an @d1 @tRows_len) ?_; (repeat clear hK K); repeat (refine Kq.mk ?_; intro K hK))
    refine cxz ?_
    (refine wk0 ?_; (repeat clear hK K); repeat (refine Kq.mk ?_; intro K hK))
    (refine ckz hst ?_; intro K1 hK1)
    rintro _ _ ⟨rfl, rfl⟩
    (refine bkz ?_; clear hK1 K1)
    (refine wk0 ?_; (repeat clear hK K); repeat (refine Kq.mk ?_; intro K hK))
    refine cxz ?_
    (refine wk0 ?_; (repeat clear hK K); repeat (refine Kq.mk ?_; intro K hK))
    (refine aw_regionV [] [(0, 0, 0), (2, 0, 0), (3, 0, 0), (5, 0, 0), (1, 1, 9), (4, 1, 9), (6, 0, 0), (7, 1, 9), (8, 0, 0), (9, 2, 0)] (by kernel_rfl) (by kernel_rfl) (by intro c st h; simp [ThenA, InBl, Ret] at h) ?_)
    (refine vk1 (an @cRows_len (an @hoL (an @tRows_len (tRows_get hgR)))) ?_; repeat clear hK K)
    (refine v_3 rfl rfl rfl ?_; intro K1 hK1; refine stp_ev rfl ?_; simp only [go_sem, cRows_len, hoL, cRows_set, hoS, ST.put, setC, A0.cells]; (first | refine hK1 _ ?_ | refine andk (hK1 _ ?_)); clear hK1 K1)
    refine v_nil ⟨by simp, by simp, ?_⟩
    (try simp only [ThenA, InBl])
    refine hK _ ?_
    clear hK K
    (refine ekz ?_; repeat clear hK K)
    (refine wk0 ?_; (repeat clear hK K); repeat (refine Kq.mk ?_; intro K hK))
    refine rnz ?_
    refine hKo _ (n + 1) (by omega) (by omega) ?_
    simp only [hm2, hre]
    exact lmz
   | false =>
    rw [hsb] at hst
    have hrr : rdRow F n = rwC F (sclo F n) (minR (rdSets F (sclo F n))) (rowOf (unR F n (sclo F n))) (minR (rdSets F (sclo F n))).length := by rw [rdRow, hsb]; rfl
    rw [hrr] at hre
    have hrc := rclo_fc F n hvF hlt hFn hFr1
    have hcl := sclo_lt (F := F) (n := n)
    have hcn := sclo_len F n
    have hul := unR_len F n (sclo F n)
    have hus : ((sclo F n).map fun s => (F.getD s []).length).sum ≤ totA F := by rw [tot_range]; exact sum_filter_le _ _ _
    have hoL0 := rwN_len (row := []) hm
    (refine wk1 (an @d1 @tRows_len) ?_; (repeat clear hK K); repeat (refine Kq.mk ?_; intro K hK))
    refine cxz ?_
    (refine wk0 ?_; (repeat clear hK K); repeat (refine Kq.mk ?_; intro K hK))
    (refine ckz hst ?_; intro K1 hK1)
    rintro _ _ ⟨rfl, rfl⟩
    (refine bkz ?_; clear hK1 K1)
    (refine wk0 ?_; (repeat clear hK K); repeat (refine Kq.mk ?_; intro K hK))
    refine cyz ?_
    (refine wk0 ?_; (repeat clear hK K); repeat (refine Kq.mk ?_; intro K hK))
    (refine lst_le (le_frz (r := ⟨3, 1, true, cInts [(n : Int)]⟩) 4 (tInts [(n : Int)]) rfl (fz_c _) (show 0 < (1 : Nat) by omega)) ?_; simp only [ST.frz, A0.frz, AV.frz, C.frz, Nat.le_refl, List.set_cons_zero, List.set_cons_succ, go_sem, show (tInts [(n : Int)]).take 1 = tInts [(n : Int)] from rfl])
    (refine ckz hrc ?_; intro K1 hK1)
    rintro _ _ ⟨rfl, rfl⟩
    clear hrc
    generalize sclo F n = cl at *
    have hcl2 : (cl.map Int.ofNat).length = cl.length := by simp
    (refine bkz ?_; clear hK1 K1)
    (refine wk0 ?_; (repeat clear hK K); repeat (refine Kq.mk ?_; intro K hK))
    refine aw_le (le_nil 9 22 1 ?_) ?_
    ·simp only [go_sem]
    refine aw_le (le_pick [0, 1, 2, 3, 5] rfl rfl) ?_
    (try simp only [List.set_nil, List.take_nil, List.take_zero, List.map_append, go_sem])
    (try simp only [cRows_ren])
    refine aw_loop (fun i : Nat => { tm := [(2, .a (.c (.p 0 0))), (4, .a (.c (.p 1 0))), (6, .a (.c (.p 3 0))), (7, .i n), (8, .a (.c (.t 1 (tInts (cl.map Int.ofNat))))), (9, .a (.c (.s 4 (rdSets F (cl.take i)).length))), (10, .i i)], hp := [.r ⟨25, 1, false, [.v (.slice none 0 0)]⟩, .r ⟨25, 1, false, [.t 1 (tRows F)]⟩, .r ⟨29, 1, true, cRows (rwN F n m (rowOf (unR F n (cl.take i))))⟩, .r ⟨25, 1, false, [.s 2 F.length]⟩, .r ⟨22, 1, true, cSets (rdSets F (cl.take i))⟩], n := 200, pin := 0 }) (fun i => i ≤ cl.length) (fun i => cl.length - i) 0 ?_ ?_ ?_
    ·omega
    ·simp only [List.take_zero, rdSets, List.filter_nil, List.map_nil, unR, List.flatMap_nil, rowOf, List.foldl_nil, cSets, List.length_nil]
     exact lmz
    ·rintro i hil K hK
     by_cases hlt2 : i < cl.length
     ·have d2 : decide ((i : Int) < (cl.length : Int)) = true := by simpa using hlt2
      have gF : (tInts (cl.map Int.ofNat))[i]? = some (.v (.int .i64 (cl[i] : Int))) := tInts_get (by rw [List.getElem?_map, List.getElem?_eq_getElem hlt2]; rfl)
      have hxl := hcl _ (List.getElem_mem hlt2)
      have hTk : cl.take (i + 1) = cl.take i ++ [cl[i]] := List.take_succ_eq_append_getElem hlt2
      have hpre := unR_pre F n cl i
      have hss := rdSets_snoc F (cl.take i) cl[i]
      have hur := unR_snoc F n (cl.take i) cl[i]
      rw [← hTk] at hss hur
      have hsl := rdSets_len F (cl.take i)
      have htl : (cl.take i).length ≤ i := by simp; omega
      clear hTk
      generalize cl[i] = x at *
      have hgX := List.getElem?_eq_getElem hxl
      rw [getD_at hxl] at hur
      have hrl := hFr _ (List.getElem_mem hxl)
      have hstx := rst_fc F x hvF hxl hFn hFr1
      have hacx := rac_fc F x hvF hxl hFn hFr1
      have hali := acS_len hvF hxl hFr1
      generalize F[x] = row at *
      generalize hU : unR F n (cl.take i) = U at *
      generalize rdSets F (cl.take i) = Q at *
      (refine wk1 (an @d2 (an @tInts_len @hcl2)) ?_; (repeat clear hK K); repeat (refine Kq.mk ?_; intro K hK))
      refine cxz ?_
      (refine wk1 (an @gF (an @tInts_len @hcl2)) ?_; (repeat clear hK K); repeat (refine Kq.mk ?_; intro K hK))
      refine aw_loop (fun k : Nat => { tm := [(2, .a (.c (.p 0 0))), (4, .a (.c (.p 1 0))), (6, .a (.c (.p 3 0))), (7, .i n), (8, .a (.c (.t 1 (tInts (cl.map Int.ofNat))))), (9, .a (.c (.s 4 Q.length))), (10, .i i), (11, .i x), (12, .i k)], hp := [.r ⟨25, 1, false, [.v (.slice none 0 0)]⟩, .r ⟨25, 1, false, [.t 1 (tRows F)]⟩, .r ⟨29, 1, true, cRows (rwN F n m (rowOf (U ++ stepF row n x k)))⟩, .r ⟨25, 1, false, [.s 2 F.length]⟩, .r ⟨22, 1, true, cSets Q⟩], n := 200, pin := 0 }) (fun k => k ≤ row.length) (fun k => row.length - k) 0 ?_ ?_ ?_
      ·omega
      ·simp only [stepF, List.take_zero, List.filterMap_nil, List.append_nil]
       exact lmz
      ·rintro k hk K hK
       by_cases hlt3 : k < row.length
       ·have d3 : decide ((k : Int) < (row.length : Int)) = true := by simpa using hlt3
        have hat := tArcs_at hlt3
        have hsu := stepF_succ (n := n) (s := x) hlt3
        have hfl := stepF_len row n x k
        have hrw := len_rowOf (U ++ stepF row n x k)
        rw [List.length_append] at hrw
        have hpr : rowOf (U ++ stepF row n x (k + 1)) = (match unA1 n x row[k] with | some b => insA b (rowOf (U ++ stepF row n x k)) | none => rowOf (U ++ stepF row n x k)) := by
         rw [hsu, ← List.append_assoc]
         cases unA1 n x row[k] with
         | none => simp
         | some b => exact rowOf_snoc _ _
        clear hsu
        generalize rowOf (U ++ stepF row n x k) = rw0 at *
        generalize row[k] = a at *
        obtain ⟨e, t⟩ := a
        simp only at hat
        have gO := cRows_get (rwN_get F n m rw0)
        have hoL := rwN_len (row := rw0) hm
        (refine wk1 (an @d3 (an @tRows_len (an (tRows_get hgX) (an @tArcs_len @half2)))) ?_; (repeat clear hK K); repeat (refine Kq.mk ?_; intro K hK))
        refine cxz ?_
        (refine wks1 (an @hat (an @tRows_len (an (tRows_get hgX) (an @tArcs_len @half2)))) ?_; (repeat clear hK K); repeat (refine Kq.mk ?_; intro K hK))
        by_cases he : e = 0
        ·have d4 : (e != 0) = false := by simp [he]
         (refine aw_cnd ?_; intro X Y hX hY; simp only [go_sem, d4])
         refine hY ?_
         clear hX hY X Y
         by_cases ht : t = (x : Int)
         ·have d5 : (t == (x : Int)) = true := by simpa using ht
          have hx : unA1 n x (e, t) = some (0, (n : Int)) := by simp [unA1, he, ht]
          rw [hx] at hpr
          simp only at hpr
          have hoS := rwN_set F n m rw0 (insA (0, (n : Int)) rw0)
          (refine wks1 (an @d5 (an @hat (an @tRows_len (an (tRows_get hgX) (an @tArcs_len @half2))))) ?_; (repeat clear hK K); repeat (refine Kq.mk ?_; intro K hK))
          refine cxz ?_
          (refine wk0 ?_; (repeat clear hK K); repeat (refine Kq.mk ?_; intro K hK))
          (refine aw_regionV [] [(0, 0, 0), (2, 0, 0), (3, 0, 0), (5, 0, 0), (8, 0, 0), (9, 0, 0), (1, 1, 12), (4, 1, 10), (6, 0, 0), (7, 1, 10), (10, 2, 0), (11, 0, 0), (12, 2, 0)] (by kernel_rfl) (by kernel_rfl) (by intro c st h; simp [ThenA, InBl, Ret] at h) ?_)
          (refine vk1 (an @cRows_len (an @gO @hoL)) ?_; repeat clear hK K)
          (refine v_2 rfl rfl ?_; intro K1 hK1; refine stpX_mono ?_; refine stpX_call (ids := []) [] (insT_fc rw0 (0, (n : Int)) (by omega)) rfl rfl (by simp only [go_sem]) (by kernel_rfl) rfl rfl rfl (by (simp only [List.map_append, List.append_nil, go_sem]) <;> rfl) (by (simp only [pkh, go_sem]) <;> rfl) ?_ ?_)
          ·rintro _ _ ⟨rfl, rfl⟩ i o hi hl; simp at hl
          rintro _ _ ⟨rfl, rfl⟩
          (simp only [aInts, aSets, aArcs, List.append_nil, List.nil_append, List.length_map, go_sem]; refine hK1 _ ?_; clear hK1 K1)
          (refine vk1 (an @cRows_len @hoL) ?_; repeat clear hK K)
          (refine v_3 rfl rfl rfl ?_; intro K1 hK1; refine stp_ev rfl ?_; simp only [go_sem, cRows_len, hoL, cRows_set, hoS, ST.put, setC, A0.cells]; (first | refine hK1 _ ?_ | refine andk (hK1 _ ?_)); clear hK1 K1)
          refine v_nil ⟨by simp, by simp, ?_⟩
          (try simp only [ThenA, InBl])
          refine hK _ ?_
          clear hK K
          (refine wk0 ?_; (repeat clear hK K); repeat (refine Kq.mk ?_; intro K hK))
          refine rnz ?_
          refine hK _ (k + 1) (by omega) (by omega) ?_
          rw [hpr]
          refine Le.trans (le_pick [0, 1, 2, 3, 4] rfl rfl) ?_
          (try simp only [List.set_nil, List.take_nil, List.take_zero, List.map_append, go_sem])
          (try simp only [cRows_ren, cSets_ren])
          exact lmz
         ·have d5 : (t == (x : Int)) = false := by simpa using ht
          have hx : unA1 n x (e, t) = none := by simp [unA1, he, ht]
          rw [hx] at hpr
          simp only at hpr
          (refine wks1 (an @d5 (an @hat (an @tRows_len (an (tRows_get hgX) (an @tArcs_len @half2))))) ?_; (repeat clear hK K); repeat (refine Kq.mk ?_; intro K hK))
          refine cyz ?_
          (refine wk0 ?_; (repeat clear hK K); repeat (refine Kq.mk ?_; intro K hK))
          refine rnz ?_
          refine hK _ (k + 1) (by omega) (by omega) ?_
          rw [hpr]
          refine Le.trans (le_pick [0, 1, 2, 3, 4] rfl rfl) ?_
          (try simp only [List.set_nil, List.take_nil, List.take_zero, List.map_append, go_sem])
          (try simp only [cRows_ren, cSets_ren])
          exact lmz
        ·have d4 : (e != 0) = true := by simpa using he
         have hx : unA1 n x (e, t) = some (e, t) := by simp [unA1, he]
         rw [hx] at hpr
         simp only at hpr
         have hoS := rwN_set F n m rw0 (insA (e, t) rw0)
         (refine aw_cnd ?_; intro X Y hX hY; simp only [go_sem, d4])
         refine hX ?_
         clear hX hY X Y
         (refine wk0 ?_; (repeat clear hK K); repeat (refine Kq.mk ?_; intro K hK))
         (refine aw_regionV [] [(0, 0, 0), (2, 0, 0), (3, 0, 0), (5, 0, 0), (1, 1, 11), (4, 1, 9), (6, 0, 0), (7, 1, 9), (8, 1, 9), (9, 2, 0), (10, 0, 0), (11, 2, 0)] (by kernel_rfl) (by kernel_rfl) (by intro c st h; simp [ThenA, InBl, Ret] at h) ?_)
         (refine vk1 (an @cRows_len (an @gO @hoL)) ?_; repeat clear hK K)
         (refine v_2 rfl rfl ?_; intro K1 hK1; refine stpX_mono ?_; refine stpX_call (ids := []) [] (insT_fc rw0 (e, t) (by omega)) rfl rfl (by simp only [go_sem]) (by kernel_rfl) rfl rfl rfl (by (simp only [List.map_append, List.append_nil, go_sem]) <;> rfl) (by (simp only [pkh, go_sem]) <;> rfl) ?_ ?_)
         ·rintro _ _ ⟨rfl, rfl⟩ i o hi hl; simp at hl
         rintro _ _ ⟨rfl, rfl⟩
         (simp only [aInts, aSets, aArcs, List.append_nil, List.nil_append, List.length_map, go_sem]; refine hK1 _ ?_; clear hK1 K1)
         (refine vk1 (an @cRows_len @hoL) ?_; repeat clear hK K)
         (refine v_3 rfl rfl rfl ?_; intro K1 hK1; refine stp_ev rfl ?_; simp only [go_sem, cRows_len, hoL, cRows_set, hoS, ST.put, setC, A0.cells]; (first | refine hK1 _ ?_ | refine andk (hK1 _ ?_)); clear hK1 K1)
         refine v_nil ⟨by simp, by simp, ?_⟩
         (try simp only [ThenA, InBl])
         refine hK _ ?_
         clear hK K
         (refine wk0 ?_; (repeat clear hK K); repeat (refine Kq.mk ?_; intro K hK))
         refine rnz ?_
         refine hK _ (k + 1) (by omega) (by omega) ?_
         rw [hpr]
         refine Le.trans (le_pick [0, 1, 2, 3, 4] rfl rfl) ?_
         (try simp only [List.set_nil, List.take_nil, List.take_zero, List.map_append, go_sem])
         (try simp only [cRows_ren, cSets_ren])
         exact lmz
       ·have d3 : decide ((k : Int) < (row.length : Int)) = false := by simpa using hlt3
        have hfull : stepF row n x k = row.filterMap (unA1 n x) := by unfold stepF; rw [List.take_of_length_le (by omega)]
        rw [hfull, ← hur]
        (refine wk1 (an @d3 (an @tRows_len (an (tRows_get hgX) (an @tArcs_len @half2)))) ?_; (repeat clear hK K); repeat (refine Kq.mk ?_; intro K hK))
        refine cyz ?_
        (refine ekz ?_; repeat clear hK K)
        (refine wk0 ?_; (repeat clear hK K); repeat (refine Kq.mk ?_; intro K hK))
        (refine ckz hstx ?_; intro K1 hK1)
        rintro _ _ ⟨rfl, rfl⟩
        (refine bkz ?_; clear hK1 K1)
        cases hsx : stS F x with
        | false =>
         rw [hsx] at hss
         simp only [Bool.false_eq_true, if_false, List.append_nil] at hss
         (refine wk0 ?_; (repeat clear hK K); repeat (refine Kq.mk ?_; intro K hK))
         refine cyz ?_
         (refine wk0 ?_; (repeat clear hK K); repeat (refine Kq.mk ?_; intro K hK))
         refine rnz ?_
         refine hK _ (i + 1) (by omega) (by omega) ?_
         rw [hss]
         exact lmz
        | true =>
         rw [hsx] at hss
         simp only [if_true] at hss
         (refine wk0 ?_; (repeat clear hK K); repeat (refine Kq.mk ?_; intro K hK))
         refine cxz ?_
         (refine wk0 ?_; (repeat clear hK K); repeat (refine Kq.mk ?_; intro K hK))
         (refine ckz hacx ?_; intro K1 hK1)
         rintro _ _ ⟨rfl, b, rfl⟩
         (refine bkz ?_; clear hK1 K1)
         have cs := c1_set Q (acS F x)
         (refine wk1 (an @cSets_len @cs) ?_; (repeat clear hK K); repeat (refine Kq.mk ?_; intro K hK))
         refine rnz ?_
         refine hK _ (i + 1) (by omega) (by omega) ?_
         rw [hss]
         refine Le.trans (le_pick [0, 1, 2, 3, 6] rfl rfl) ?_
         (try simp only [List.set_nil, List.take_nil, List.take_zero, List.map_append, go_sem])
         (try simp only [cRows_ren, cSets_ren])
         simp only [List.length_append, List.length_cons, List.length_nil, Nat.zero_add]
         exact lmz
     ·have d2 : decide ((i : Int) < (cl.length : Int)) = false := by simpa using hlt2
      have hfull : cl.take i = cl := List.take_of_length_le (by omega)
      rw [hfull]
      have hsl := rdSets_len F cl
      have hQb : ∀ y ∈ rdSets F cl, y.length ≤ 100000000 := fun y hy => by
       obtain ⟨t, ht, rfl⟩ := List.mem_map.1 hy
       have := (acS_len hvF (hcl t (List.mem_filter.1 ht).1) hFr1).1
       omega
      have hmn := rmin_fc (rdSets F cl) (by omega) hQb
      have hSl := minR_len (rdSets F cl)
      have hSb : ∀ y ∈ minR (rdSets F cl), y.length ≤ 100000000 := fun y hy => hQb y (minR_sub hy)
      have htk : (tSets (rdSets F cl)).take (rdSets F cl).length = tSets (rdSets F cl) := List.take_of_length_le (by rw [tSets_len]; exact Nat.le_refl _)
      generalize rdSets F cl = Q at *
      generalize minR Q = S at *
      have hr0s : SortA (rowOf (unR F n cl)) := rowOf_sorted _
      have hr0l := len_rowOf (unR F n cl)
      generalize rowOf (unR F n cl) = row0 at *
      (refine wk1 (an @d2 (an @tInts_len @hcl2)) ?_; (repeat clear hK K); repeat (refine Kq.mk ?_; intro K hK))
      refine cyz ?_
      (refine ekz ?_; repeat clear hK K)
      (refine aw_le (le_frz (r := ⟨22, 1, true, cSets Q⟩) 4 (tSets Q) rfl (fz_sets _) (show 0 < (1 : Nat) by omega)) ?_; simp only [ST.frz, A0.frz, AV.frz, C.frz, Nat.le_refl, List.set_cons_zero, List.set_cons_succ, go_sem, tSets_len, htk])
      (refine wk0 ?_; (repeat clear hK K); repeat (refine Kq.mk ?_; intro K hK))
      (refine ckz hmn ?_; intro K1 hK1)
      rintro _ _ ⟨rfl, rfl⟩
      (refine bkz ?_; clear hK1 K1)
      (refine wk0 ?_; (repeat clear hK K); repeat (refine Kq.mk ?_; intro K hK))
      refine aw_le (le_pick [0, 1, 2, 3] rfl rfl) ?_
      (try simp only [List.set_nil, List.take_nil, List.take_zero, List.map_append, go_sem])
      (try simp only [cRows_ren])
      refine aw_loop (fun i : Nat => { tm := [(2, .a (.c (.p 0 0))), (4, .a (.c (.p 1 0))), (6, .a (.c (.p 3 0))), (7, .i n), (8, .a (.c (.t 1 (tInts (cl.map Int.ofNat))))), (9, .a (.c (.t 1 (tSets S)))), (16, .i i)], hp := [.r ⟨25, 1, false, [.v (.slice none 0 0)]⟩, .r ⟨25, 1, false, [.t 1 (tRows F)]⟩, .r ⟨29, 1, true, cRows (rwN F n m (rwC F cl S row0 i))⟩, .r ⟨25, 1, false, [.s 2 F.length]⟩], n := 200, pin := 0 }) (fun i => i ≤ S.length) (fun i => S.length - i) 0 ?_ ?_ ?_
      ·omega
      ·simp only [rwC]
       exact lmz
      ·rintro i hil K hK
       by_cases hlt2 : i < S.length
       ·have d2 : decide ((i : Int) < (S.length : Int)) = true := by simpa using hlt2
        have gS := tSets_get (List.getElem?_eq_getElem hlt2)
        have hgS : S.getD i [] = S[i] := by rw [List.getD_eq_getElem?_getD, List.getElem?_eq_getElem hlt2]; rfl
        have hrC : rwC F cl S row0 (i + 1) = rwD F cl S[i] (rwC F cl S row0 i) cl.length := by rw [rwC, hgS]
        have hxb := hSb _ (List.getElem_mem hlt2)
        have hDl := fun mm (h : mm ≤ cl.length) => rwD_len (F := F) (all := cl) (S := S) (s := S[i]) hr0s i mm h
        generalize S[i] = y at *
        generalize rwC F cl S row0 i = rC at *
        (refine wk1 (an @d2 @tSets_len) ?_; (repeat clear hK K); repeat (refine Kq.mk ?_; intro K hK))
        refine cxz ?_
        (refine wk1 (an @tInts_len @hcl2) ?_; (repeat clear hK K); repeat (refine Kq.mk ?_; intro K hK))
        refine aw_loop (fun j : Nat => { tm := [(2, .a (.c (.p 0 0))), (4, .a (.c (.p 1 0))), (6, .a (.c (.p 3 0))), (7, .i n), (8, .a (.c (.t 1 (tInts (cl.map Int.ofNat))))), (9, .a (.c (.t 1 (tSets S)))), (16, .i i), (17, .i ((cl.length : Int) - 1 - j))], hp := [.r ⟨25, 1, false, [.v (.slice none 0 0)]⟩, .r ⟨25, 1, false, [.t 1 (tRows F)]⟩, .r ⟨29, 1, true, cRows (rwN F n m (rwD F cl y rC j))⟩, .r ⟨25, 1, false, [.s 2 F.length]⟩], n := 200, pin := 0 }) (fun j => j ≤ cl.length) (fun j => cl.length - j) 0 ?_ ?_ ?_
        ·omega
        ·simp only [rwD, Int.ofNat_zero, Int.sub_zero]
         exact lmz
        ·rintro j hj K hK
         by_cases hlt3 : j < cl.length
         ·obtain ⟨k, hk⟩ : ∃ k, k = cl.length - 1 - j := ⟨_, rfl⟩
          have hkl : k < cl.length := by omega
          have e1 : (cl.length : Int) - 1 - j = (k : Int) := by omega
          have e2 : (cl.length : Int) - 1 - ((j + 1 : Nat) : Int) = (k : Int) - 1 := by omega
          have d3 : decide ((k : Int) ≥ 0) = true := decide_eq_true (by omega)
          have gF : (tInts (cl.map Int.ofNat))[k]? = some (.v (.int .i64 (cl[k] : Int))) := tInts_get (by rw [List.getElem?_map, List.getElem?_eq_getElem hkl]; rfl)
          have hgk : cl.getD k 0 = cl[k] := by rw [List.getD_eq_getElem?_getD, List.getElem?_eq_getElem hkl]; rfl
          have hxl := hcl _ (List.getElem_mem hkl)
          have hrD : rwD F cl y rC (j + 1) = rdSt F cl y k (rwD F cl y rC j) := by rw [rwD, ← hk]
          have hdl := hDl j (by omega)
          unfold rdSt at hrD
          rw [hgk] at hrD
          clear hgk
          generalize cl[k] = x at *
          have hstx := rst_fc F x hvF hxl hFn hFr1
          have hacx := rac_fc F x hvF hxl hFn hFr1
          have hali := acS_len hvF hxl hFr1
          have hri := rints_fc (acS F x) y (by omega) (by omega)
          have hfi := first_fc F cl k (acS F x) hvF hcl (by omega) (by omega) hali.1 hFn hFr1
          have hKi := hK
          generalize rwD F cl y rC j = rw0 at *
          rw [e1]
          have gO := cRows_get (rwN_get F n m rw0)
          have hoL := rwN_len (row := rw0) hm
          (refine wk1 @d3 ?_; (repeat clear hK K); repeat (refine Kq.mk ?_; intro K hK))
          refine cxz ?_
          (refine wk0 ?_; (repeat clear hK K); repeat (refine Kq.mk ?_; intro K hK))
          (refine aw_regionV [] [(1, 0, 0), (2, 0, 0), (3, 0, 0), (0, 1, 5), (4, 1, 5), (5, 2, 0), (6, 0, 0), (7, 0, 0), (8, 0, 0), (9, 0, 0), (10, 2, 0)] (by kernel_rfl) (by kernel_rfl) (by intro c st h; simp [ThenA, InBl, Ret] at h) ?_)
          (refine vk1 (an @gF (an @tInts_len @hcl2)) ?_; repeat clear hK K)
          (refine v_2 rfl rfl ?_; intro K1 hK1; refine stpX_mono ?_; refine stpX_call (ids := []) [] (hacx) rfl rfl (by simp only [go_sem]) (by kernel_rfl) rfl rfl rfl (by (simp only [List.map_append, List.append_nil, go_sem]) <;> rfl) (by (simp only [pkh, go_sem]) <;> rfl) ?_ ?_)
          ·rintro _ _ ⟨rfl, b, rfl⟩ i o hi hl; simp at hl
          rintro _ _ ⟨rfl, b, rfl⟩
          (refine bkz ?_; clear hK1 K1)
          (refine vk0 ?_; repeat clear hK K)
          (refine v_3 rfl rfl rfl ?_; intro K1 hK1; refine stp_ev rfl ?_; simp only [go_sem]; (first | refine hK1 _ ?_ | refine andk (hK1 _ ?_)); clear hK1 K1)
          (refine vk0 ?_; repeat clear hK K)
          (refine wk0 ?_; (repeat clear hK K); repeat (refine Kq.mk ?_; intro K hK))
          (refine aw_regionV [] [(1, 0, 0), (2, 0, 0), (3, 0, 0), (0, 1, 5), (4, 1, 5), (5, 2, 0), (6, 0, 0), (7, 0, 0), (8, 0, 0), (9, 0, 0), (10, 0, 0), (11, 1, 12), (12, 2, 0), (13, 0, 0), (14, 0, 0), (16, 0, 0), (17, 0, 0), (18, 0, 0), (15, 1, 19), (19, 2, 0), (20, 2, 0)] (by kernel_rfl) (by kernel_rfl) (by intro c st h; simp [ThenA, InBl, Ret] at h) ?_)
          (refine vk1 (an @gF (an @tInts_len @hcl2)) ?_; repeat clear hK K)
          (refine v_2 rfl rfl ?_; intro K1 hK1; refine stpX_mono ?_; refine stpX_call (ids := []) [] (hstx) rfl rfl (by simp only [go_sem]) (by kernel_rfl) rfl rfl rfl (by (simp only [List.map_append, List.append_nil, go_sem]) <;> rfl) (by (simp only [pkh, go_sem]) <;> rfl) ?_ ?_)
          ·rintro _ _ ⟨rfl, rfl⟩ i o hi hl; simp at hl
          rintro _ _ ⟨rfl, rfl⟩
          (refine bkz ?_; clear hK1 K1)
          cases hsx : stS F x with
          | false =>
           rw [hsx] at hrD
           simp only [Bool.false_and, Bool.false_eq_true, if_false] at hrD
           (refine vk1 (an @tSets_len @gS) ?_; repeat clear hK K)
           (refine v_3 rfl rfl rfl ?_; intro K1 hK1; refine stp_ev rfl ?_; simp only [go_sem]; (first | refine hK1 _ ?_ | refine andk (hK1 _ ?_)); clear hK1 K1)
           (refine vk0 ?_; repeat clear hK K)
           (refine wk0 ?_; (repeat clear hK K); repeat (refine Kq.mk ?_; intro K hK))
           refine cyz ?_
           (refine wk0 ?_; (repeat clear hK K); repeat (refine Kq.mk ?_; intro K hK))
           refine rnz ?_
           refine hKi _ (j + 1) (by omega) (by omega) ?_
           rw [hrD, e2]
           exact lmz
          | true =>
           (refine vk1 (an @tSets_len @gS) ?_; repeat clear hK K)
           (refine v_2g rfl rfl rfl (by simp only [go_sem] <;> rfl) ?_; intro K1 hK1; refine stpX_mono ?_; refine stpX_call (ids := []) [] (hri) rfl rfl (by simp only [go_sem]) (by kernel_rfl) rfl rfl rfl (by (simp only [List.map_append, List.append_nil, go_sem]) <;> rfl) (by (simp only [pkh, go_sem]) <;> rfl) ?_ ?_)
           ·rintro _ _ ⟨rfl, rfl⟩ i o hi hl; simp at hl
           rintro _ _ ⟨rfl, rfl⟩
           (refine bkz ?_; clear hK1 K1)
           by_cases hey : acS F x = y
           ·have d4 : decide (acS F x = y) = true := decide_eq_true hey
            (refine vk1 @d4 ?_; repeat clear hK K)
            (refine v_2g rfl rfl rfl (by simp only [go_sem] <;> rfl) ?_; intro K1 hK1; refine stpX_mono ?_; refine stpX_call (ids := []) [] (hfi) rfl rfl (by simp only [go_sem]) (by kernel_rfl) rfl rfl rfl (by (simp only [List.map_append, List.append_nil, go_sem]) <;> rfl) (by (simp only [pkh, go_sem]) <;> rfl) ?_ ?_)
            ·rintro _ _ ⟨rfl, rfl⟩ i o hi hl; simp at hl
            rintro _ _ ⟨rfl, rfl⟩
            (refine bkz ?_; clear hK1 K1)
            cases hfb : firB F cl k (acS F x) with
            | false =>
             rw [hsx, hfb, Bool.and_false, Bool.and_false] at hrD
             simp only [Bool.false_eq_true, if_false] at hrD
             (refine vk1 @d4 ?_; repeat clear hK K)
             (refine v_3 rfl rfl rfl ?_; intro K1 hK1; refine stp_ev rfl ?_; simp only [go_sem]; (first | refine hK1 _ ?_ | refine andk (hK1 _ ?_)); clear hK1 K1)
             (refine vk0 ?_; repeat clear hK K)
             (refine wk0 ?_; (repeat clear hK K); repeat (refine Kq.mk ?_; intro K hK))
             refine cyz ?_
             (refine wk0 ?_; (repeat clear hK K); repeat (refine Kq.mk ?_; intro K hK))
             refine rnz ?_
             refine hKi _ (j + 1) (by omega) (by omega) ?_
             rw [hrD, e2]
             exact lmz
            | true =>
             rw [hsx, hfb, d4] at hrD
             simp only [Bool.and_self, if_true] at hrD
             have hoS := rwN_set F n m rw0 (insA (0, (x : Int)) rw0)
             (refine vk1 @d4 ?_; repeat clear hK K)
             (refine v_3 rfl rfl rfl ?_; intro K1 hK1; refine stp_ev rfl ?_; simp only [go_sem, d4]; (first | refine hK1 _ ?_ | refine andk (hK1 _ ?_)); clear hK1 K1)
             (refine vk0 ?_; repeat clear hK K)
             (refine wk0 ?_; (repeat clear hK K); repeat (refine Kq.mk ?_; intro K hK))
             refine cxz ?_
             (refine wk0 ?_; (repeat clear hK K); repeat (refine Kq.mk ?_; intro K hK))
             (refine aw_regionV [] [(0, 0, 0), (2, 0, 0), (3, 0, 0), (5, 0, 0), (8, 0, 0), (9, 0, 0), (10, 0, 0), (1, 1, 15), (4, 1, 13), (6, 0, 0), (7, 1, 13), (11, 1, 13), (12, 0, 0), (13, 2, 0), (14, 0, 0), (15, 2, 0)] (by kernel_rfl) (by kernel_rfl) (by intro c st h; simp [ThenA, InBl, Ret] at h) ?_)
             (refine vk1 (an @gF (an @tInts_len (an @hcl2 (an @cRows_len (an @gO @hoL))))) ?_; repeat clear hK K)
             (refine v_2 rfl rfl ?_; intro K1 hK1; refine stpX_mono ?_; refine stpX_call (ids := []) [] (insT_fc rw0 (0, (x : Int)) (by omega)) rfl rfl (by simp only [go_sem]) (by kernel_rfl) rfl rfl rfl (by (simp only [List.map_append, List.append_nil, go_sem]) <;> rfl) (by (simp only [pkh, go_sem]) <;> rfl) ?_ ?_)
             ·rintro _ _ ⟨rfl, rfl⟩ i o hi hl; simp at hl
             rintro _ _ ⟨rfl, rfl⟩
             (simp only [aInts, aSets, aArcs, List.append_nil, List.nil_append, List.length_map, go_sem]; refine hK1 _ ?_; clear hK1 K1)
             (refine vk1 (an @cRows_len @hoL) ?_; repeat clear hK K)
             (refine v_3 rfl rfl rfl ?_; intro K1 hK1; refine stp_ev rfl ?_; simp only [go_sem, cRows_len, hoL, cRows_set, hoS, ST.put, setC, A0.cells]; (first | refine hK1 _ ?_ | refine andk (hK1 _ ?_)); clear hK1 K1)
             refine v_nil ⟨by simp, by simp, ?_⟩
             (try simp only [ThenA, InBl])
             refine hK _ ?_
             clear hK K
             (refine wk0 ?_; (repeat clear hK K); repeat (refine Kq.mk ?_; intro K hK))
             refine rnz ?_
             refine hKi _ (j + 1) (by omega) (by omega) ?_
             rw [hrD, e2]
             refine Le.trans (le_pick [0, 1, 2, 3] rfl rfl) ?_
             (try simp only [List.set_nil, List.take_nil, List.take_zero, List.map_append, go_sem])
             (try simp only [cRows_ren])
             exact lmz
           ·have d4 : decide (acS F x = y) = false := decide_eq_false hey
            rw [hsx, d4, Bool.false_and, Bool.and_false] at hrD
            simp only [Bool.false_eq_true, if_false] at hrD
            (refine vk1 @d4 ?_; repeat clear hK K)
            (refine v_3 rfl rfl rfl ?_; intro K1 hK1; refine stp_ev rfl ?_; simp only [go_sem]; (first | refine hK1 _ ?_ | refine andk (hK1 _ ?_)); clear hK1 K1)
            (refine vk0 ?_; repeat clear hK K)
            (refine wk0 ?_; (repeat clear hK K); repeat (refine Kq.mk ?_; intro K hK))
            refine cyz ?_
            (refine wk0 ?_; (repeat clear hK K); repeat (refine Kq.mk ?_; intro K hK))
            refine rnz ?_
            refine hKi _ (j + 1) (by omega) (by omega) ?_
            rw [hrD, e2]
            exact lmz
         ·have hje : j = cl.length := by omega
          have e1 : (cl.length : Int) - 1 - j = -1 := by omega
          have d3 : decide ((-1 : Int) ≥ 0) = false := by decide
          rw [e1, hje, ← hrC]
          (refine wk1 @d3 ?_; (repeat clear hK K); repeat (refine Kq.mk ?_; intro K hK))
          refine cyz ?_
          (refine ekz ?_; repeat clear hK K)
          (refine wk0 ?_; (repeat clear hK K); repeat (refine Kq.mk ?_; intro K hK))
          refine rnz ?_
          refine hK _ (i + 1) (by omega) (by omega) ?_
          exact lmz
       ·have d2 : decide ((i : Int) < (S.length : Int)) = false := by simpa using hlt2
        have hie : i = S.length := by omega
        rw [hie] at d2
        rw [hie, hre]
        (refine wk1 (an @d2 @tSets_len) ?_; (repeat clear hK K); repeat (refine Kq.mk ?_; intro K hK))
        refine cyz ?_
        (refine ekz ?_; repeat clear hK K)
        (refine wk0 ?_; (repeat clear hK K); repeat (refine Kq.mk ?_; intro K hK))
        refine rnz ?_
        refine hKo _ (n + 1) (by omega) (by omega) ?_
        simp only [hm2]
        exact lmz
  ·have d1 : decide ((n : Int) < (F.length : Int)) = false := by simpa using hlt
   have hne : n = F.length := by omega
   rw [hne] at d1
   have e0 : rdL F F.length ++ List.replicate (F.length - F.length) [] = rdL F F.length := by simp
   rw [hne, e0]
   have hbd := rd_bd hvF
   have hGl := rdL_len F F.length
   have hdc := dm_canon hvF
   rw [hdc] at hend
   generalize rdL F F.length = G at *
   have hcx := canonX_fc G (by omega) (fun r h a ha => by have := (hbd r h).1 a ha; omega) (by omega) (fun r h => (hbd r h).2)
   have hcb := canonR_bd (R := G) (B := 1000000) (by omega) (fun r h a ha => by have := (hbd r h).1 a ha; omega) (fun r h => (hbd r h).2)
   have hcl := canon_loo (G := G) (by omega) (by omega) (fun r h a ha => by have := (hbd r h).1 a ha; omega)
   generalize canonR G = c at *
   have hlf := looseR_fc c.1 (by omega) (fun r h => by have := hcb.2 r h; omega)
   rw [hcl] at hlf
   have htk : (tRows G).take F.length = tRows G := List.take_of_length_le (by rw [tRows_len]; omega)
   (refine wk1 (an @d1 @tRows_len) ?_; (repeat clear hK K); repeat (refine Kq.mk ?_; intro K hK))
   refine cyz ?_
   (refine ekz ?_; repeat clear hK K)
   refine aw_le (le_sink (r := ⟨29, 1, true, cRows G⟩) (ri := ⟨25, 1, false, [.s 2 F.length]⟩) (ts := tRows G) 3 0 2 F.length (by decide) rfl rfl rfl rfl (show 0 < 1 by omega) (by simp only [cRows_len, hGl]; omega) (fz_cr _)) ?_
   simp only [go_sem]
   refine aw_le (le_ot 3 rfl) ?_
   simp only [otC, go_sem]
   (refine wk0 ?_; (repeat clear hK K); repeat (refine Kq.mk ?_; intro K hK))
   (refine ckz hcx ?_; intro K1 hK1)
   rintro _ _ ⟨rfl, rfl⟩
   (refine bkz ?_; clear hK1 K1)
   (refine wks0 ?_; (repeat clear hK K); repeat (refine Kq.mk ?_; intro K hK))
   (refine ckz hlf ?_; intro K1 hK1)
   rintro _ _ ⟨rfl, rfl⟩
   (refine bkz ?_; clear hK1 K1)
   by_cases ht : totA c.1 ≤ 262144
   ·have d2 : decide (totA c.1 ≤ 262144) = true := decide_eq_true ht
    (refine wk1 (an @d2 @Bool.not_true) ?_; (repeat clear hK K); repeat (refine Kq.mk ?_; intro K hK))
    refine cyz ?_
    (refine wks0 ?_; (repeat clear hK K); repeat (refine Kq.mk ?_; intro K hK))
    ((try refine aw_ret ?_); (try simp only [ThenA, InBl]); refine ret_le (le_pick [0] rfl rfl) ?_; (try simp only [List.set_nil, List.take_nil, List.take_zero, List.map_append, go_sem]); ((try refine aw_ret ?_); (try refine lst_nil ?_); (try simp only [ThenA, InBl]); refine ret_mk (by first | exact .inl rfl | exact .inr rfl) rfl ?_; simp only [rtn, resA, resL, resV, Tryz.results47, go_sem, true_and, and_true]))
    refine hend _ _ ?_
    rw [diaO, if_pos ht]
    exact ⟨rfl, rfl⟩
   ·have d2 : decide (totA c.1 ≤ 262144) = false := decide_eq_false ht
    (refine wk1 (an @d2 @Bool.not_false) ?_; (repeat clear hK K); repeat (refine Kq.mk ?_; intro K hK))
    refine cxz ?_
    (refine wks0 ?_; (repeat clear hK K); repeat (refine Kq.mk ?_; intro K hK))
    ((try refine aw_ret ?_); (try simp only [ThenA, InBl]); refine ret_le (le_pick [0] rfl rfl) ?_; (try simp only [List.set_nil, List.take_nil, List.take_zero, List.map_append, go_sem]); ((try refine aw_ret ?_); (try refine lst_nil ?_); (try simp only [ThenA, InBl]); refine ret_mk (by first | exact .inl rfl | exact .inr rfl) rfl ?_; simp only [rtn, resA, resL, resV, Tryz.results47, go_sem, true_and, and_true]))
    refine hend _ _ ?_
    rw [diaO, if_neg ht]
    exact ⟨rfl, rfl⟩
end Go.Proofs.YthlckclbjknldaaGreat
