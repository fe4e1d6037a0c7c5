/- TauLoops and Diamond at small valid systems; the law DiamondFlat. -/
import Derived.Test.YthlckclbjknldaaG61
import Derived.Test.YthlckclbjknldaaG47
import Derived.Test.YthlckclbjknldaaG36
import Derived.Test.YthlckclbjknldaaG62
namespace Go.Proofs.Ythlckclbjknldaa
set_option linter.unusedVariables false
set_option linter.unusedSimpArgs false
open Go.RowKit
set_option maxRecDepth 100000
attribute [local go_sem] List.set_cons_zero List.set_cons_succ List.map_cons List.map_nil List.take_succ_cons List.take_zero List.drop_zero List.drop_succ_cons C.pl C.one List.all_cons List.all_nil Bool.and_true Nat.mul_one Int.toNat_natCast

theorem totA_mul {B : Nat} : ∀ {X : List (List Ar)}, (∀ r ∈ X, r.length ≤ B) → totA X ≤ X.length * B
 | [], _ => by simp [totA]
 | x :: r, h => by
  have h1 := h x (by simp)
  have h2 := totA_mul (X := r) fun q hq => h q (List.mem_cons_of_mem _ hq)
  simp only [totA, List.map_cons, List.sum_cons, List.length_cons, Nat.succ_mul] at h2 ⊢
  omega
theorem row_tot {X : List (List Ar)} : ∀ r ∈ X, r.length ≤ totA X := fun r hr => by
 obtain ⟨j, hj, rfl⟩ := List.getElem_of_mem hr
 have h := totA_row X j
 rw [List.getD_eq_getElem?_getD, List.getElem?_eq_getElem hj, Option.getD_some] at h
 exact h
/-- what TauLoops gives -/
def TL (R F : List (List Ar)) : Prop := ∃ D : List Int, D.length = R.length ∧ (∀ v, v < R.length → Least (Adj true R) v (fnL D (-1) v)) ∧ F = (canonR (tlOut (clsN D) (ixS D R.length).2 R R.length)).1
theorem TL.uniq {R F G : List (List Ar)} (h1 : TL R F) (h2 : TL R G) : F = G := by
 obtain ⟨D, a1, a2, rfl⟩ := h1
 obtain ⟨E, b1, b2, rfl⟩ := h2
 rw [least_rows a1 b1 a2 b2]
theorem canonR_tot {R : List (List Ar)} (hb : ∀ r ∈ R, ∀ a ∈ r, 0 ≤ a.1 ∧ a.1 ≤ 1025 ∧ 0 ≤ a.2 ∧ a.2 < (R.length : Int)) (h1 : 1 ≤ R.length) : 1 ≤ (canonR R).1.length ∧ (canonR R).1.length ≤ R.length ∧ totA (canonR R).1 ≤ totA R := by
 obtain ⟨k1, k2, k3, k4⟩ := canGo_val (B := totA R) hb R.length 0 _ _ [] R (NumOk.start h1) (NumInj.start h1) (NumSur.start h1) rfl (by simp) (by omega) ⟨by simp, by simp⟩ rfl (fun _ _ _ => rfl) (by simp [totA])
 exact ⟨k1, k2, k4⟩
theorem TL.ok {R F : List (List Ar)} (hv : valB R = true) (h : TL R F) : valB F = true ∧ 1 ≤ F.length ∧ F.length ≤ R.length ∧ totA F ≤ totA R := by
 obtain ⟨D, hD, hL, rfl⟩ := h
 have hlo : looB R = true := decide_eq_true (of_decide_eq_true hv).1
 have hp : LooP R := of_decide_eq_true hlo
 have h1 := hp.1
 have hrep := least_rep (adj_lt true hlo) hD hL
 have hfm : ∀ v, v < R.length → clsN D v < (ixS D R.length).2 := fun v hv => by obtain ⟨_, _, _, h, _⟩ := cls_ok hD hrep hv; exact h
 have hTl := tlOut_len (clsN D) (ixS D R.length).2 R R.length
 have hTt := tlOut_tot hfm R.length (Nat.le_refl _)
 rw [List.take_length] at hTt
 have hTP := tlOut_P (f := clsN D) (m := (ixS D R.length).2) (R := R) (fun r hr0 a ha => by
  have h := hp.2.2.2 r hr0 a ha
  exact ⟨h.1, h.2.1, hfm _ (by omega)⟩) R.length (Nat.le_refl _)
 have hmle := ixS_le D R.length
 have h0 := hfm 0 (by omega)
 obtain ⟨k1, k2, k3⟩ := canonR_tot (R := tlOut (clsN D) (ixS D R.length).2 R R.length) (by rw [hTl]; exact hTP) (by omega)
 exact ⟨tl_val hv hD hL, k1, by omega, by omega⟩
theorem dmX_ok {F : List (List Ar)} (hv : valB F = true) (hn : F.length ≤ 10) (ht : totA F ≤ 1000) : 1 ≤ (canonR (dmR F)).1.length ∧ (canonR (dmR F)).1.length ≤ F.length ∧ totA (canonR (dmR F)).1 ≤ 10 * (totA F + 10) ∧ valB (canonR (dmR F)).1 = true := by
 have hlo : looB F = true := decide_eq_true (of_decide_eq_true hv).1
 have hp : LooP F := of_decide_eq_true hlo
 have hbd := dm_bd hlo
 have hl : (dmR F).length = F.length := dmL_len F F.length
 have hF1 := hp.1
 have hrl : ∀ r ∈ dmR F, r.length ≤ totA F + 10 := fun r hr => by
  obtain ⟨n, hn, rfl⟩ := List.mem_map.1 hr
  unfold dmRow
  split
  ·have := totA_row F n; omega
  ·have := unS_len F n; omega
 have ht2 := totA_mul hrl
 have hm : (dmR F).length * (totA F + 10) ≤ 10 * (totA F + 10) := Nat.mul_le_mul_right _ (by omega)
 obtain ⟨k1, k2, k3⟩ := canonR_tot (R := dmR F) (fun r hr => (hbd r hr).1) (by omega)
 refine ⟨k1, by omega, by omega, canonR_val (decide_eq_true ⟨by omega, ?_, ?_, fun r hr => (hbd r hr).1⟩)⟩
 ·rw [hl]; exact hp.2.1
 ·show totA (dmR F) ≤ 262144
  omega
theorem tauV_fc (R : List (List Ar)) (hv : valB R = true) (hn : R.length ≤ 10) (ht : totA R ≤ 1000) : FC Try.prog 8 [aLts R] [] (fun r o => ∃ F, TL R F ∧ o = [.r ⟨27, 1, false, [.t 1 (tRows F)]⟩] ∧ r = .tup [.g [.t 1 (tRows F)], .c (.v (.int .i64 0))]) :=
 (tauL_fc R hv (of_decide_eq_true hv).1.1 (by omega) (fun r hr => by have := row_tot r hr; omega)).mono fun r o ⟨D, hD, hL, q, hq, h1, h2⟩ => ⟨q.1, ⟨D, hD, hL, by rw [hq]⟩, h1, h2⟩
theorem diaV_fc (R : List (List Ar)) (hv : valB R = true) (hn : R.length ≤ 10) (ht : totA R ≤ 1000) : FC Try.prog 7 [aLts R] [] (fun r o => ∃ F, TL R F ∧ ∃ X, X = (canonR (dmR F)).1 ∧ o = [.r ⟨27, 1, false, [.t 1 (tRows X)]⟩] ∧ r = .tup [.g [.t 1 (tRows X)], .c (.v (.int .i64 0))]) :=
 (dia_fc R hv (of_decide_eq_true hv).1.1 (by omega) (fun r hr => by have := row_tot r hr; omega)).mono fun r o ⟨D, hD, hL, q, hq, h⟩ => by
  have hT : TL R q.1 := ⟨D, hD, hL, by rw [hq]⟩
  have hF := hT.ok hv
  have hX := dmX_ok hF.1 (by omega) (by omega)
  rw [diaO, if_pos (by omega)] at h
  exact ⟨q.1, hT, _, rfl, h⟩
theorem ok_val {R : List (List Ar)} (h : OkSys 4 R.length R) (h1 : 1 ≤ R.length) (h2 : R.length ≤ 10) : valB R = true ∧ totA R ≤ 40 := by
 have ht := totA_mul fun r hr => (h.2 r hr).2.1
 refine ⟨decide_eq_true ⟨⟨h1, ?_, ?_, fun r hr => (h.2 r hr).2.2⟩, fun r hr => (h.2 r hr).1⟩, by omega⟩
 ·show R.length ≤ 16384
  omega
 ·show totA R ≤ 262144
  omega
theorem chainV_fc (T : List Int) (hT : TpOk T) (a0 n : Nat) (m : Int) (ha : a0 ≤ 500000) (hn : n ≤ 10) (h1 : 1 ≤ n) (hm : m = (n : Int)) :
  FC Try.prog 6 [.a (.c (.p 0 0)), .i m] [tape T a0] (fun r o => ∃ (a' : Nat) (R : List (List Ar)), (o = [tape T a', oLts R] ∧ r = aLts R) ∧ a' ≤ a0 + 81 ∧ valB R = true ∧ R.length ≤ 10 ∧ totA R ≤ 40) := by
 subst hm
 exact (chain_fc T hT a0 n ha (by omega) (by omega)).mono fun r o ⟨a', R, h0, h1, h2, h3, h4, h5⟩ => ⟨a', R, ⟨h0, h1⟩, by omega, (ok_val h5 h3 (by omega)).1, by omega, (ok_val h5 h3 (by omega)).2⟩
set_option maxHeartbeats 2000000 in
theorem lawFlat_fc (T : List Int) (hT : TpOk T) : FC Try.prog 3 [aInts T] [] (fun r _ => r = .b true) := by
 refine fc_intro Try.func3 rfl (by rw [Try.ntmps3]; simp) ?_
 rw [Try.ntmps3]
 simp only [enum, aInts]
 (repeat (first | (refine aw_seq ?_; intro K hK) | refine aw_block ?_ | refine aw_region ?_ | (refine lst_x rfl rfl ?_; intro K1 hK1; simp only [go_sem]; (first | refine hK1 _ ?_ | refine andk (hK1 _ ?_)); clear hK1 K1) | ((first | refine lst_nil ?_ | refine aw_skip ?_); refine hK _ ?_; clear hK K)))
 (refine lst_cons rfl ?_; intro K1 hK1; refine (stp_call0 (ids := []) (new_fc T) rfl rfl (by simp only [go_sem]) (by kernel_rfl) (by (simp only [List.append_nil, go_sem]) <;> rfl) ?_).stp)
 rintro _ _ ⟨rfl, rfl⟩
 (simp only [aInts, aSets, tape, List.append_nil, List.nil_append, List.length_map, go_sem]; refine hK1 _ ?_; clear hK1 K1)
 (repeat (first | (refine aw_seq ?_; intro K hK) | refine aw_block ?_ | refine aw_region ?_ | (refine lst_x rfl rfl ?_; intro K1 hK1; simp only [go_sem]; (first | refine hK1 _ ?_ | refine andk (hK1 _ ?_)); clear hK1 K1) | ((first | refine lst_nil ?_ | refine aw_skip ?_); refine hK _ ?_; clear hK K)))
 (refine lst_cons rfl ?_; intro K1 hK1; refine stp_callσ (ids := []) [0] (chainV_fc T hT 0 9 9 (by omega) (by omega) (by omega) rfl) rfl rfl (by simp only [go_sem]) (by first | assumption | kernel_rfl) rfl rfl (by (simp only [List.map_append, List.append_nil, go_sem]) <;> rfl) (by (simp only [pkh, tape, go_sem]) <;> rfl) ?_ ?_)
 ·rintro _ _ ⟨_, _, ⟨rfl, rfl⟩, _⟩; rfl
 rintro _ _ ⟨a1, R, ⟨rfl, rfl⟩, ha1, hv, hn, ht⟩
 (simp only [aInts, aSets, tape, oLts, aLts, List.append_nil, List.nil_append, List.length_map, go_sem]; refine hK1 _ ?_; clear hK1 K1)
 (repeat (first | (refine aw_seq ?_; intro K hK) | refine aw_block ?_ | refine aw_region ?_ | (refine lst_x rfl rfl ?_; intro K1 hK1; simp only [go_sem, ST.put, setC, A0.cells]; (first | refine hK1 _ ?_ | refine andk (hK1 _ ?_)); clear hK1 K1) | ((first | refine lst_nil ?_ | refine aw_skip ?_); refine hK _ ?_; clear hK K)))
 (refine lst_cons rfl ?_; intro K1 hK1; refine (stp_call0 (ids := []) (diaV_fc R hv hn (by omega)) rfl rfl (by simp only [go_sem]) (by kernel_rfl) (by (simp only [List.append_nil, go_sem]) <;> rfl) ?_).stp)
 rintro _ _ ⟨F, hTL, Z, hZ, rfl, rfl⟩
 (simp only [aInts, aSets, List.append_nil, List.nil_append, List.length_map, go_sem]; refine hK1 _ ?_; clear hK1 K1)
 (repeat (first | (refine aw_seq ?_; intro K hK) | refine aw_block ?_ | refine aw_region ?_ | (refine lst_x rfl rfl ?_; intro K1 hK1; simp only [go_sem, ST.put, setC, A0.cells]; (first | refine hK1 _ ?_ | refine andk (hK1 _ ?_)); clear hK1 K1) | ((first | refine lst_nil ?_ | refine aw_skip ?_); refine hK _ ?_; clear hK K)))
 (refine lst_cons rfl ?_; intro K1 hK1; refine (stp_call0 (ids := []) (tauV_fc R hv hn (by omega)) rfl rfl (by simp only [go_sem]) (by kernel_rfl) (by (simp only [List.append_nil, go_sem]) <;> rfl) ?_).stp)
 rintro _ _ ⟨G, hTG, rfl, rfl⟩
 have hGF : F = G := hTL.uniq hTG
 subst hGF
 obtain ⟨hvF, hF1, hFn, hFt⟩ := hTL.ok hv
 obtain ⟨hZ1, hZn, hZt, hvZ⟩ := dmX_ok hvF (by omega) (by omega)
 have hfl := canon_flat hvF
 rw [← hZ] at hZ1 hZn hZt hvZ hfl
 have hZb := (of_decide_eq_true hvZ).1.2.2.2
 clear hZ hTL hTG
 have d1 : decide ((Z.length : Int) > (F.length : Int)) = false := decide_eq_false (by omega)
 have d2 : decide ((F.length : Int) > (R.length : Int)) = false := decide_eq_false (by omega)
 have d0 : ((0 : Int) != 0) = false := rfl
 have d3 : ((Z.length : Int) == 0) = false := by simp; intro e; simp [e] at hZ1
 (simp only [aInts, aSets, List.append_nil, List.nil_append, List.length_map, go_sem]; refine hK1 _ ?_; clear hK1 K1)
 (repeat (first | (refine aw_seq ?_; intro K hK) | refine aw_block ?_ | refine aw_region ?_ | (refine lst_x rfl rfl ?_; intro K1 hK1; simp only [go_sem, ST.put, setC, A0.cells, tRows_len, d0, d1, d2, d3]; (first | refine hK1 _ ?_ | refine andk (hK1 _ ?_)); clear hK1 K1) | ((first | refine lst_nil ?_ | refine aw_skip ?_); refine hK _ ?_; clear hK K)))
 (refine aw_cnd ?_; intro X Y hX hY; simp only [go_sem])
 refine hY ?_
 clear hX hY X Y
 (repeat (first | (refine aw_seq ?_; intro K hK) | refine aw_block ?_ | refine aw_region ?_ | (refine lst_x rfl rfl ?_; intro K1 hK1; simp only [go_sem]; (first | refine hK1 _ ?_ | refine andk (hK1 _ ?_)); clear hK1 K1) | ((first | refine lst_nil ?_ | refine aw_skip ?_); refine hK _ ?_; clear hK K)))
 refine aw_le (le_pick [4] rfl rfl) ?_
 (try simp only [List.set_nil, List.take_nil, List.take_zero, List.map_append, go_sem])
 refine aw_loop (fun s : Nat => { tm := [(5, .a (.c (.p 0 0))), (9, .i s)], hp := [.r ⟨27, 1, false, [.t 1 (tRows Z)]⟩], n := 124, pin := 0 }) (fun s => s ≤ Z.length) (fun s => Z.length - s) 0 ?_ ?_ ?_
 ·omega
 ·(refine le_tm ?_; simp only [LeTm, go_sem]; try simp)
 ·rintro s hs K hK
  by_cases hlt : s < Z.length
  ·have e1 : decide ((s : Int) < (Z.length : Int)) = true := by simpa using hlt
   have hgs := List.getElem?_eq_getElem hlt
   have hfs := hfl s _ hgs
   have hrl := row_tot _ (List.getElem_mem hlt)
   have hbs := hZb _ (List.getElem_mem hlt)
   generalize Z[s] = row at *
   (repeat (first | (refine aw_seq ?_; intro K hK) | refine aw_block ?_ | refine aw_region ?_ | (refine lst_x rfl rfl ?_; intro K1 hK1; simp only [go_sem, tRows_len, e1]; (first | refine hK1 _ ?_ | refine andk (hK1 _ ?_)); clear hK1 K1) | ((first | refine lst_nil ?_ | refine aw_skip ?_); refine hK _ ?_; clear hK K)))
   (refine aw_cnd ?_; intro X Y hX hY; simp only [go_sem])
   refine hX ?_
   clear hX hY X Y
   (repeat (first | (refine aw_seq ?_; intro K hK) | refine aw_block ?_ | refine aw_region ?_ | (refine lst_x rfl rfl ?_; intro K1 hK1; simp only [go_sem]; (first | refine hK1 _ ?_ | refine andk (hK1 _ ?_)); clear hK1 K1) | ((first | refine lst_nil ?_ | refine aw_skip ?_); refine hK _ ?_; clear hK K)))
   refine aw_loop (fun i : Nat => { tm := [(5, .a (.c (.p 0 0))), (9, .i s), (10, .i i)], hp := [.r ⟨27, 1, false, [.t 1 (tRows Z)]⟩], n := 124, pin := 0 }) (fun i => i ≤ row.length) (fun i => row.length - i) 0 ?_ ?_ ?_
   ·omega
   ·(refine le_tm ?_; simp only [LeTm, go_sem]; try simp)
   ·rintro i hi K hK
    by_cases hli : i < row.length
    ·have e2 : decide ((i : Int) < (row.length : Int)) = true := by simpa using hli
     have hat := tArcs_at hli
     have hfa := hfs _ (List.getElem_mem hli)
     have hba := hbs _ (List.getElem_mem hli)
     generalize row[i] = a at *
     obtain ⟨e, t⟩ := a
     simp only at hat hfa hba
     obtain ⟨_, _, ht0, ht1⟩ := hba
     obtain ⟨tn, rfl⟩ : ∃ tn : Nat, t = (tn : Int) := ⟨t.toNat, by omega⟩
     have htn : tn < Z.length := by omega
     have hgt := List.getElem?_eq_getElem htn
     (repeat (first | (refine aw_seq ?_; intro K hK) | refine aw_block ?_ | refine aw_region ?_ | (refine lst_x rfl rfl ?_; intro K1 hK1; simp only [go_sem, tRows_len, tRows_get hgs, tArcs_len, half2, e2]; (first | refine hK1 _ ?_ | refine andk (hK1 _ ?_)); clear hK1 K1) | ((first | refine lst_nil ?_ | refine aw_skip ?_); refine hK _ ?_; clear hK K)))
     (refine aw_cnd ?_; intro X Y hX hY; simp only [go_sem])
     refine hX ?_
     clear hX hY X Y
     by_cases he : e = 0
     ·by_cases hts : tn = s
      ·have d4 : (e != 0) = false := by simp [he]
       have d5 : ((tn : Int) == (s : Int)) = true := by simp [hts]
       (repeat (first | (refine aw_seq ?_; intro K hK) | refine aw_block ?_ | refine aw_region ?_ | (refine lst_x rfl rfl ?_; intro K1 hK1; simp only [go_sem, hat, tArcs_len, half2, tRows_len, tRows_get hgs, ST.put, setC, A0.cells, d4, d5]; (first | refine hK1 _ ?_ | refine andk (hK1 _ ?_)); clear hK1 K1) | ((first | refine lst_nil ?_ | refine aw_skip ?_); refine hK _ ?_; clear hK K)))
       (refine aw_cnd ?_; intro X Y hX hY; simp only [go_sem])
       refine hX ?_
       clear hX hY X Y
       (refine aw_exit ?_; simp only [ThenA, InBl, reduceIte, Nat.reduceEqDiff]; (first | refine hK _ ?_ | (clear hK K; refine hK _ ?_) | (clear hK K; clear hK K; refine hK _ ?_) | (clear hK K; clear hK K; clear hK K; refine hK _ ?_) | (clear hK K; clear hK K; clear hK K; clear hK K; refine hK _ ?_) | (clear hK K; clear hK K; clear hK K; clear hK K; clear hK K; refine hK _ ?_)); clear hK K)
       (repeat (first | (refine aw_seq ?_; intro K hK) | refine aw_block ?_ | refine aw_region ?_ | (refine lst_x rfl rfl ?_; intro K1 hK1; simp only [go_sem]; (first | refine hK1 _ ?_ | refine andk (hK1 _ ?_)); clear hK1 K1) | ((first | refine lst_nil ?_ | refine aw_skip ?_); refine hK _ ?_; clear hK K)))
       ((try refine lst_nil ?_); (try refine aw_skip ?_); try simp only [ThenA])
       refine hK _ (i + 1) (by omega) (by omega) ?_
       refine Le.trans (le_pick [0] rfl rfl) ?_
       (try simp only [List.set_nil, List.take_nil, List.take_zero, List.map_append, go_sem])
       (refine le_tm ?_; simp only [LeTm, go_sem]; try simp)
      ·have d4 : (e != 0) = false := by simp [he]
       have d5 : ((tn : Int) == (s : Int)) = false := by simp; omega
       have d6 : decide ((tn : Int) < 0) = false := decide_eq_false (by omega)
       have d7 : decide ((tn : Int) ≥ (Z.length : Int)) = false := decide_eq_false (by omega)
       have hq := (hfa he).resolve_left (by omega) _ (by rw [Int.toNat_natCast]; exact hgt)
       have hrl2 := row_tot _ (List.getElem_mem htn)
       generalize Z[tn] = q at *
       by_cases hq0 : q.length = 0
       ·have d8 : decide ((q.length : Int) > 0) = false := decide_eq_false (by omega)
        (repeat (first | (refine aw_seq ?_; intro K hK) | refine aw_block ?_ | refine aw_region ?_ | (refine lst_x rfl rfl ?_; intro K1 hK1; simp only [go_sem, hat, tArcs_len, half2, tRows_len, tRows_get hgs, ST.put, setC, A0.cells, d4, d5]; (first | refine hK1 _ ?_ | refine andk (hK1 _ ?_)); clear hK1 K1) | ((first | refine lst_nil ?_ | refine aw_skip ?_); refine hK _ ?_; clear hK K)))
        (refine aw_cnd ?_; intro X Y hX hY; simp only [go_sem])
        refine hY ?_
        clear hX hY X Y
        (repeat (first | (refine aw_seq ?_; intro K hK) | refine aw_block ?_ | refine aw_region ?_ | (refine lst_x rfl rfl ?_; intro K1 hK1; simp only [go_sem, hat, tArcs_len, half2, tRows_len, tRows_get hgs, tRows_get hgt, ST.put, setC, A0.cells, d6, d7, d8]; (first | refine hK1 _ ?_ | refine andk (hK1 _ ?_)); clear hK1 K1) | ((first | refine lst_nil ?_ | refine aw_skip ?_); refine hK _ ?_; clear hK K)))
        (refine aw_cnd ?_; intro X Y hX hY; simp only [go_sem])
        refine hY ?_
        clear hX hY X Y
        (repeat (first | (refine aw_seq ?_; intro K hK) | refine aw_block ?_ | refine aw_region ?_ | (refine lst_x rfl rfl ?_; intro K1 hK1; simp only [go_sem]; (first | refine hK1 _ ?_ | refine andk (hK1 _ ?_)); clear hK1 K1) | ((first | refine lst_nil ?_ | refine aw_skip ?_); refine hK _ ?_; clear hK K)))
        ((try refine lst_nil ?_); (try refine aw_skip ?_); try simp only [ThenA])
        refine hK _ (i + 1) (by omega) (by omega) ?_
        refine Le.trans (le_pick [0] rfl rfl) ?_
        (try simp only [List.set_nil, List.take_nil, List.take_zero, List.map_append, go_sem])
        (refine le_tm ?_; simp only [LeTm, go_sem]; try simp)
       ·have d8 : decide ((q.length : Int) > 0) = true := decide_eq_true (by omega)
        have h0 : 0 < q.length := by omega
        have hbt : (tArcs q)[Int.toNat 0 * 2]? = some (.v (.int .i64 q[0].1)) := tArcs_c0 h0
        have d9 : (q[0].1 == 0) = false := by simpa using hq q[0] (List.getElem_mem h0)
        (repeat (first | (refine aw_seq ?_; intro K hK) | refine aw_block ?_ | refine aw_region ?_ | (refine lst_x rfl rfl ?_; intro K1 hK1; simp only [go_sem, hat, tArcs_len, half2, tRows_len, tRows_get hgs, ST.put, setC, A0.cells, d4, d5]; (first | refine hK1 _ ?_ | refine andk (hK1 _ ?_)); clear hK1 K1) | ((first | refine lst_nil ?_ | refine aw_skip ?_); refine hK _ ?_; clear hK K)))
        (refine aw_cnd ?_; intro X Y hX hY; simp only [go_sem])
        refine hY ?_
        clear hX hY X Y
        (repeat (first | (refine aw_seq ?_; intro K hK) | refine aw_block ?_ | refine aw_region ?_ | (refine lst_x rfl rfl ?_; intro K1 hK1; simp only [go_sem, hat, tArcs_len, half2, tRows_len, tRows_get hgs, tRows_get hgt, ST.put, setC, A0.cells, d6, d7, d8, hbt, d9]; (first | refine hK1 _ ?_ | refine andk (hK1 _ ?_)); clear hK1 K1) | ((first | refine lst_nil ?_ | refine aw_skip ?_); refine hK _ ?_; clear hK K)))
        (refine aw_cnd ?_; intro X Y hX hY; simp only [go_sem])
        refine hY ?_
        clear hX hY X Y
        (repeat (first | (refine aw_seq ?_; intro K hK) | refine aw_block ?_ | refine aw_region ?_ | (refine lst_x rfl rfl ?_; intro K1 hK1; simp only [go_sem]; (first | refine hK1 _ ?_ | refine andk (hK1 _ ?_)); clear hK1 K1) | ((first | refine lst_nil ?_ | refine aw_skip ?_); refine hK _ ?_; clear hK K)))
        ((try refine lst_nil ?_); (try refine aw_skip ?_); try simp only [ThenA])
        refine hK _ (i + 1) (by omega) (by omega) ?_
        refine Le.trans (le_pick [0] rfl rfl) ?_
        (try simp only [List.set_nil, List.take_nil, List.take_zero, List.map_append, go_sem])
        (refine le_tm ?_; simp only [LeTm, go_sem]; try simp)
     ·have d4 : (e != 0) = true := by simpa using he
      (repeat (first | (refine aw_seq ?_; intro K hK) | refine aw_block ?_ | refine aw_region ?_ | (refine lst_x rfl rfl ?_; intro K1 hK1; simp only [go_sem, hat, tArcs_len, half2, tRows_len, tRows_get hgs, ST.put, setC, A0.cells, d4]; (first | refine hK1 _ ?_ | refine andk (hK1 _ ?_)); clear hK1 K1) | ((first | refine lst_nil ?_ | refine aw_skip ?_); refine hK _ ?_; clear hK K)))
      (refine aw_cnd ?_; intro X Y hX hY; simp only [go_sem])
      refine hX ?_
      clear hX hY X Y
      (refine aw_exit ?_; simp only [ThenA, InBl, reduceIte, Nat.reduceEqDiff]; (first | refine hK _ ?_ | (clear hK K; refine hK _ ?_) | (clear hK K; clear hK K; refine hK _ ?_) | (clear hK K; clear hK K; clear hK K; refine hK _ ?_) | (clear hK K; clear hK K; clear hK K; clear hK K; refine hK _ ?_) | (clear hK K; clear hK K; clear hK K; clear hK K; clear hK K; refine hK _ ?_)); clear hK K)
      (repeat (first | (refine aw_seq ?_; intro K hK) | refine aw_block ?_ | refine aw_region ?_ | (refine lst_x rfl rfl ?_; intro K1 hK1; simp only [go_sem]; (first | refine hK1 _ ?_ | refine andk (hK1 _ ?_)); clear hK1 K1) | ((first | refine lst_nil ?_ | refine aw_skip ?_); refine hK _ ?_; clear hK K)))
      ((try refine lst_nil ?_); (try refine aw_skip ?_); try simp only [ThenA])
      refine hK _ (i + 1) (by omega) (by omega) ?_
      refine Le.trans (le_pick [0] rfl rfl) ?_
      (try simp only [List.set_nil, List.take_nil, List.take_zero, List.map_append, go_sem])
      (refine le_tm ?_; simp only [LeTm, go_sem]; try simp)
    ·have e2 : decide ((i : Int) < (row.length : Int)) = false := by simpa using hli
     (repeat (first | (refine aw_seq ?_; intro K hK) | refine aw_block ?_ | refine aw_region ?_ | (refine lst_x rfl rfl ?_; intro K1 hK1; simp only [go_sem, tRows_len, tRows_get hgs, tArcs_len, half2, e2]; (first | refine hK1 _ ?_ | refine andk (hK1 _ ?_)); clear hK1 K1) | ((first | refine lst_nil ?_ | refine aw_skip ?_); refine hK _ ?_; clear hK K)))
     (refine aw_cnd ?_; intro X Y hX hY; simp only [go_sem])
     refine hY ?_
     clear hX hY X Y
     (refine aw_exit ?_; simp only [ThenA, InBl, reduceIte, Nat.reduceEqDiff]; (first | refine hK _ ?_ | (clear hK K; refine hK _ ?_) | (clear hK K; clear hK K; refine hK _ ?_) | (clear hK K; clear hK K; clear hK K; refine hK _ ?_) | (clear hK K; clear hK K; clear hK K; clear hK K; refine hK _ ?_) | (clear hK K; clear hK K; clear hK K; clear hK K; clear hK K; refine hK _ ?_)); clear hK K)
     (repeat (first | (refine aw_seq ?_; intro K hK) | refine aw_block ?_ | refine aw_region ?_ | (refine lst_x rfl rfl ?_; intro K1 hK1; simp only [go_sem]; (first | refine hK1 _ ?_ | refine andk (hK1 _ ?_)); clear hK1 K1) | ((first | refine lst_nil ?_ | refine aw_skip ?_); refine hK _ ?_; clear hK K)))
     ((try refine lst_nil ?_); (try refine aw_skip ?_); try simp only [ThenA])
     refine hK _ (s + 1) (by omega) (by omega) ?_
     (refine le_tm ?_; simp only [LeTm, go_sem]; try simp)
  ·have e1 : decide ((s : Int) < (Z.length : Int)) = false := by simpa using hlt
   (repeat (first | (refine aw_seq ?_; intro K hK) | refine aw_block ?_ | refine aw_region ?_ | (refine lst_x rfl rfl ?_; intro K1 hK1; simp only [go_sem, tRows_len, e1]; (first | refine hK1 _ ?_ | refine andk (hK1 _ ?_)); clear hK1 K1) | ((first | refine lst_nil ?_ | refine aw_skip ?_); refine hK _ ?_; clear hK K)))
   (refine aw_cnd ?_; intro X Y hX hY; simp only [go_sem])
   refine hY ?_
   clear hX hY X Y
   (refine aw_exit ?_; simp only [ThenA, InBl, reduceIte, Nat.reduceEqDiff]; (first | refine hK _ ?_ | (clear hK K; refine hK _ ?_) | (clear hK K; clear hK K; refine hK _ ?_) | (clear hK K; clear hK K; clear hK K; refine hK _ ?_) | (clear hK K; clear hK K; clear hK K; clear hK K; refine hK _ ?_) | (clear hK K; clear hK K; clear hK K; clear hK K; clear hK K; refine hK _ ?_)); clear hK K)
   (repeat (first | (refine aw_seq ?_; intro K hK) | refine aw_block ?_ | refine aw_region ?_ | (refine lst_x rfl rfl ?_; intro K1 hK1; simp only [go_sem]; (first | refine hK1 _ ?_ | refine andk (hK1 _ ?_)); clear hK1 K1) | ((first | refine lst_nil ?_ | refine aw_skip ?_); refine hK _ ?_; clear hK K)))
   (refine lst_cons rfl ?_; intro K1 hK1; refine (stp_call0 (ids := []) (sane28d_fc) rfl rfl (by simp only [go_sem]) (by kernel_rfl) (by (simp only [List.append_nil, go_sem]) <;> rfl) ?_).stp)
   rintro _ _ rfl
   (simp only [aInts, aSets, List.append_nil, List.nil_append, List.length_map, go_sem]; refine hK1 _ ?_; clear hK1 K1)
   (repeat (first | (refine aw_seq ?_; intro K hK) | refine aw_block ?_ | refine aw_region ?_ | (refine lst_x rfl rfl ?_; intro K1 hK1; simp only [go_sem]; (first | refine hK1 _ ?_ | refine andk (hK1 _ ?_)); clear hK1 K1) | ((first | refine lst_nil ?_ | refine aw_skip ?_); refine hK _ ?_; clear hK K)))
   ((try refine aw_ret ?_); (try refine lst_nil ?_); (try simp only [ThenA, InBl]); refine ret_mk (by first | exact .inl rfl | exact .inr rfl) rfl ?_; simp only [rtn, resA, resL, resV, Try.results3, go_sem])
end Go.Proofs.Ythlckclbjknldaa
