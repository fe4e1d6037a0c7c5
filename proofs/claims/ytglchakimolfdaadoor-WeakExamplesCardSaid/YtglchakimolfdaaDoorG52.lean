/- flow: New, Stable, Walker.Reach. flow: Ticks, Initials, Acceptance. The compares of flow and delay. flow.Canonical. diamond.TauLoops. -/
import Derived.Test.YtglchakimolfdaaDoorG42
import Derived.Test.YtglchakimolfdaaDoorMG
import Derived.Test.YtglchakimolfdaaDoorG68
import Derived.Test.YtglchakimolfdaaDoorMD
import Derived.Shelf.SlSortCmp.Kit1
import Derived.Test.YtglchakimolfdaaDoorMF
import Derived.Test.YtglchakimolfdaaDoorShlfS
import Derived.Shelf.Sort.Plain
import Derived.Shelf.Slices.In.SortNone
import Derived.Test.YtglchakimolfdaaDoorZk
import Derived.Test.YtglchakimolfdaaDoorG11
import Derived.Test.YtglchakimolfdaaDoorG45
namespace Go.Proofs.YtglchakimolfdaaDoor
set_option linter.unusedVariables false
set_option linter.unusedSimpArgs false
open Go.RowKit
set_option maxRecDepth 100000
attribute [local go_sem] List.set_cons_zero List.set_cons_succ List.map_cons List.map_nil List.take_succ_cons List.take_zero List.drop_zero List.drop_succ_cons C.pl C.one List.all_cons List.all_nil Bool.and_true Nat.mul_one Int.toNat_natCast

end Go.Proofs.YtglchakimolfdaaDoor
namespace Go.Proofs.YtglchakimolfdaaDoor
set_option linter.unusedVariables false
set_option linter.unusedSimpArgs false
open Go.RowKit
set_option maxRecDepth 100000
theorem fcmp_fc (a b : Ar) : FC Tryd.prog 74 [.a (.g [.v (.int .i64 a.1), .v (.int .i64 a.2)]), .a (.g [.v (.int .i64 b.1), .v (.int .i64 b.2)])] [] (fun r o => o = [] ∧ r = .i (cmpR a b)) := by
 refine fc_intro Tryd.func74 rfl (by rw [Tryd.ntmps74]; simp) ?_
 rw [Tryd.ntmps74]
 simp only [enum]
 (refine wk1 (an @List.set_cons_zero.{0} @List.set_cons_succ.{0}) ?_;(repeat clear hK K);repeat refine kq fun K hK=>?_)
 (refine aw_regionV [] [(0, 0, 0), (2, 0, 0), (5, 0, 0), (7, 0, 0), (1, 1, 4), (3, 1, 4), (6, 1, 9), (8, 1, 9), (4, 2, 0), (9, 2, 0), (10, 2, 0), (11, 2, 0), (12, 2, 0)] (by kernel_rfl) (by kernel_rfl) (by intro c st h; simp [ThenA, InBl, Ret] at h) ?_)
 (refine vk0 ?_; repeat clear hK K)
 (refine v_2 rfl rfl ?_; intro K1 hK1; refine stpX_mono ?_; refine xv [] (cmp_fc a.1 b.1) ?_ ?_)
 ·rintro _ _ ⟨rfl, rfl⟩ i o hi hl; simp at hl
 rintro _ _ ⟨rfl, rfl⟩
 (refine bkz ?_; clear hK1 K1)
 (refine vk0 ?_; repeat clear hK K)
 (refine v_2 rfl rfl ?_; intro K1 hK1; refine stpX_mono ?_; refine xv [] (cmp_fc a.2 b.2) ?_ ?_)
 ·rintro _ _ ⟨rfl, rfl⟩ i o hi hl; simp at hl
 rintro _ _ ⟨rfl, rfl⟩
 (refine bkz ?_; clear hK1 K1)
 (refine vk0 ?_; repeat clear hK K)
 (refine v_3 rfl rfl rfl ?_; intro K1 hK1; refine stp_ev rfl ?_; simp only [go_sem, List.set_cons_zero, List.set_cons_succ]; (first | refine hK1 _ ?_ | refine andk (hK1 _ ?_)); clear hK1 K1)
 (refine v_le (le_frz (r := ⟨3, 1, true, cInts [cmpI a.1 b.1, cmpI a.2 b.2]⟩) 2 (tInts [cmpI a.1 b.1, cmpI a.2 b.2]) rfl (fz_c _) (show 0 < (1 : Nat) by omega)) ?_; simp only [ST.frz, A0.frz, AV.frz, C.frz, Nat.le_refl, List.set_cons_zero, List.set_cons_succ, go_sem, tInts_len, tInts_take, List.length_cons, List.length_nil, List.take_succ_cons, List.take_zero])
 (refine vk0 ?_; repeat clear hK K)
 (refine v_2 rfl rfl ?_; intro K1 hK1; refine stpX_mono ?_; refine stpX_call (ids := []) [] (cmpOr_fc [cmpI a.1 b.1, cmpI a.2 b.2] (by simp)) rfl rfl (by simp only [go_sem]) (by kernel_rfl) rfl rfl rfl (by (simp only [List.map_append, List.append_nil, go_sem]) <;> rfl) (by (simp only [pkh, aInts, go_sem]) <;> rfl) ?_ ?_)
 ·rintro _ _ ⟨rfl, rfl⟩ i o hi hl; simp at hl
 rintro _ _ ⟨rfl, rfl⟩
 (refine bkz ?_; clear hK1 K1)
 (refine v_3 rfl rfl rfl ?_; intro K1 hK1; refine stp_ev rfl ?_; simp only [go_sem]; (first | refine hK1 _ ?_ | refine andk (hK1 _ ?_)); clear hK1 K1)
 (refine vk0 ?_; repeat clear hK K)
 refine rp0 [] Tryd.results74 ?_
 rw [orL_cmp]
attribute [local go_sem] List.set_cons_zero List.set_cons_succ List.map_cons List.map_nil List.take_succ_cons List.take_zero List.drop_zero List.drop_succ_cons C.pl C.one List.all_cons List.all_nil Bool.and_true Nat.mul_one Int.toNat_natCast
theorem canGo_pre (R : List (List Ar)) : ∀ (f i : Nat) (num old : List Int) (out : List (List Ar)), ∃ l, (canGo R f i num old out).1 = out ++ l := by
 intro f
 induction f with
 | zero => intro i num old out; exact ⟨[], by simp [canGo]⟩
 | succ f ih =>
  intro i num old out
  unfold canGo
  split
  ·exact ⟨[], by simp⟩
  ·obtain ⟨l, hl⟩ := ih (i + 1) (rowGo (rowOf (R.getD (Int.toNat ‹_›) [])) num old []).1 (rowGo (rowOf (R.getD (Int.toNat ‹_›) [])) num old []).2.1 (out ++ [(rowGo (rowOf (R.getD (Int.toNat ‹_›) [])) num old []).2.2])
   exact ⟨_ :: l, by rw [hl, List.append_assoc]; rfl⟩
theorem totA_app (x y : List (List Ar)) : totA (x ++ y) = totA x + totA y := by simp [totA]
theorem totA_one (r : List Ar) : totA [r] = r.length := by simp [totA]
def fcR (q : List (List Ar)) (r : AV) (o : List Ob) : Prop :=
 if totA q ≤ 262144 then o = [.r ⟨27, 1, false, [.t 1 (tRows q)]⟩] ∧ r = .tup [.g [.t 1 (tRows q)], .c (.v (.bool true))]
 else o = [.r ⟨27, 1, false, [.v (.slice none 0 0)]⟩] ∧ r = .tup [.g [.v (.slice none 0 0)], .c (.v (.bool false))]
set_option maxHeartbeats 8000000 in
theorem fcanon_fc (R : List (List Ar)) (h1 : 1 ≤ R.length) (hbd : ∀ r ∈ R, ∀ a ∈ r, 0 ≤ a.2 ∧ a.2 < (R.length : Int)) (hn : R.length ≤ 1000000) (hr : ∀ r ∈ R, r.length ≤ 1000000) : FC Tryd.prog 59 [.a (.c (.t 1 (tRows R)))] [] (fcR (canonR R).1) := by
 refine fc_intro Tryd.func59 rfl (by rw [Tryd.ntmps59]; simp) ?_
 rw [Tryd.ntmps59]
 simp only [enum]
 (refine wk1 @tRows_len ?_;(repeat clear hK K);repeat refine kq fun K hK=>?_)
 (refine lst_cons rfl ?_; intro K1 hK1; refine stp_callσ (ids := []) [1] (repeat_fc (-1) R.length h1 hn) rfl rfl (by simp only [go_sem]) (by first | assumption | kernel_rfl) rfl rfl (by (simp only [List.map_append, List.append_nil, go_sem]) <;> rfl) (by (simp only [pkh, rInts, cInts, go_sem]) <;> rfl) ?_ ?_)
 ·rintro _ _ ⟨rfl, rfl⟩; rfl
 rintro _ _ ⟨rfl, rfl⟩
 (simp only [aInts, aSets, rInts, cInts_up, List.append_nil, List.nil_append, List.length_map, go_sem]; refine hK1 _ ?_; clear hK1 K1)
 have g0 : 0 < (List.replicate R.length (-1 : Int)).length := by simp; omega
 (refine wks1 (an @cInts_len (an @List.length_replicate.{0} @cInts_set)) ?_;(repeat clear hK K);repeat refine kq fun K hK=>?_)
 refine aw_le (le_new 24 1) ?_
 simp only [List.cons_append, List.nil_append]
 refine aw_le (le_cell 4 0 5 (by decide) rfl rfl rfl) ?_
 simp only [List.set_cons_zero, List.set_cons_succ]
 refine aw_le (le_pick [0, 2, 3, 4, 5] rfl rfl) ?_
 (try simp only [List.set_nil, List.take_nil, List.take_zero, List.map_append, go_sem])
 (try simp only [cInts_ren])
 refine aw_loop (fun x : Nat × List Int × List Int × List (List Ar) => { tm := [(0, .a (.c (.t 1 (tRows R)))), (2, .a (.c (.p 0 0))), (4, .a (.c (.s 1 R.length))), (5, .a (.c (.s 2 x.2.2.1.length))), (6, .i (totA x.2.2.2)), (7, .a (.c (.p 3 0))), (8, .i x.1)], hp := [.r ⟨27, 1, false, [.v (.slice none 0 0)]⟩, .r ⟨3, 1, true, cInts x.2.1⟩, .r ⟨3, 1, true, cInts x.2.2.1⟩, .r ⟨27, 1, false, [.s 4 x.1]⟩, .r ⟨24, 1, true, cRows x.2.2.2⟩], n := 87, pin := 0 }) (fun x => NumOk R.length x.2.1 x.2.2.1 ∧ NumInj x.2.1 x.2.2.1 ∧ canGo R (R.length - x.1) x.1 x.2.1 x.2.2.1 x.2.2.2 = canonR R ∧ x.1 ≤ x.2.2.1.length ∧ x.2.2.2.length = x.1 ∧ totA x.2.2.2 ≤ 262144) (fun x => R.length - x.1) (0, (List.replicate R.length (-1)).set 0 0, [0], []) ?_ ?_ ?_
 ·exact ⟨NumOk.start h1, NumInj.start h1, rfl, by simp, rfl, by simp [totA]⟩
 ·simp only [totA, List.map_nil, List.sum_nil]
  exact lmz
 ·rintro ⟨i, num, old, out⟩ ⟨hN, hI, hC, hio, hoi, hto⟩ K hK
  simp only at hN hI hC hio hoi hto
  have hlen := hN.len
  have hle := hN.le
  by_cases hlt : i < old.length
  ·have d1 : decide ((i : Int) < (old.length : Int)) = true := by simpa using hlt
   have hs0 := hN.st _ (List.getElem_mem hlt)
   obtain ⟨sn, hsn⟩ : ∃ sn : Nat, old[i] = sn := ⟨old[i].toNat, by omega⟩
   have hsl : sn < R.length := by omega
   have go : (cInts old)[i]? = some (.v (.int .i64 sn)) := by rw [← hsn]; exact cInts_get (List.getElem?_eq_getElem hlt)
   have hgR := List.getElem?_eq_getElem hsl
   have hrl := hr _ (List.getElem_mem hsl)
   have hst := canGo_step (rows := R) (n := R.length) (i := i) (num := num) (old := old) (out := out) (s := (sn : Int)) (r := R[sn]) (by omega) (by rw [List.getElem?_eq_getElem hlt, hsn]) (by simp [hgR]) rfl
   generalize hrr : R[sn] = r at *
   have hcl := clone_arcs (tArcs r) (by rw [tArcs_len]; omega)
   rw [tArcs_of, tArcs_len, half2] at hcl
   (refine wk1 (an @d1 @cInts_len) ?_;(repeat clear hK K);repeat refine kq fun K hK=>?_)
   refine cxz ?_
   (refine wk1 (an @tRows_len (an (tRows_get hgR) (an @cInts_len @go))) ?_;(repeat clear hK K);repeat refine kq fun K hK=>?_)
   (refine ckz hcl ?_; intro K1 hK1)
   rintro _ _ ⟨rfl, rfl⟩
   (simp only [aInts, aSets, cArcs_up3, List.append_nil, List.nil_append, List.length_map, go_sem]; refine hK1 _ ?_; clear hK1 K1)
   (refine wk0 ?_;(repeat clear hK K);repeat refine kq fun K hK=>?_)
   (refine lst_cons rfl ?_; intro K1 hK1; refine stp_callσ (ids := []) [5] (sortA_fc 74 (by kernel_rfl) fcmp_fc r (by omega)) rfl rfl (by simp only [go_sem]) (by first | assumption | kernel_rfl) rfl rfl (by (simp only [List.map_append, List.append_nil, go_sem]) <;> rfl) (by (simp only [pkh, cArcs_ren3, go_sem]) <;> rfl) ?_ ?_)
   ·rintro _ _ ⟨rfl, L', _, _, rfl⟩; rfl
   rintro _ _ ⟨rfl, L', hperm, hsort, rfl⟩
   (simp only [aInts, aSets, cArcs_up3, List.append_nil, List.nil_append, List.length_map, go_sem]; refine hK1 _ ?_; clear hK1 K1)
   have hLl := hperm.length_eq
   have hq : cmpA L' = rowOf r := by rw [cmpA_comp]; exact comp_sort hperm hsort
   rw [← hLl]
   (refine wk0 ?_;(repeat clear hK K);repeat refine kq fun K hK=>?_)
   (refine lst_cons rfl ?_; intro K1 hK1; refine stp_callσ (ids := []) [5] (compact_arcs L' (by omega)) rfl rfl (by simp only [go_sem]) (by first | assumption | kernel_rfl) rfl rfl (by (simp only [List.map_append, List.append_nil, go_sem]) <;> rfl) (by (simp only [pkh, cArcs_ren3, go_sem]) <;> rfl) ?_ ?_)
   ·rintro _ _ ⟨rfl, rest, us, _, _, rfl⟩; rfl
   rintro _ _ ⟨rfl, rest, us, hrest, hr0, rfl⟩
   (simp only [aInts, aSets, cArcs_up3, List.append_nil, List.nil_append, List.length_map, go_sem]; refine hK1 _ ?_; clear hK1 K1)
   (refine wk0 ?_;(repeat clear hK K);repeat refine kq fun K hK=>?_)
   obtain ⟨q, hqd⟩ : ∃ q, q = rowOf r := ⟨_, rfl⟩
   rw [← hqd] at hq hst
   have hqs : SortA q := by rw [hqd]; exact rowOf_sorted r
   have hql : q.length ≤ 1000000 := by rw [hqd]; exact Nat.le_trans (len_rowOf r) (by omega)
   have hqb : ∀ a ∈ q, 0 ≤ a.2 ∧ a.2 < (R.length : Int) := fun a ha => by
    rw [hqd, mem_rowOf] at ha
    exact hbd r (by rw [← hrr]; exact List.getElem_mem hsl) a ha
   rw [hq]
   refine aw_le (le_take 5 (q.length * 2) rfl ?_) ?_
   ·intro _ h
    rw [cut_arcs _ _ _ (cArcs_up3 _ _)] at h
    have hq0 : q = [] := by
     have := congrArg List.length h
     rw [cArcs_len] at this
     exact List.length_eq_zero_iff.1 (by simp at this; omega)
    have hL0 : L' = [] := by
     cases L' with
     | nil => rfl
     | cons x xs =>
      have : cmpA (x :: xs) = [] := by rw [hq, hq0]
      simp [cmpA] at this
    rw [hr0 hL0, hq0]; rfl
   simp only [cut_arcs _ _ _ (cArcs_up3 _ _), go_sem]
   refine aw_loop (fun x : Nat × List Int × List Int × List Ar => { tm := [(0, .a (.c (.t 1 (tRows R)))), (2, .a (.c (.p 0 0))), (4, .a (.c (.s 1 R.length))), (5, .a (.c (.s 2 x.2.2.1.length))), (6, .i (totA out)), (7, .a (.c (.p 3 0))), (8, .i i), (9, .a (.c (.s 5 q.length))), (37, .a (.c (.s 5 q.length))), (38, .i q.length), (39, .i x.1)], hp := [.r ⟨27, 1, false, [.v (.slice none 0 0)]⟩, .r ⟨3, 1, true, cInts x.2.1⟩, .r ⟨3, 1, true, cInts x.2.2.1⟩, .r ⟨27, 1, false, [.s 4 i]⟩, .r ⟨24, 1, true, cRows out⟩, .r ⟨23, 2, true, cArcs x.2.2.2⟩], n := 87, pin := 0 }) (fun x => x.1 ≤ q.length ∧ x.2.2.2.length = q.length ∧ NumOk R.length x.2.1 x.2.2.1 ∧ old.length ≤ x.2.2.1.length ∧ NL (numL q num old) x.2.2.2 q x.1 x.2.1 x.2.2.1) (fun x => q.length - x.1) (0, num, old, q) ?_ ?_ ?_
   ·exact ⟨by simp, rfl, hN, Nat.le_refl _, NL.start q num old⟩
   ·exact lmz
   ·rintro ⟨k, num1, old1, ya⟩ ⟨hk, hyl, hN1, hol, hNL⟩ K hK
    simp only at hk hyl hN1 hol hNL
    have hlen1 := hN1.len
    have hle1 := hN1.le
    by_cases hlt2 : k < q.length
    ·have d2 : decide ((k : Int) < (q.length : Int)) = true := by simpa using hlt2
     have hky : k < ya.length := by omega
     have hyq : ya[k] = q[k] := by
      have := congrArg (fun l => l[0]?) hNL.2.2.2
      simp only [List.getElem?_drop, Nat.add_zero] at this
      rw [List.getElem?_eq_getElem hky, List.getElem?_eq_getElem hlt2] at this
      exact Option.some.inj this
     have hyb := hqb _ (List.getElem_mem hlt2)
     rw [← hyq] at hyb
     obtain ⟨e, tn, hya⟩ : ∃ (e : Int) (tn : Nat), ya[k] = (e, (tn : Int)) := ⟨ya[k].1, ya[k].2.toNat, by
      have : (ya[k].2.toNat : Int) = ya[k].2 := by omega
      rw [this]⟩
     have hyk : ya[k]? = some (e, (tn : Int)) := by rw [List.getElem?_eq_getElem hky, hya]
     have htl : tn < R.length := by rw [hya] at hyb; have := hyb.2; simp only at this; omega
     have hat := cArcs_at hky
     rw [hya] at hat
     have gn : (cInts num1)[tn]? = some (.v (.int .i64 num1[tn])) := cInts_get (List.getElem?_eq_getElem (by omega))
     have gn2 : num1[tn]? = some num1[tn] := List.getElem?_eq_getElem (by omega)
     (refine wk1 @d2 ?_;(repeat clear hK K);repeat refine kq fun K hK=>?_)
     refine cxz ?_
     by_cases hx : num1[tn] < 0
     ·have d3 : decide (num1[tn] < 0) = true := by simpa using hx
      have gs : (cInts (num1.set tn (old1.length : Int)))[tn]? = some (.v (.int .i64 (old1.length : Int))) := cInts_get (List.getElem?_set_self (by omega))
      have op := old_push old1 (tn : Int)
      have cs := cArcs_set1 hyk (old1.length : Int)
      (refine wks1 (an @hat (an @cArcs_len (an @hyl (an @gn (an @d3 (an @cInts_len @hlen1)))))) ?_;(repeat clear hK K);repeat refine kq fun K hK=>?_)
      refine cxz ?_
      (refine wks1 (an @cInts_len (an @hlen1 (an @cInts_set (an @op (an @gs (an @cs (an @cArcs_len (an @hyl @List.length_set.{0})))))))) ?_;(repeat clear hK K);repeat refine kq fun K hK=>?_)
      refine rnz ?_
      have hone : numOne num1 old1 (tn : Int) = (num1.set tn (old1.length : Int), old1 ++ [(tn : Int)]) := by
       simp only [numOne, Int.toNat_natCast, List.getD, gn2, Option.getD_some, if_pos hx]
      have hN2 := hN1.one (t := (tn : Int)) (by omega) (by omega)
      rw [hone] at hN2
      refine hK _ (k + 1, num1.set tn (old1.length : Int), old1 ++ [(tn : Int)], ya.set k (e, (old1.length : Int))) ⟨hlt2, by simp [hyl], hN2, by simp; omega, hNL.neg hyk gn2 hx rfl⟩ (by simp only; omega) ?_
      refine Le.trans (le_pick [0, 1, 8, 3, 4, 5] rfl rfl) ?_
      (try simp only [List.set_nil, List.take_nil, List.take_zero, List.map_append, go_sem])
      (try simp only [cInts_ren, cArcs_ren3, cRows_ren])
      simp only [List.length_append, List.length_cons, List.length_nil]
      exact lmz
     ·have d3 : decide (num1[tn] < 0) = false := by simpa using hx
      have cs := cArcs_set1 hyk num1[tn]
      (refine wks1 (an @hat (an @cArcs_len (an @hyl (an @gn (an @d3 (an @cInts_len @hlen1)))))) ?_;(repeat clear hK K);repeat refine kq fun K hK=>?_)
      refine cyz ?_
      (refine wks1 (an @gn (an @cs (an @cArcs_len (an @hyl (an @cInts_len @hlen1))))) ?_;(repeat clear hK K);repeat refine kq fun K hK=>?_)
      refine rnz ?_
      refine hK _ (k + 1, num1, old1, ya.set k (e, num1[tn])) ⟨hlt2, by simp [hyl], hN1, hol, hNL.pos hyk gn2 hx⟩ (by simp only; omega) ?_
      refine Le.trans (le_pick [0, 1, 2, 3, 4, 5] rfl rfl) ?_
      (try simp only [List.set_nil, List.take_nil, List.take_zero, List.map_append, go_sem])
      (try simp only [cInts_ren, cArcs_ren3, cRows_ren])
      exact lmz
    ·have d2 : decide ((k : Int) < (q.length : Int)) = false := by simpa using hlt2
     obtain ⟨f1, f2, f3⟩ := hNL.fin (by omega) hyl
     have hnd : ya.Nodup := by rw [f1]; exact numL_nodup q hqs (fun a ha => by rw [hlen]; exact hqb a ha) hI
     have hI2 : NumInj num1 old1 := by rw [f2, f3]; exact numL_inj q (fun a ha => by rw [hlen]; exact hqb a ha) hI
     (refine wk1 @d2 ?_;(repeat clear hK K);repeat refine kq fun K hK=>?_)
     refine cyz ?_
     (refine ekz ?_;repeat clear hK K)
     rw [← hyl]
     (refine wk0 ?_;(repeat clear hK K);repeat refine kq fun K hK=>?_)
     (refine lst_cons rfl ?_; intro K1 hK1; refine stp_callσ (ids := []) [5] (sortA_fc 74 (by kernel_rfl) fcmp_fc ya (by omega)) rfl rfl (by simp only [go_sem]) (by first | assumption | kernel_rfl) rfl rfl (by (simp only [List.map_append, List.append_nil, go_sem]) <;> rfl) (by (simp only [pkh, cArcs_ren3, go_sem]) <;> rfl) ?_ ?_)
     ·rintro _ _ ⟨rfl, L2, _, _, rfl⟩; rfl
     rintro _ _ ⟨rfl, L2, hp2, hs2, rfl⟩
     (simp only [aInts, aSets, cArcs_up3, List.append_nil, List.nil_append, List.length_map, go_sem]; refine hK1 _ ?_; clear hK1 K1)
     have hL2 : L2 = rowOf ya := sort_nodup hnd hp2 hs2
     have hL2l := hp2.length_eq
     rw [← hL2l]
     (refine lst_le (le_frz (r := ⟨23, 2, true, cArcs L2⟩) 5 (tArcs L2) rfl (fz_ca _) (show 0 < (2 : Nat) by omega)) ?_; simp only [ST.frz, A0.frz, AV.frz, C.frz, Nat.le_refl, List.set_cons_zero, List.set_cons_succ, go_sem, tArcs_len, half2, tArcs_take, List.take_length])
     have htt : totA (out ++ [L2]) = totA out + L2.length := by rw [totA_app, totA_one]
     have hCn : canGo R (R.length - (i + 1)) (i + 1) num1 old1 (out ++ [L2]) = canonR R := by
      rw [← hC, hst, rowGo_numL, f2, f3, hL2, f1]
      rfl
     by_cases htb : totA (out ++ [L2]) > 262144
     ·have d5 : decide ((totA out : Int) + (L2.length : Int) > 262144) = true := decide_eq_true (by omega)
      (refine wk1 (an @tArcs_len (an @half2 @d5)) ?_;(repeat clear hK K);repeat refine kq fun K hK=>?_)
      refine cxz ?_
      (refine wks0 ?_;(repeat clear hK K);repeat refine kq fun K hK=>?_)
      refine rp0 [0] Tryd.results59 ?_
      obtain ⟨l, hl⟩ := canGo_pre R (R.length - (i + 1)) (i + 1) num1 old1 (out ++ [L2])
      rw [hCn] at hl
      unfold fcR
      rw [if_neg (by rw [hl, totA_app]; omega)]
      exact ⟨rfl, rfl⟩
     ·have d5 : decide ((totA out : Int) + (L2.length : Int) > 262144) = false := decide_eq_false (by omega)
      have crp := cRows_push out L2 hoi
      have ett : (totA out : Int) + (L2.length : Int) = (totA (out ++ [L2]) : Int) := by omega
      (refine wk1 (an @tArcs_len (an @half2 @d5)) ?_;(repeat clear hK K);repeat refine kq fun K hK=>?_)
      refine cyz ?_
      (refine wks1 (an @crp (an @cRows_len @hoi)) ?_;(repeat clear hK K);repeat refine kq fun K hK=>?_)
      refine rnz ?_
      refine hK _ (i + 1, num1, old1, out ++ [L2]) ⟨hN1, hI2, hCn, by simp only; omega, by simp [hoi], by simp only; omega⟩ (by simp only; omega) ?_
      refine Le.trans (le_pick [0, 1, 2, 3, 7] rfl rfl) ?_
      (try simp only [List.set_nil, List.take_nil, List.take_zero, List.map_append, go_sem])
      (try simp only [cInts_ren, cRows_ren, ett])
      exact lmz
  ·have d1 : decide ((i : Int) < (old.length : Int)) = false := by simpa using hlt
   have hfin : canonR R = (out, old) := by rw [← hC]; exact canGo_stop (by omega)
   (refine wk1 (an @d1 @cInts_len) ?_;(repeat clear hK K);repeat refine kq fun K hK=>?_)
   refine cyz ?_
   (refine ekz ?_;repeat clear hK K)
   refine aw_le (le_sink (r := ⟨24, 1, true, cRows out⟩) (ri := ⟨27, 1, false, [.s 4 i]⟩) (ts := tRows out) 3 0 4 i (by decide) rfl rfl rfl rfl (show 0 < 1 by omega) (by simp only [cRows_len, hoi]; omega) (fz_cr _)) ?_
   simp only [go_sem]
   refine aw_le (le_ot 3 rfl) ?_
   simp only [otC, go_sem]
   (refine wks0 ?_;(repeat clear hK K);repeat refine kq fun K hK=>?_)
   refine rp0 [0] Tryd.results59 ?_
   rw [hfin]
   unfold fcR
   rw [if_pos hto]
   exact ⟨rfl, rfl⟩
theorem set_two2 (L : List C) (s : Nat) (x y : C) : (L.set s x).set s y = L.set s y := by simp
end Go.Proofs.YtglchakimolfdaaDoor
